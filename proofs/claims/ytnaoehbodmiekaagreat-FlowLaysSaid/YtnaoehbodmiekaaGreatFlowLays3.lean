/- Part 3 of the proof: K3, K4, K5, K6, K7, K8, K9, K10, K11, K12, U1, P1, F1, FK, G1, G2, F2, G3, G4, F3, EngZe, EngZf. -/
import Derived.Test.YtnaoehbodmiekaaGreatFlowLays2
set_option linter.unusedSimpArgs false
set_option linter.unusedVariables false
set_option maxRecDepth 100000
set_option maxHeartbeats 16000000
namespace Go.aJ
open Go
theorem Qp:aT Go.Proofs.Tryz.prog 83 94 (fc Go.Proofs.Tryz.prog 83 94 [(.t 2)]) [(.t 2)]:=bn (by kernel_rfl)
theorem Qq:aT Go.Proofs.Tryz.prog 58 63 (fc Go.Proofs.Tryz.prog 58 63 [(.t 2)]) [(.t 2)]:=bn (by kernel_rfl)
theorem FV (s:aC) {k:Nat} (h:k<18):∃ o,ny[k]?=some o∧((s.cells.map SV.rv).drop o).take 2=((fP s)[k]'h).cells.map SV.rv∧o+2≤48:=by
 have:k=0∨k=1∨k=2∨k=3∨k=4∨k=5∨k=6∨k=7∨k=8∨k=9∨k=10∨k=11∨k=12∨k=13∨k=14∨k=15∨k=16∨k=17:=by omega
 rcases this with rfl | rfl | rfl | rfl | rfl | rfl | rfl | rfl | rfl | rfl | rfl | rfl | rfl | rfl | rfl | rfl | rfl | rfl <;> exact ⟨_,rfl,rfl,by decide⟩
theorem QO (s:aC) {k o:Nat} (h:k<18) (ho:ny[k]?=some o):(s.cells.map SV.rv)[o]?=some (.rv (.int .i64 ((fP s)[k]'h).kind))∧(s.cells.map SV.rv)[o+1]?=some (.rv (.int .i64 ((fP s)[k]'h).n)):=by
 have:k=0∨k=1∨k=2∨k=3∨k=4∨k=5∨k=6∨k=7∨k=8∨k=9∨k=10∨k=11∨k=12∨k=13∨k=14∨k=15∨k=16∨k=17:=by omega
 rcases this with rfl | rfl | rfl | rfl | rfl | rfl | rfl | rfl | rfl | rfl | rfl | rfl | rfl | rfl | rfl | rfl | rfl | rfl <;>(cases ho;exact ⟨rfl,rfl⟩)
theorem GU {k:Nat} {i o:Nat} (h:ny[k]?=some o):(gR i ny)[k]?.getD []=[.ptr i o]:=by
 simp [gR,List.getElem?_map,h]
def rj (s:aC):List Ln:=[s.width,s.height,s.jo,s.jm,s.jK,s.jJ]
def qW (s:aC) (k:Nat):Bool:=(List.range k).all fun j=>lO (nD s.pad j) (nD s.bw j)
theorem RZ (s:aC) (k:Nat):qW s (k+1)=(qW s k && lO (nD s.pad k) (nD s.bw k)):=by simp [qW,List.range_succ]
theorem RY (s:aC):qW s 4=(lO s.pad.a s.bw.a && lO s.pad.b s.bw.b && lO s.pad.c s.bw.c && lO s.pad.d s.bw.d):=by
 simp [qW,List.range_succ,nD,Bool.and_assoc]
theorem HZ (s:aC):aG Go.Proofs.Tryz.prog 83 [s.sv] [] [] (.rv (.bool (jh s))):=by
 refine bt Qp [s.sv] _ (by simp) (by simp [aO,aW,bl,aQ,aY,aC.sv,Ln.sv,Nd.sv]) (fun K hK=>?_)
 have bad:∀ e h,lk e 2 = .rv (.bool false)→jh s=false→K .ret ⟨e,h⟩:=fun e h l2 hf=>(hK _ _ (bO (by rw [l2,hf]))).2
 conv in fc _ _ _ _=>reduce
 simp -implicitDefEqProofs only [aC.sv,go_sem,Int.reduceNegSucc]
 refine bR (HN 0 1 s (by decide)) (by simp [aU,aB]) (by simp [bh,aR]) ?_
 simp -implicitDefEqProofs only [go_sem,Int.reduceNegSucc]
 refine fG (ι:=Nat) (fun k=>[(10,.rv (.int .i64 k)),(9,.rv (.int .i64 18)),(8,.row 1 13 18),(1,.ptr 0 0)]) (fun k=>[some (.var (s.cells.map .rv)),some (.row 1 13 (gR 0 ny))]) (fun k=>k≤18∧((fP s).drop k).all oB=(fP s).all oB) (fun k=>18 - k) 0 (by simp) (aZ (by simp [lk])) (fun k hk K' hN hX hR=>?_)
 obtain ⟨fI,hk2⟩:=hk
 simp -implicitDefEqProofs only [go_sem,Int.reduceNegSucc]
 refine ai (fun hg=>?_) (fun hg=>?_)
 ·have aE:k<18:=by simp at hg;omega
  obtain ⟨o,ho,qO,vw⟩:=FV s aE
  have gG:=GU (i:=0) ho
  have qg:(gR 0 ny).length=18:=rfl
  have aS:=UD ((fP s)[k]'aE);repeat' (first | (simp -implicitDefEqProofs only [go_sem,Int.reduceNegSucc,gG,qg,qO]) | (with_reducible refine aA ?_) | (with_reducible first | refine ag aS ?_ | refine ah aS ?_) | ((first | refine ai (fun hg=>?_) (fun hg=>?_) | refine ay (fun hg=>?_) (fun hg=>?_) | refine az (fun hg=>?_) (fun hg=>?_)) <;> try simp -implicitDefEqProofs only [hg,Bool.not_true,Bool.not_false]) | ((with_reducible apply And.intro);focus (first | trivial | omega | decide | (simp -implicitDefEqProofs only [maxLen];omega) | (simp [maxLen,af,ak,an,ax,aj,av,au] <;> omega))) | fail)
  ·refine hR _ _ (bad _ _ rfl ?_)
   simp -implicitDefEqProofs only [jh,oR aE hk2 (by simpa using hg),Bool.false_and]
  ·rw [fy (by omega)]
   exact hN (k+1) _ _ ⟨by omega,oS aE hk2 (by simpa using hg)⟩ (by omega) (aZ (by simp [lk]))
 ·have aE:k=18:=by simp at hg;omega
  subst aE
  have hall:=oQ (by rw [au];omega) hk2
  simp -implicitDefEqProofs only [go_sem,Int.reduceNegSucc]
  refine hX _ _ _ ?_
  repeat' (first | (simp -implicitDefEqProofs only [go_sem,Int.reduceNegSucc,cA,dV,cB,dW,cM,ew,cX,eJ,dr,eV,dF,fk,dG,fm,dH,fo,dI,fq,dJ,fu,cC,dX,cD,dY,cE,dZ,cF,ec,cG,ee,cH,eg,cI,ek,cJ,ep,cK,er,cL,eu,cN,ey,cO,ez,cP,eA,cQ,eC,cR,eD,cS,eE,cT,eF,cU,eG,cV,eH,cW,eI,cY,eK,cZ,eL,dc,eM,de,eN,dg,eO,dh,eP,di,eR,dj,eS,dm,eT,dn,eU,dw,eW,dx,eX,cw,eY,dy,eZ,dz,fe,dA,ff,dB,fh,dD,fj,dP,dK,dL,dM,dN,dO,dQ,dR,dS,dU,cz,cv,af,Ln.cells]) | (with_reducible refine aA ?_) | ((first | refine ai (fun hg=>?_) (fun hg=>?_) | refine ay (fun hg=>?_) (fun hg=>?_) | refine az (fun hg=>?_) (fun hg=>?_)) <;> try simp -implicitDefEqProofs only [hg,Bool.not_true,Bool.not_false]) | ((with_reducible apply And.intro);focus (first | trivial | omega | decide | (simp -implicitDefEqProofs only [maxLen];omega) | (simp [maxLen,af,ak,an,ax,aj,av,au] <;> omega))) | fail)
  refine fG (ι:=Nat) (fun k=>[(34,.rv (.int .i64 k)),(33,.rv (.int .i64 6)),(32,.row 2 0 6),(1,.ptr 0 0)]) (fun k=>[some (.var (s.cells.map .rv)),some (.row 1 13 (gR 0 ny)),some (.row 2 0 (aN (lN (rj s))))]) (fun k=>k≤6∧((rj s).drop k).all (fun x=>decide (0≤x.n))=(rj s).all (fun x=>decide (0≤x.n))) (fun k=>6 - k) 0 (by simp) (aZ (by simp [lk])) (fun k hk K' hN hX hR=>?_)
  obtain ⟨fI,hk2⟩:=hk
  simp -implicitDefEqProofs only [go_sem,Int.reduceNegSucc]
  refine ai (fun hg=>?_) (fun hg=>?_)
  ·have aE:k<6:=by simp at hg;omega
   have hx:=BM (l:=rj s) aE
   have Nf:(lN (rj s)).length=6:=rfl
   repeat' (first | (simp -implicitDefEqProofs only [go_sem,Int.reduceNegSucc,hx,Nf,Ln.cells]) | (with_reducible refine aA ?_) | ((first | refine ai (fun hg=>?_) (fun hg=>?_) | refine ay (fun hg=>?_) (fun hg=>?_) | refine az (fun hg=>?_) (fun hg=>?_)) <;> try simp -implicitDefEqProofs only [hg,Bool.not_true,Bool.not_false]) | ((with_reducible apply And.intro);focus (first | trivial | omega | decide | (simp -implicitDefEqProofs only [maxLen];omega) | (simp [maxLen,af,ak,an,ax,aj,av,au] <;> omega))) | fail)
   ·refine hR _ _ (bad _ _ rfl ?_)
    simp -implicitDefEqProofs only [jh]
    rw [show [s.width,s.height,s.jo,s.jm,s.jK,s.jJ]=rj s from rfl,oR aE hk2 (by simp at hg ⊢;omega)]
    simp
   ·rw [fy (by omega)]
    exact hN (k+1) _ _ ⟨by omega,oS aE hk2 (by simp at hg ⊢;omega)⟩ (by omega) (tC _ (by simp) (by simp [qk,aB,fV,ga,zl,gT,gA]) (by simp [lk,aK,gU,gq,gA]))
  ·have aE:k=6:=by simp at hg;omega
   subst aE
   have MC:=oQ (by simp [rj]) hk2
   simp -implicitDefEqProofs only [go_sem,Int.reduceNegSucc]
   refine hX _ _ _ ?_
   repeat' (first | (simp -implicitDefEqProofs only [go_sem,Int.reduceNegSucc]) | (with_reducible refine aA ?_) | ((first | refine ai (fun hg=>?_) (fun hg=>?_) | refine ay (fun hg=>?_) (fun hg=>?_) | refine az (fun hg=>?_) (fun hg=>?_)) <;> try simp -implicitDefEqProofs only [hg,Bool.not_true,Bool.not_false]) | ((with_reducible apply And.intro);focus (first | trivial | omega | decide | (simp -implicitDefEqProofs only [maxLen];omega) | (simp [maxLen,af,ak,an,ax,aj,av,au] <;> omega))) | fail)
   refine fG (ι:=Nat) (fun k=>[(42,.rv (.int .i64 k)),(1,.ptr 0 0)]) (fun k=>[some (.var (s.cells.map .rv))]) (fun k=>k≤4∧qW s k=true) (fun k=>4 - k) 0 (by simp [qW]) (tC _ (by simp) (by simp [qk,aB,fV,ga,gA]) (by simp [lk,aK,gU,gq,gA])) (fun k hk K' hN hX hR=>?_)
   obtain ⟨fI,hk2⟩:=hk
   simp -implicitDefEqProofs only [go_sem,Int.reduceNegSucc]
   refine ai (fun hg=>?_) (fun hg=>?_)
   ·have aE:k<4:=by simp at hg;omega
    have hn:lO (nD s.pad k) (nD s.bw k)=true→qW s (k+1)=true:=fun h=>by rw [RZ,hk2,h];rfl
    have hb:lO (nD s.pad k) (nD s.bw k)=false→jh s=false:=fun h=>by
     have:k=0∨k=1∨k=2∨k=3:=by omega
     rcases this with rfl | rfl | rfl | rfl <;> simp_all [jh,nD]
    have:k=0∨k=1∨k=2∨k=3:=by omega
    rcases this with rfl | rfl | rfl | rfl
    all_goals
     repeat' (first | (simp -implicitDefEqProofs only [go_sem,Int.reduceNegSucc,cA,dV,cB,dW,cM,ew,cX,eJ,dr,eV,dF,fk,dG,fm,dH,fo,dI,fq,dJ,fu,cC,dX,cD,dY,cE,dZ,cF,ec,cG,ee,cH,eg,cI,ek,cJ,ep,cK,er,cL,eu,cN,ey,cO,ez,cP,eA,cQ,eC,cR,eD,cS,eE,cT,eF,cU,eG,cV,eH,cW,eI,cY,eK,cZ,eL,dc,eM,de,eN,dg,eO,dh,eP,di,eR,dj,eS,dm,eT,dn,eU,dw,eW,dx,eX,cw,eY,dy,eZ,dz,fe,dA,ff,dB,fh,dD,fj,dP,dK,dL,dM,dN,dO,dQ,dR,dS,dU,cz,cv,af]) | (with_reducible refine aA ?_) | ((first | refine ai (fun hg=>?_) (fun hg=>?_) | refine ay (fun hg=>?_) (fun hg=>?_) | refine az (fun hg=>?_) (fun hg=>?_)) <;> try simp -implicitDefEqProofs only [hg,Bool.not_true,Bool.not_false]) | ((with_reducible apply And.intro);focus (first | trivial | omega | decide | (simp -implicitDefEqProofs only [maxLen];omega) | (simp [maxLen,af,ak,an,ax,aj,av,au] <;> omega))) | fail)
    all_goals first
     | (refine hR _ _ (bad _ _ rfl (hb ?_));clear hN hX hR hb hn bad hK;simp_all [lO,nD,bG];done)
     | (rw [fy (by omega)];refine hN _ _ _ ⟨by omega,hn ?_⟩ (by omega) (aZ (by simp [lk]));clear hN hX hR hb hn bad hK;simp_all [lO,nD,bG];done)
   ·have aE:k=4:=by simp at hg;omega
    subst aE
    rw [RY] at hk2
    simp -implicitDefEqProofs only [go_sem,Int.reduceNegSucc]
    refine hX _ _ _ ?_
    have fin:∀ e h,lk e 2 = .rv (.bool (sS s))→K .ret ⟨e,h⟩:=fun e h l2=>(hK _ _ (bO (by rw [l2,jh,hall,hk2];rw [show [s.width,s.height,s.jo,s.jm,s.jK,s.jJ]=rj s from rfl,MC];rfl))).2
    clear hK hN hX hR bad
    repeat' (first | (simp -implicitDefEqProofs only [go_sem,Int.reduceNegSucc,cA,dV,cB,dW,cM,ew,cX,eJ,dr,eV,dF,fk,dG,fm,dH,fo,dI,fq,dJ,fu,cC,dX,cD,dY,cE,dZ,cF,ec,cG,ee,cH,eg,cI,ek,cJ,ep,cK,er,cL,eu,cN,ey,cO,ez,cP,eA,cQ,eC,cR,eD,cS,eE,cT,eF,cU,eG,cV,eH,cW,eI,cY,eK,cZ,eL,dc,eM,de,eN,dg,eO,dh,eP,di,eR,dj,eS,dm,eT,dn,eU,dw,eW,dx,eX,cw,eY,dy,eZ,dz,fe,dA,ff,dB,fh,dD,fj,dP,dK,dL,dM,dN,dO,dQ,dR,dS,dU,cz,cv,af]) | (with_reducible refine aA ?_) | ((first | refine ai (fun hg=>?_) (fun hg=>?_) | refine ay (fun hg=>?_) (fun hg=>?_) | refine az (fun hg=>?_) (fun hg=>?_)) <;> try simp -implicitDefEqProofs only [hg,Bool.not_true,Bool.not_false]) | ((with_reducible apply And.intro);focus (first | trivial | omega | decide | (simp -implicitDefEqProofs only [maxLen];omega) | (simp [maxLen,af,ak,an,ax,aj,av,au] <;> omega))) | fail)
    all_goals (refine fin _ _ ?_;(simp_all [lk,sS,bG]) <;>(try (intros;omega)))
theorem UC (s:aC):aG Go.Proofs.Tryz.prog 58 [s.sv] [] [] (.rv (.bool (kU s))):=by
 refine bt Qq [s.sv] _ (by simp) (by simp [aO,aW,bl,aQ,aY,aC.sv,Ln.sv,Nd.sv]) (fun K hK=>?_)
 have bad:∀ e h,lk e 2 = .rv (.bool false)→kU s=false→K .ret ⟨e,h⟩:=fun e h l2 hf=>(hK _ _ (bO (by rw [l2,hf]))).2
 conv in fc _ _ _ _=>reduce
 simp -implicitDefEqProofs only [aC.sv,go_sem,Int.reduceNegSucc]
 refine bR (HN 0 1 s (by decide)) (by simp [aU,aB]) (by simp [bh,aR]) ?_
 simp -implicitDefEqProofs only [go_sem,Int.reduceNegSucc]
 refine fG (ι:=Nat) (fun k=>[(9,.rv (.int .i64 k)),(8,.rv (.int .i64 18)),(7,.row 1 13 18),(1,.ptr 0 0)]) (fun k=>[some (.var (s.cells.map .rv)),some (.row 1 13 (gR 0 ny))]) (fun k=>k≤18∧((fP s).drop k).all pH=(fP s).all pH) (fun k=>18 - k) 0 (by simp) (aZ (by simp [lk])) (fun k hk K' hN hX hR=>?_)
 obtain ⟨fI,hk2⟩:=hk
 simp -implicitDefEqProofs only [go_sem,Int.reduceNegSucc]
 refine ai (fun hg=>?_) (fun hg=>?_)
 ·have aE:k<18:=by simp at hg;omega
  obtain ⟨o,ho,qO,vw⟩:=FV s aE
  have gG:=GU (i:=0) ho
  have qg:(gR 0 ny).length=18:=rfl
  obtain ⟨hc0,qL⟩:=QO s aE ho
  have vz:o<48:=by omega
  have Ni:o+1<48:=by omega
  have kK:∀ e h,lk e 2 = .rv (.bool false)→pH ((fP s)[k]'aE)=false→K .ret ⟨e,h⟩:=fun e h l2 hf=>bad e h l2 (by simp -implicitDefEqProofs only [kU,oR aE hk2 hf,Bool.false_and])
  have nx:∀ e h,pH ((fP s)[k]'aE)=true→fS 0 ⟨e,h⟩ ⟨[(9,.rv (.int .i64 (k+1:Nat))),(8,.rv (.int .i64 18)),(7,.row 1 13 18),(1,.ptr 0 0)],[some (.var (s.cells.map .rv)),some (.row 1 13 (gR 0 ny))]⟩→K' .normal ⟨e,h⟩:=fun e h hf he=>hN (k+1) _ _ ⟨by omega,oS aE hk2 hf⟩ (by omega) he
  have wu:=fy (k:=k) (by omega)
  generalize (fP s)[k]'aE=x at *
  have y_2:=Cy x.n 1099511627776 (by decide) (by decide);have bA:=Cy x.n 1000000 (by decide) (by decide);repeat' (first | (simp -implicitDefEqProofs only [go_sem,Int.reduceNegSucc,gG,qg,hc0,qL,wu]) | (with_reducible refine aA ?_) | (with_reducible first | refine ag y_2 ?_ | refine ah y_2 ?_) | (with_reducible first | refine ag bA ?_ | refine ah bA ?_) | ((first | refine ai (fun hg=>?_) (fun hg=>?_) | refine ay (fun hg=>?_) (fun hg=>?_) | refine az (fun hg=>?_) (fun hg=>?_)) <;> try simp -implicitDefEqProofs only [hg,Bool.not_true,Bool.not_false]) | ((with_reducible apply And.intro);focus (first | trivial | omega | decide | (simp -implicitDefEqProofs only [maxLen];omega) | (simp [maxLen,af,ak,an,ax,aj,av,au] <;> omega))) | fail)
  all_goals first
   | (refine hR _ _ (kK _ _ rfl ?_);clear hN hX hR bad kK nx hK;simp_all [pH,bG];done)
   | (refine nx _ _ ?_ (aZ (by simp [lk]));clear hN hX hR bad kK nx hK;simp_all [pH,bG];done)
 ·have aE:k=18:=by simp at hg;omega
  subst aE
  have hall:=oQ (by rw [au];omega) hk2
  simp -implicitDefEqProofs only [go_sem,Int.reduceNegSucc]
  refine hX _ _ _ ?_
  repeat' (first | (simp -implicitDefEqProofs only [go_sem,Int.reduceNegSucc,cA,dV,cB,dW,cM,ew,cX,eJ,dr,eV,dF,fk,dG,fm,dH,fo,dI,fq,dJ,fu,cC,dX,cD,dY,cE,dZ,cF,ec,cG,ee,cH,eg,cI,ek,cJ,ep,cK,er,cL,eu,cN,ey,cO,ez,cP,eA,cQ,eC,cR,eD,cS,eE,cT,eF,cU,eG,cV,eH,cW,eI,cY,eK,cZ,eL,dc,eM,de,eN,dg,eO,dh,eP,di,eR,dj,eS,dm,eT,dn,eU,dw,eW,dx,eX,cw,eY,dy,eZ,dz,fe,dA,ff,dB,fh,dD,fj,dP,dK,dL,dM,dN,dO,dQ,dR,dS,dU,cz,cv,af]) | (with_reducible refine aA ?_) | ((first | refine ai (fun hg=>?_) (fun hg=>?_) | refine ay (fun hg=>?_) (fun hg=>?_) | refine az (fun hg=>?_) (fun hg=>?_)) <;> try simp -implicitDefEqProofs only [hg,Bool.not_true,Bool.not_false]) | ((with_reducible apply And.intro);focus (first | trivial | omega | decide | (simp -implicitDefEqProofs only [maxLen];omega) | (simp [maxLen,af,ak,an,ax,aj,av,au] <;> omega))) | fail)
  refine fG (ι:=Nat) (fun k=>[(44,.rv (.int .i64 k)),(43,.agg (s.bw.ints.map .rv)),(1,.ptr 0 0)]) (fun k=>[some (.var (s.cells.map .rv))]) (fun k=>k≤4∧(s.bw.list.drop k).all (fun n=>decide (n≤1099511627776))=s.bw.list.all (fun n=>decide (n≤1099511627776))) (fun k=>4 - k) 0 (by simp) (tC _ (by simp) (by simp [qk,aB,fV,ga,gA]) (by simp [lk,aK,gU,gq,aM,ga,gA])) (fun k hk K' hN hX hR=>?_)
  obtain ⟨fI,hk2⟩:=hk
  simp -implicitDefEqProofs only [go_sem,Int.reduceNegSucc]
  refine ai (fun hg=>?_) (fun hg=>?_)
  ·have aE:k<4:=by simp at hg;omega
   have hx:(s.bw.ints.map SV.rv)[k*1]?.getD .dead = .rv (.int .i64 (s.bw.list[k]'aE)):=by
    have:k=0∨k=1∨k=2∨k=3:=by omega
    rcases this with rfl | rfl | rfl | rfl <;> rfl
   have Nc:s.bw.ints.length=4:=rfl
   repeat' (first | (simp -implicitDefEqProofs only [go_sem,Int.reduceNegSucc,hx,Nc]) | (with_reducible refine aA ?_) | ((first | refine ai (fun hg=>?_) (fun hg=>?_) | refine ay (fun hg=>?_) (fun hg=>?_) | refine az (fun hg=>?_) (fun hg=>?_)) <;> try simp -implicitDefEqProofs only [hg,Bool.not_true,Bool.not_false]) | ((with_reducible apply And.intro);focus (first | trivial | omega | decide | (simp -implicitDefEqProofs only [maxLen];omega) | (simp [maxLen,af,ak,an,ax,aj,av,au] <;> omega))) | fail)
   ·refine hR _ _ (bad _ _ rfl ?_)
    simp -implicitDefEqProofs only [kU]
    rw [oR (l:=s.bw.list) aE hk2 (by simp at hg ⊢;omega)]
    simp
   ·rw [fy (by omega)]
    exact hN (k+1) _ _ ⟨by omega,oS (l:=s.bw.list) aE hk2 (by simp at hg ⊢;omega)⟩ (by omega) (aZ (by simp [lk]))
  ·have aE:k=4:=by simp at hg;omega
   subst aE
   have hb:=oQ (l:=s.bw.list) (by simp [Q4.list]) hk2
   simp -implicitDefEqProofs only [go_sem,Int.reduceNegSucc]
   refine hX _ _ _ ?_
   have fin:∀ e h,lk e 2 = .rv (.bool (qQ s.z 1073741824 && decide (s.back≤16777216) && decide (s.line≤16777216)))→K .ret ⟨e,h⟩:=fun e h l2=>(hK _ _ (bO (by rw [l2,kU,hall,hb];rfl))).2
   clear hK hN hX hR bad
   have bF:=Cy s.z 1073741824 (by decide) (by decide);repeat' (first | (simp -implicitDefEqProofs only [go_sem,Int.reduceNegSucc,cA,dV,cB,dW,cM,ew,cX,eJ,dr,eV,dF,fk,dG,fm,dH,fo,dI,fq,dJ,fu,cC,dX,cD,dY,cE,dZ,cF,ec,cG,ee,cH,eg,cI,ek,cJ,ep,cK,er,cL,eu,cN,ey,cO,ez,cP,eA,cQ,eC,cR,eD,cS,eE,cT,eF,cU,eG,cV,eH,cW,eI,cY,eK,cZ,eL,dc,eM,de,eN,dg,eO,dh,eP,di,eR,dj,eS,dm,eT,dn,eU,dw,eW,dx,eX,cw,eY,dy,eZ,dz,fe,dA,ff,dB,fh,dD,fj,dP,dK,dL,dM,dN,dO,dQ,dR,dS,dU,cz,cv,af]) | (with_reducible refine aA ?_) | (with_reducible first | refine ag bF ?_ | refine ah bF ?_) | ((first | refine ai (fun hg=>?_) (fun hg=>?_) | refine ay (fun hg=>?_) (fun hg=>?_) | refine az (fun hg=>?_) (fun hg=>?_)) <;> try simp -implicitDefEqProofs only [hg,Bool.not_true,Bool.not_false]) | ((with_reducible apply And.intro);focus (first | trivial | omega | decide | (simp -implicitDefEqProofs only [maxLen];omega) | (simp [maxLen,af,ak,an,ax,aj,av,au] <;> omega))) | fail)
   all_goals (refine fin _ _ ?_;(simp_all [lk,bG]) <;>(try (intros;omega)))
end Go.aJ

namespace Go.aJ
open Go
theorem OP:aT Go.Proofs.Tryz.prog 53 31 (fc Go.Proofs.Tryz.prog 53 31 [(.t 2)]) [(.t 2)]:=bn (by kernel_rfl)
theorem OO:aT Go.Proofs.Tryz.prog 52 110 (fc Go.Proofs.Tryz.prog 52 110 [(.t 2)]) [(.t 2)]:=bn (by kernel_rfl)
theorem OQ:aT Go.Proofs.Tryz.prog 24 89 (fc Go.Proofs.Tryz.prog 24 89 [(.t 2)]) [(.t 2)]:=bn (by kernel_rfl)
theorem QX (l:List Ln):∀ x∈lN l,∀ r∈x,r.one=true:=by
 intro x hx r hr
 obtain ⟨n,_,rfl⟩:=List.mem_map.1 hx
 simp [Ln.cells] at hr
 rcases hr with rfl | rfl <;> rfl
theorem HO (s:aC):aG Go.Proofs.Tryz.prog 53 [s.sv] [] [] (.rv (.sl 2 (lN (fP s)))):=by
 refine bt OP [s.sv] _ (by simp) (by simp [aO,aW,bl,aQ,aY,aC.sv,Ln.sv,Nd.sv]) (fun K hK=>?_)
 conv in fc _ _ _ _=>reduce
 simp -implicitDefEqProofs only [aC.sv,go_sem,Int.reduceNegSucc]
 repeat' (first | (simp -implicitDefEqProofs only [go_sem,Int.reduceNegSucc,af]) | (with_reducible refine aA ?_) | ((first | refine ai (fun hg=>?_) (fun hg=>?_) | refine ay (fun hg=>?_) (fun hg=>?_) | refine az (fun hg=>?_) (fun hg=>?_)) <;> try simp -implicitDefEqProofs only [hg,Bool.not_true,Bool.not_false]) | ((with_reducible apply And.intro);focus (first | trivial | omega | decide | (simp -implicitDefEqProofs only [maxLen];omega) | (simp [maxLen,af,ak,an,ax,aj,av,au] <;> omega))) | fail)
 exact (hK _ _ ⟨trivial,pK (xs:=lN (fP s)) rfl rfl rfl (QX _)⟩).2
def gH (k:Nat) (x:Ln):Bool:=!(decide (x.kind<0) || decide (x.kind>2) || (decide (x.kind=0) && !decide (x.n=0))) && !((decide (x.n<0) && ((decide (4≤k) && decide (k<10)) || decide (14≤k))) || (decide (14≤k) && decide (x.kind=0)))
def qn (s:aC) (k:Nat):Bool:=(List.range k).all fun j=>gH j ((fP s).getD j default)
theorem RA {s:aC} {k:Nat} (h:k<18):qn s (k+1)=(qn s k && gH k ((fP s)[k]'h)):=by
 have:(fP s).getD k default=(fP s)[k]'h:=by rw [List.getD_eq_getElem?_getD,List.getElem?_eq_getElem h];rfl
 simp -implicitDefEqProofs only [qn,List.range_succ,List.all_append,List.all_cons,List.all_nil,Bool.and_true,this]
theorem Rz {s:aC} {k:Nat} (h:k<18) (hf:gH k ((fP s)[k]'h)=false):qn s 18=false:=by
 have:(fP s).getD k default=(fP s)[k]'h:=by rw [List.getD_eq_getElem?_getD,List.getElem?_eq_getElem h];rfl
 rw [Bool.eq_false_iff]
 intro ht
 have:=List.all_eq_true.1 ht k (by simp;omega)
 simp_all
theorem CA (s:aC):jh s=(qn s 18 && (s.bw.list.all fun n=>!decide (n<0)) && sS s):=by
 have:qn s 18=(gH 0 s.off.a && gH 1 s.off.b && gH 2 s.off.c && gH 3 s.off.d && gH 4 s.width && gH 5 s.height && gH 6 s.jo && gH 7 s.jm && gH 8 s.jK && gH 9 s.jJ && gH 10 s.bB.a && gH 11 s.bB.b && gH 12 s.bB.c && gH 13 s.bB.d && gH 14 s.pad.a && gH 15 s.pad.b && gH 16 s.pad.c && gH 17 s.pad.d):=by
  simp [qn,List.range_succ,fP,Q4.list,Bool.and_assoc]
 rw [this]
 have e1:∀ k x,(k<4∨(10≤k∧k<14))→gH k x=oB x:=fun k x hk=>by
  have h1:decide (14≤k)=false:=decide_eq_false (by omega)
  have h2:(decide (4≤k) && decide (k<10))=false:=by simp;omega
  simp -implicitDefEqProofs only [gH,oB,h1,h2]
  rw [Bool.eq_iff_iff];simp;omega
 have e2:∀ k x,(4≤k∧k<10)→gH k x=(oB x && decide (0≤x.n)):=fun k x hk=>by
  have h1:decide (14≤k)=false:=decide_eq_false (by omega)
  have h2:(decide (4≤k) && decide (k<10))=true:=by simp;omega
  simp -implicitDefEqProofs only [gH,oB,h1,h2]
  rw [Bool.eq_iff_iff];simp;omega
 have e3:∀ k x,14≤k→gH k x=(oB x && !(decide (x.kind=0) || decide (x.n<0))):=fun k x hk=>by
  have h1:decide (14≤k)=true:=decide_eq_true (by omega)
  simp -implicitDefEqProofs only [gH,oB,h1]
  rw [Bool.eq_iff_iff];simp;omega
 rw [e1 0 _ (by omega),e1 1 _ (by omega),e1 2 _ (by omega),e1 3 _ (by omega),e2 4 _ (by omega),e2 5 _ (by omega),e2 6 _ (by omega),e2 7 _ (by omega),e2 8 _ (by omega),e2 9 _ (by omega),e1 10 _ (by omega),e1 11 _ (by omega),e1 12 _ (by omega),e1 13 _ (by omega),e3 14 _ (by omega),e3 15 _ (by omega),e3 16 _ (by omega),e3 17 _ (by omega)]
 rw [Bool.eq_iff_iff]
 simp -implicitDefEqProofs only [jh,fP,Q4.list,lO,List.all_append,List.all_cons,List.all_nil,Bool.and_true,Bool.and_eq_true,Bool.not_eq_true',Bool.or_eq_false_iff,decide_eq_true_eq,decide_eq_false_iff_not]
 constructor <;>(intro h;simp -implicitDefEqProofs only [h,not_false_eq_true,and_self])
theorem Uj (s:aC):aG Go.Proofs.Tryz.prog 52 [s.sv] [] [] (.rv (.bool (jh s))):=by
 refine bt OO [s.sv] _ (by simp) (by simp [aO,aW,bl,aQ,aY,aC.sv,Ln.sv,Nd.sv]) (fun K hK=>?_)
 have bad:∀ e h,lk e 2 = .rv (.bool false)→jh s=false→K .ret ⟨e,h⟩:=fun e h l2 hf=>(hK _ _ (bO (by rw [l2,hf]))).2
 conv in fc _ _ _ _=>reduce
 simp -implicitDefEqProofs only [aC.sv,go_sem,Int.reduceNegSucc]
 have aS:=HO s;repeat' (first | (simp -implicitDefEqProofs only [go_sem,Int.reduceNegSucc,cA,dV,cB,dW,cM,ew,cX,eJ,dr,eV,dF,fk,dG,fm,dH,fo,dI,fq,dJ,fu,cC,dX,cD,dY,cE,dZ,cF,ec,cG,ee,cH,eg,cI,ek,cJ,ep,cK,er,cL,eu,cN,ey,cO,ez,cP,eA,cQ,eC,cR,eD,cS,eE,cT,eF,cU,eG,cV,eH,cW,eI,cY,eK,cZ,eL,dc,eM,de,eN,dg,eO,dh,eP,di,eR,dj,eS,dm,eT,dn,eU,dw,eW,dx,eX,cw,eY,dy,eZ,dz,fe,dA,ff,dB,fh,dD,fj,dP,dK,dL,dM,dN,dO,dQ,dR,dS,dU,cz,cv,af,ax,au]) | (with_reducible refine aA ?_) | (with_reducible first | refine ag aS ?_ | refine ah aS ?_) | ((first | refine ai (fun hg=>?_) (fun hg=>?_) | refine ay (fun hg=>?_) (fun hg=>?_) | refine az (fun hg=>?_) (fun hg=>?_)) <;> try simp -implicitDefEqProofs only [hg,Bool.not_true,Bool.not_false]) | ((with_reducible apply And.intro);focus (first | trivial | omega | decide | (simp -implicitDefEqProofs only [maxLen];omega) | (simp [maxLen,af,ak,an,ax,aj,av,au] <;> omega))) | fail)
 refine fG (ι:=Nat) (fun k=>[(10,.rv (.int .i64 k)),(9,.rv (.int .i64 18)),(3,.rv (.sl 2 (lN (fP s)))),(1,.ptr 0 0)]) (fun k=>[some (.var (s.cells.map .rv))]) (fun k=>k≤18∧qn s k=true) (fun k=>18 - k) 0 (by simp [qn]) (aZ (by simp [lk])) (fun k hk K' hN hX hR=>?_)
 obtain ⟨fI,hk2⟩:=hk
 simp -implicitDefEqProofs only [go_sem,Int.reduceNegSucc]
 refine ai (fun hg=>?_) (fun hg=>?_)
 ·have aE:k<18:=by simp at hg;omega
  have hx:=BM (l:=fP s) aE
  have kK:∀ e h,lk e 2 = .rv (.bool false)→gH k ((fP s)[k]'aE)=false→K .ret ⟨e,h⟩:=fun e h l2 hf=>bad e h l2 (by rw [CA,Rz aE hf];rfl)
  have nx:∀ e h,gH k ((fP s)[k]'aE)=true→fS 0 ⟨e,h⟩ ⟨[(10,.rv (.int .i64 (k+1:Nat))),(9,.rv (.int .i64 18)),(3,.rv (.sl 2 (lN (fP s)))),(1,.ptr 0 0)],[some (.var (s.cells.map .rv))]⟩→K' .normal ⟨e,h⟩:=fun e h hf he=>hN (k+1) _ _ ⟨by omega,by rw [RA aE,hk2,hf];rfl⟩ (by omega) he
  have wu:=fy (k:=k) (by omega)
  have pq:(lN (fP s)).length=18:=rfl
  clear hN hX hK bad
  generalize Ny:(fP s)[k]'aE=x at *
  repeat' (first | (simp -implicitDefEqProofs only [go_sem,Int.reduceNegSucc,hx,pq,Ln.cells,wu]) | (with_reducible refine aA ?_) | ((first | refine ai (fun hg=>?_) (fun hg=>?_) | refine ay (fun hg=>?_) (fun hg=>?_) | refine az (fun hg=>?_) (fun hg=>?_)) <;> try simp -implicitDefEqProofs only [hg,Bool.not_true,Bool.not_false]) | ((with_reducible apply And.intro);focus (first | trivial | omega | decide | (simp -implicitDefEqProofs only [maxLen];omega) | (simp [maxLen,af,ak,an,ax,aj,av,au] <;> omega))) | fail)
  all_goals first
   | (refine hR _ _ (kK _ _ rfl ?_);clear hR kK nx;simp_all [gH,bG];done)
   | (refine nx _ _ ?_ (aZ (by simp [lk]));clear hR kK nx;simp_all [gH,bG];done)
   | (refine hR _ _ (kK _ _ rfl ?_);clear hR kK nx;simp_all [gH,bG];omega)
   | (refine nx _ _ ?_ (aZ (by simp [lk]));clear hR kK nx;simp_all [gH,bG];omega)
 ·have aE:k=18:=by simp at hg;omega
  subst aE
  simp -implicitDefEqProofs only [go_sem,Int.reduceNegSucc]
  refine hX _ _ _ ?_
  repeat' (first | (simp -implicitDefEqProofs only [go_sem,Int.reduceNegSucc,cA,dV,cB,dW,cM,ew,cX,eJ,dr,eV,dF,fk,dG,fm,dH,fo,dI,fq,dJ,fu,cC,dX,cD,dY,cE,dZ,cF,ec,cG,ee,cH,eg,cI,ek,cJ,ep,cK,er,cL,eu,cN,ey,cO,ez,cP,eA,cQ,eC,cR,eD,cS,eE,cT,eF,cU,eG,cV,eH,cW,eI,cY,eK,cZ,eL,dc,eM,de,eN,dg,eO,dh,eP,di,eR,dj,eS,dm,eT,dn,eU,dw,eW,dx,eX,cw,eY,dy,eZ,dz,fe,dA,ff,dB,fh,dD,fj,dP,dK,dL,dM,dN,dO,dQ,dR,dS,dU,cz,cv,af]) | (with_reducible refine aA ?_) | ((first | refine ai (fun hg=>?_) (fun hg=>?_) | refine ay (fun hg=>?_) (fun hg=>?_) | refine az (fun hg=>?_) (fun hg=>?_)) <;> try simp -implicitDefEqProofs only [hg,Bool.not_true,Bool.not_false]) | ((with_reducible apply And.intro);focus (first | trivial | omega | decide | (simp -implicitDefEqProofs only [maxLen];omega) | (simp [maxLen,af,ak,an,ax,aj,av,au] <;> omega))) | fail)
  refine fG (ι:=Nat) (fun k=>[(74,.rv (.int .i64 k)),(1,.ptr 0 0)]) (fun k=>[some (.var (s.cells.map .rv))]) (fun k=>k≤4∧(s.bw.list.drop k).all (fun n=>!decide (n<0))=s.bw.list.all (fun n=>!decide (n<0))) (fun k=>4 - k) 0 (by simp) (aZ (by simp [lk])) (fun k hk K' hN hX hR=>?_)
  obtain ⟨fI,fY⟩:=hk
  simp -implicitDefEqProofs only [go_sem,Int.reduceNegSucc]
  refine ai (fun hg=>?_) (fun hg=>?_)
  ·have aE:k<4:=by simp at hg;omega
   have hx:(s.cells.map SV.rv)[38+k*1]?=some (.rv (.int .i64 (s.bw.list[k]'aE))):=by
    have:k=0∨k=1∨k=2∨k=3:=by omega
    rcases this with rfl | rfl | rfl | rfl <;> rfl
   repeat' (first | (simp -implicitDefEqProofs only [go_sem,Int.reduceNegSucc,hx,af]) | (with_reducible refine aA ?_) | ((first | refine ai (fun hg=>?_) (fun hg=>?_) | refine ay (fun hg=>?_) (fun hg=>?_) | refine az (fun hg=>?_) (fun hg=>?_)) <;> try simp -implicitDefEqProofs only [hg,Bool.not_true,Bool.not_false]) | ((with_reducible apply And.intro);focus (first | trivial | omega | decide | (simp -implicitDefEqProofs only [maxLen];omega) | (simp [maxLen,af,ak,an,ax,aj,av,au] <;> omega))) | fail)
   ·refine hR _ _ (bad _ _ rfl ?_)
    rw [CA,oR (l:=s.bw.list) aE fY (by simp at hg ⊢;omega)]
    simp
   ·rw [fy (by omega)]
    exact hN (k+1) _ _ ⟨by omega,oS (l:=s.bw.list) aE fY (by simp at hg ⊢;omega)⟩ (by omega) (aZ (by simp [lk]))
  ·have aE:k=4:=by simp at hg;omega
   subst aE
   have hb:=oQ (l:=s.bw.list) (by simp [Q4.list]) fY
   simp -implicitDefEqProofs only [go_sem,Int.reduceNegSucc]
   refine hX _ _ _ ?_
   have fin:∀ e h,lk e 2 = .rv (.bool (sS s))→K .ret ⟨e,h⟩:=fun e h l2=>(hK _ _ (bO (by rw [l2,CA,hk2,hb];rfl))).2
   clear hK hN hX hR bad
   repeat' (first | (simp -implicitDefEqProofs only [go_sem,Int.reduceNegSucc,cA,dV,cB,dW,cM,ew,cX,eJ,dr,eV,dF,fk,dG,fm,dH,fo,dI,fq,dJ,fu,cC,dX,cD,dY,cE,dZ,cF,ec,cG,ee,cH,eg,cI,ek,cJ,ep,cK,er,cL,eu,cN,ey,cO,ez,cP,eA,cQ,eC,cR,eD,cS,eE,cT,eF,cU,eG,cV,eH,cW,eI,cY,eK,cZ,eL,dc,eM,de,eN,dg,eO,dh,eP,di,eR,dj,eS,dm,eT,dn,eU,dw,eW,dx,eX,cw,eY,dy,eZ,dz,fe,dA,ff,dB,fh,dD,fj,dP,dK,dL,dM,dN,dO,dQ,dR,dS,dU,cz,cv,af]) | (with_reducible refine aA ?_) | ((first | refine ai (fun hg=>?_) (fun hg=>?_) | refine ay (fun hg=>?_) (fun hg=>?_) | refine az (fun hg=>?_) (fun hg=>?_)) <;> try simp -implicitDefEqProofs only [hg,Bool.not_true,Bool.not_false]) | ((with_reducible apply And.intro);focus (first | trivial | omega | decide | (simp -implicitDefEqProofs only [maxLen];omega) | (simp [maxLen,af,ak,an,ax,aj,av,au] <;> omega))) | fail)
   all_goals (refine fin _ _ ?_;(simp_all [lk,sS,bG]) <;>(try (intros;omega)))
def nA (x:Ln):Bool:=!(((!decide (x.kind=0) && decide (x.kind<3)) && decide (x.kind>0)) && (decide (x.n>if x.kind=2 then 1000000 else 1099511627776) || decide (x.n < - if x.kind=2 then 1000000 else 1099511627776)))
theorem QW (x:Ln):pH x=nA x:=by
 rw [Bool.eq_iff_iff]
 unfold pH nA qQ
 by_cases h2:x.kind=2
 ·simp [h2];omega
 ·by_cases h1:x.kind=1
  ·simp [h1];omega
  ·simp [h1,h2];omega
theorem Ij (s:aC):kU s=((fP s).all nA && (s.bw.list.all fun n=>decide (n≤1099511627776)) && (decide (s.z≤1073741824) && decide (s.z≥-1073741824) && decide (s.back≤16777216) && decide (s.line≤16777216))):=by
 unfold kU
 rw [show pH=nA from funext QW]
 rw [Bool.eq_iff_iff]
 simp [qQ];omega
theorem Uk (s:aC):aG Go.Proofs.Tryz.prog 24 [s.sv] [] [] (.rv (.bool (kU s))):=by
 refine bt OQ [s.sv] _ (by simp) (by simp [aO,aW,bl,aQ,aY,aC.sv,Ln.sv,Nd.sv]) (fun K hK=>?_)
 have bad:∀ e h,lk e 2 = .rv (.bool false)→kU s=false→K .ret ⟨e,h⟩:=fun e h l2 hf=>(hK _ _ (bO (by rw [l2,hf]))).2
 conv in fc _ _ _ _=>reduce
 simp -implicitDefEqProofs only [aC.sv,go_sem,Int.reduceNegSucc]
 have y_2:=HO s;repeat' (first | (simp -implicitDefEqProofs only [go_sem,Int.reduceNegSucc,cA,dV,cB,dW,cM,ew,cX,eJ,dr,eV,dF,fk,dG,fm,dH,fo,dI,fq,dJ,fu,cC,dX,cD,dY,cE,dZ,cF,ec,cG,ee,cH,eg,cI,ek,cJ,ep,cK,er,cL,eu,cN,ey,cO,ez,cP,eA,cQ,eC,cR,eD,cS,eE,cT,eF,cU,eG,cV,eH,cW,eI,cY,eK,cZ,eL,dc,eM,de,eN,dg,eO,dh,eP,di,eR,dj,eS,dm,eT,dn,eU,dw,eW,dx,eX,cw,eY,dy,eZ,dz,fe,dA,ff,dB,fh,dD,fj,dP,dK,dL,dM,dN,dO,dQ,dR,dS,dU,cz,cv,af,ax,au]) | (with_reducible refine aA ?_) | (with_reducible first | refine ag y_2 ?_ | refine ah y_2 ?_) | ((first | refine ai (fun hg=>?_) (fun hg=>?_) | refine ay (fun hg=>?_) (fun hg=>?_) | refine az (fun hg=>?_) (fun hg=>?_)) <;> try simp -implicitDefEqProofs only [hg,Bool.not_true,Bool.not_false]) | ((with_reducible apply And.intro);focus (first | trivial | omega | decide | (simp -implicitDefEqProofs only [maxLen];omega) | (simp [maxLen,af,ak,an,ax,aj,av,au] <;> omega))) | fail)
 refine fG (ι:=Nat) (fun k=>[(11,.rv (.int .i64 k)),(10,.rv (.int .i64 18)),(3,.rv (.sl 2 (lN (fP s)))),(1,.ptr 0 0)]) (fun k=>[some (.var (s.cells.map .rv))]) (fun k=>k≤18∧((fP s).drop k).all nA=(fP s).all nA) (fun k=>18 - k) 0 (by simp) (aZ (by simp [lk])) (fun k hk K' hN hX hR=>?_)
 obtain ⟨fI,hk2⟩:=hk
 simp -implicitDefEqProofs only [go_sem,Int.reduceNegSucc]
 refine ai (fun hg=>?_) (fun hg=>?_)
 ·have aE:k<18:=by simp at hg;omega
  have hx:=BM (l:=fP s) aE
  have kK:∀ e h,lk e 2 = .rv (.bool false)→nA ((fP s)[k]'aE)=false→K .ret ⟨e,h⟩:=fun e h l2 hf=>bad e h l2 (by rw [Ij,oR aE hk2 hf];rfl)
  have nx:∀ e h,nA ((fP s)[k]'aE)=true→fS 0 ⟨e,h⟩ ⟨[(11,.rv (.int .i64 (k+1:Nat))),(10,.rv (.int .i64 18)),(3,.rv (.sl 2 (lN (fP s)))),(1,.ptr 0 0)],[some (.var (s.cells.map .rv))]⟩→K' .normal ⟨e,h⟩:=fun e h hf he=>hN (k+1) _ _ ⟨by omega,oS aE hk2 hf⟩ (by omega) he
  have wu:=fy (k:=k) (by omega)
  have pq:(lN (fP s)).length=18:=rfl
  have w1:=IG (m:=1000000) (by decide) (by decide)
  have w2:=IG (m:=1099511627776) (by decide) (by decide)
  clear hN hX hK bad
  generalize Ny:(fP s)[k]'aE=x at *
  repeat' (first | (simp -implicitDefEqProofs only [go_sem,Int.reduceNegSucc,hx,pq,Ln.cells,wu,w1,w2]) | (with_reducible refine aA ?_) | ((first | refine ai (fun hg=>?_) (fun hg=>?_) | refine ay (fun hg=>?_) (fun hg=>?_) | refine az (fun hg=>?_) (fun hg=>?_)) <;> try simp -implicitDefEqProofs only [hg,Bool.not_true,Bool.not_false]) | ((with_reducible apply And.intro);focus (first | trivial | omega | decide | (simp -implicitDefEqProofs only [maxLen];omega) | (simp [maxLen,af,ak,an,ax,aj,av,au] <;> omega))) | fail)
  all_goals first
   | (refine hR _ _ (kK _ _ rfl ?_);clear hR kK nx;simp_all [nA,bG];done)
   | (refine nx _ _ ?_ (aZ (by simp [lk]));clear hR kK nx;simp_all [nA,bG];done)
   | (refine hR _ _ (kK _ _ rfl ?_);clear hR kK nx;simp_all [nA,bG];omega)
   | (refine nx _ _ ?_ (aZ (by simp [lk]));clear hR kK nx;simp_all [nA,bG];omega)
 ·have aE:k=18:=by simp at hg;omega
  subst aE
  have hall:=oQ (by rw [au];omega) hk2
  simp -implicitDefEqProofs only [go_sem,Int.reduceNegSucc]
  refine hX _ _ _ ?_
  repeat' (first | (simp -implicitDefEqProofs only [go_sem,Int.reduceNegSucc,cA,dV,cB,dW,cM,ew,cX,eJ,dr,eV,dF,fk,dG,fm,dH,fo,dI,fq,dJ,fu,cC,dX,cD,dY,cE,dZ,cF,ec,cG,ee,cH,eg,cI,ek,cJ,ep,cK,er,cL,eu,cN,ey,cO,ez,cP,eA,cQ,eC,cR,eD,cS,eE,cT,eF,cU,eG,cV,eH,cW,eI,cY,eK,cZ,eL,dc,eM,de,eN,dg,eO,dh,eP,di,eR,dj,eS,dm,eT,dn,eU,dw,eW,dx,eX,cw,eY,dy,eZ,dz,fe,dA,ff,dB,fh,dD,fj,dP,dK,dL,dM,dN,dO,dQ,dR,dS,dU,cz,cv,af]) | (with_reducible refine aA ?_) | ((first | refine ai (fun hg=>?_) (fun hg=>?_) | refine ay (fun hg=>?_) (fun hg=>?_) | refine az (fun hg=>?_) (fun hg=>?_)) <;> try simp -implicitDefEqProofs only [hg,Bool.not_true,Bool.not_false]) | ((with_reducible apply And.intro);focus (first | trivial | omega | decide | (simp -implicitDefEqProofs only [maxLen];omega) | (simp [maxLen,af,ak,an,ax,aj,av,au] <;> omega))) | fail)
  refine fG (ι:=Nat) (fun k=>[(62,.rv (.int .i64 k)),(1,.ptr 0 0)]) (fun k=>[some (.var (s.cells.map .rv))]) (fun k=>k≤4∧(s.bw.list.drop k).all (fun n=>decide (n≤1099511627776))=s.bw.list.all (fun n=>decide (n≤1099511627776))) (fun k=>4 - k) 0 (by simp) (aZ (by simp [lk])) (fun k hk K' hN hX hR=>?_)
  obtain ⟨fI,fY⟩:=hk
  simp -implicitDefEqProofs only [go_sem,Int.reduceNegSucc]
  refine ai (fun hg=>?_) (fun hg=>?_)
  ·have aE:k<4:=by simp at hg;omega
   have hx:(s.cells.map SV.rv)[38+k*1]?=some (.rv (.int .i64 (s.bw.list[k]'aE))):=by
    have:k=0∨k=1∨k=2∨k=3:=by omega
    rcases this with rfl | rfl | rfl | rfl <;> rfl
   repeat' (first | (simp -implicitDefEqProofs only [go_sem,Int.reduceNegSucc,hx,af]) | (with_reducible refine aA ?_) | ((first | refine ai (fun hg=>?_) (fun hg=>?_) | refine ay (fun hg=>?_) (fun hg=>?_) | refine az (fun hg=>?_) (fun hg=>?_)) <;> try simp -implicitDefEqProofs only [hg,Bool.not_true,Bool.not_false]) | ((with_reducible apply And.intro);focus (first | trivial | omega | decide | (simp -implicitDefEqProofs only [maxLen];omega) | (simp [maxLen,af,ak,an,ax,aj,av,au] <;> omega))) | fail)
   ·refine hR _ _ (bad _ _ rfl ?_)
    simp -implicitDefEqProofs only [kU]
    rw [oR (l:=s.bw.list) aE fY (by simp at hg ⊢;omega)]
    simp
   ·rw [fy (by omega)]
    exact hN (k+1) _ _ ⟨by omega,oS (l:=s.bw.list) aE fY (by simp at hg ⊢;omega)⟩ (by omega) (aZ (by simp [lk]))
  ·have aE:k=4:=by simp at hg;omega
   subst aE
   have hb:=oQ (l:=s.bw.list) (by simp [Q4.list]) fY
   simp -implicitDefEqProofs only [go_sem,Int.reduceNegSucc]
   refine hX _ _ _ ?_
   have fin:∀ e h,lk e 2 = .rv (.bool (decide (s.z≤1073741824) && decide (s.z≥-1073741824) && decide (s.back≤16777216) && decide (s.line≤16777216)))→K .ret ⟨e,h⟩:=fun e h l2=>(hK _ _ (bO (by rw [l2,Ij,hall,hb];rfl))).2
   clear hK hN hX hR bad
   repeat' (first | (simp -implicitDefEqProofs only [go_sem,Int.reduceNegSucc,cA,dV,cB,dW,cM,ew,cX,eJ,dr,eV,dF,fk,dG,fm,dH,fo,dI,fq,dJ,fu,cC,dX,cD,dY,cE,dZ,cF,ec,cG,ee,cH,eg,cI,ek,cJ,ep,cK,er,cL,eu,cN,ey,cO,ez,cP,eA,cQ,eC,cR,eD,cS,eE,cT,eF,cU,eG,cV,eH,cW,eI,cY,eK,cZ,eL,dc,eM,de,eN,dg,eO,dh,eP,di,eR,dj,eS,dm,eT,dn,eU,dw,eW,dx,eX,cw,eY,dy,eZ,dz,fe,dA,ff,dB,fh,dD,fj,dP,dK,dL,dM,dN,dO,dQ,dR,dS,dU,cz,cv,af]) | (with_reducible refine aA ?_) | ((first | refine ai (fun hg=>?_) (fun hg=>?_) | refine ay (fun hg=>?_) (fun hg=>?_) | refine az (fun hg=>?_) (fun hg=>?_)) <;> try simp -implicitDefEqProofs only [hg,Bool.not_true,Bool.not_false]) | ((with_reducible apply And.intro);focus (first | trivial | omega | decide | (simp -implicitDefEqProofs only [maxLen];omega) | (simp [maxLen,af,ak,an,ax,aj,av,au] <;> omega))) | fail)
   all_goals (refine fin _ _ ?_;(simp_all [lk,bG]) <;>(try (intros;omega)))
end Go.aJ

namespace Go.aJ
open Go
theorem Qz:aT Go.Proofs.Tryz.prog 82 27 (fc Go.Proofs.Tryz.prog 82 27 [(.t 4),(.t 5)]) [(.t 4),(.t 5)]:=bn (by kernel_rfl)
theorem Qx:aT Go.Proofs.Tryz.prog 54 39 (fc Go.Proofs.Tryz.prog 54 39 [(.t 2)]) [(.t 2)]:=bn (by kernel_rfl)
theorem lA (x:Nd):(x.cells.drop 48)[0]?=some (.int .i64 x.parent):=rfl
theorem wh (x:Nd):(x.cells.take 48).map SV.rv=x.s.cells.map SV.rv:=rfl
theorem UH (l:List Nd) (k:Nat) (h0:0<k) (hk:k<l.length) (hw:WF l k) (hb:l.length≤8589934592) :
 aG Go.Proofs.Tryz.prog 82 [.rv (.sl 49 (bu l)),.rv (.int .i64 k)] [] [] (.aP [.rv (.int .i64 ((mX l k).getD 0:Nat)),.rv (.bool (mX l k).isSome)]):=by
 refine bt Qz [.rv (.sl 49 (bu l)),.rv (.int .i64 k)] _ (by simp) (by simp [aO,aW,bl,aQ,aY,aC.sv,Ln.sv,Nd.sv]) (fun K hK=>?_)
 have wd:=uF h0 (by omega)
 have Nw:=jf hk
 have hlen:=an l
 have hpk:=mR hk
 conv in fc _ _ _ _=>reduce
 simp -implicitDefEqProofs only [wd,go_sem,Int.reduceNegSucc]
 refine fG (ι:=Nat) (fun i=>[(7,.rv (.int .i64 (kz (br l (k - 1)) i))),(6,.rv (.int .i64 i)),(0,.rv (.sl 49 (bu l))),(1,.rv (.int .i64 k))]) (fun _=>[]) (fun i=>i≤(br l (k - 1)).length∧∀ j,(h:j<(br l (k - 1)).length)→j<i→(((br l (k - 1))[j]'h:Nat):Int)≠bD l k) (fun i=>(br l (k - 1)).length - i) 0 (by simp) (by rw [uL];exact aZ (by simp [lk])) (fun i hi K' hN hX hR=>?_)
 obtain ⟨hi1,hi2⟩:=hi
 have gG:=ug (l:=l) (k - 1)
 simp -implicitDefEqProofs only [go_sem,Int.reduceNegSucc]
 refine ai (fun hg=>?_) (fun hg=>?_)
 ·have fF:i<(br l (k - 1)).length:=qA.1 (by simpa using hg)
  have iR:=uK fF
  have hlt:(br l (k - 1))[i]<k:=zi (by omega) fF
  have hx:=jf (l:=l) (i:=(br l (k - 1))[i]) (by omega)
  have hpar:=mR (l:=l) (n:=(br l (k - 1))[i]) (by omega)
  have om:=zd hw (k - 1) (by omega) i fF
  repeat' (first | (simp -implicitDefEqProofs only [go_sem,Int.reduceNegSucc,Nw,hlen,ak,lA,hpk,iR,hx,hpar,om]) | (with_reducible refine aA ?_) | ((first | refine ai (fun hg=>?_) (fun hg=>?_) | refine ay (fun hg=>?_) (fun hg=>?_) | refine az (fun hg=>?_) (fun hg=>?_)) <;> try simp -implicitDefEqProofs only [hg,Bool.not_true,Bool.not_false]) | ((with_reducible apply And.intro);focus (first | trivial | omega | decide | (simp -implicitDefEqProofs only [maxLen];omega) | (simp [maxLen,af,ak,an,ax,aj,av,au] <;> omega))) | fail)
  ·refine hR _ _ (hK _ _ ?_).2
   rw [Va fF (by simpa using hg) hi2]
   exact gI rfl rfl
  ·rw [fy (by omega)]
   refine hN (i+1) _ _ ⟨by omega,fun j hj hji=>?_⟩ (by omega) (aZ (by simp [lk]))
   rcases Nat.lt_or_ge j i with h | h
   ·exact hi2 j hj h
   ·obtain rfl:j=i:=by omega
    simpa using hg
 ·simp -implicitDefEqProofs only [go_sem,Int.reduceNegSucc]
  refine hX _ _ _ ?_
  repeat' (first | (simp -implicitDefEqProofs only [go_sem,Int.reduceNegSucc]) | (with_reducible refine aA ?_) | ((first | refine ai (fun hg=>?_) (fun hg=>?_) | refine ay (fun hg=>?_) (fun hg=>?_) | refine az (fun hg=>?_) (fun hg=>?_)) <;> try simp -implicitDefEqProofs only [hg,Bool.not_true,Bool.not_false]) | ((with_reducible apply And.intro);focus (first | trivial | omega | decide | (simp -implicitDefEqProofs only [maxLen];omega) | (simp [maxLen,af,ak,an,ax,aj,av,au] <;> omega))) | fail)
  refine (hK _ _ ?_).2
  have fF:¬ i<(br l (k - 1)).length:=fun h=>by have:=qA.2 h;simp at hg;omega
  rw [Vb fun j hj=>hi2 j hj (by omega)]
  exact gI rfl rfl
theorem Ib (l:List Nd) (hb:l.length≤8589934592):aG Go.Proofs.Tryz.prog 54 [.rv (.sl 49 (bu l))] [] [] (.rv (.bool (fU l))):=by
 refine bt Qx [.rv (.sl 49 (bu l))] _ (by simp) (by simp [aO,aW,bl,aQ,aY,aC.sv,Ln.sv,Nd.sv]) (fun K hK=>?_)
 have bad:∀ e h,lk e 2 = .rv (.bool false)→fU l=false→K .ret ⟨e,h⟩:=fun e h l2 hf=>(hK _ _ (bO (by rw [l2,hf]))).2
 have hlen:=an l
 conv in fc _ _ _ _=>reduce
 simp -implicitDefEqProofs only [hlen,go_sem,Int.reduceNegSucc]
 by_cases pn:l.length=0
 ·have e0:(((l.length:Nat):Int) == 0)=true:=by simp [pn]
  repeat' (first | (simp -implicitDefEqProofs only [go_sem,Int.reduceNegSucc,e0,hlen]) | (with_reducible refine aA ?_) | ((first | refine ai (fun hg=>?_) (fun hg=>?_) | refine ay (fun hg=>?_) (fun hg=>?_) | refine az (fun hg=>?_) (fun hg=>?_)) <;> try simp -implicitDefEqProofs only [hg,Bool.not_true,Bool.not_false]) | ((with_reducible apply And.intro);focus (first | trivial | omega | decide | (simp -implicitDefEqProofs only [maxLen];omega) | (simp [maxLen,af,ak,an,ax,aj,av,au] <;> omega))) | fail)
  exact bad _ _ rfl (by simp [fU,kT,pn])
 ·have e0:(((l.length:Nat):Int) == 0)=false:=by simp [pn]
  have hx0:=jf (l:=l) (i:=0) (by omega)
  have jW:=mR (l:=l) (n:=0) (by omega)
  repeat' (first | (simp -implicitDefEqProofs only [go_sem,Int.reduceNegSucc,e0,hlen,hx0,ak,lA,jW]) | (with_reducible refine aA ?_) | ((first | refine ai (fun hg=>?_) (fun hg=>?_) | refine ay (fun hg=>?_) (fun hg=>?_) | refine az (fun hg=>?_) (fun hg=>?_)) <;> try simp -implicitDefEqProofs only [hg,Bool.not_true,Bool.not_false]) | ((with_reducible apply And.intro);focus (first | trivial | omega | decide | (simp -implicitDefEqProofs only [maxLen];omega) | (simp [maxLen,af,ak,an,ax,aj,av,au] <;> omega))) | fail)
  ·exact bad _ _ rfl (by simp [fU,kT];intro _ h;simp at hg;exact absurd h hg)
  ·have vE:bD l 0 = -1:=by simpa using hg
   refine fG (ι:=Nat) (fun k=>[(18,.rv (.int .i64 k)),(17,.rv (.int .i64 l.length)),(0,.rv (.sl 49 (bu l)))]) (fun _=>[]) (fun k=>k≤l.length∧(∀ j,j<k→jz l j=true)∧((l.drop k).all fun x=>jh x.s)=l.all fun x=>jh x.s) (fun k=>l.length - k) 0 (by simp) (aZ (by simp [lk])) (fun k hk K' hN hX hR=>?_)
   obtain ⟨fI,hk2,fY⟩:=hk
   have hw:=IE vE hk2
   simp -implicitDefEqProofs only [go_sem,Int.reduceNegSucc]
   refine ai (fun hg=>?_) (fun hg=>?_)
   ·have aE:k<l.length:=by simp at hg;omega
    have hx:=jf aE
    have h48:(l[k]'aE).cells.drop 0=(l[k]'aE).cells:=rfl
    have uN:jz l k=false→fU l=false:=fun h=>by
     simp -implicitDefEqProofs only [fU,Bool.and_eq_false_iff]
     left
     rw [Bool.eq_false_iff]
     intro ht
     simp -implicitDefEqProofs only [kT,Bool.and_eq_true,List.all_eq_true,List.mem_range] at ht
     have:=ht.2 k aE
     rw [h] at this;cases this
    have Da:jh (l[k]'aE).s=false→fU l=false:=fun h=>by
     have:(l.all fun x=>jh x.s)=false:=oR aE fY h
     simp -implicitDefEqProofs only [fU,this,Bool.and_false]
    have nx:∀ e h,jz l k=true→jh (l[k]'aE).s=true→fS 0 ⟨e,h⟩ ⟨[(18,.rv (.int .i64 (k+1:Nat))),(17,.rv (.int .i64 l.length)),(0,.rv (.sl 49 (bu l)))],[]⟩→K' .normal ⟨e,h⟩:=fun e h h1 h2 he=>hN (k+1) _ _ ⟨by omega,fun j hj=>by
     rcases Nat.lt_or_ge j k with h | h
     ·exact hk2 j h
     ·obtain rfl:j=k:=by omega
      exact h1,oS aE fY h2⟩ (by omega) he
    have wu:=fy (k:=k) (by omega)
    clear hN hX hK
    by_cases gw:0<k
    ·have hn:jz l k=(mX l k).isSome:=by simp [jz];intro h;omega
     have hgt:decide ((k:Int)>0)=true:=decide_eq_true (by omega)
     have aS:=UH l k gw aE hw hb;have y_2:=HZ (l[k]'aE).s;repeat' (first | (simp -implicitDefEqProofs only [go_sem,Int.reduceNegSucc,hgt,hlen,hx,ak,lA,wh,wu]) | (with_reducible refine aA ?_) | (with_reducible first | refine ag aS ?_ | refine ah aS ?_) | (with_reducible first | refine ag y_2 ?_ | refine ah y_2 ?_) | ((first | refine ai (fun hg=>?_) (fun hg=>?_) | refine ay (fun hg=>?_) (fun hg=>?_) | refine az (fun hg=>?_) (fun hg=>?_)) <;> try simp -implicitDefEqProofs only [hg,Bool.not_true,Bool.not_false]) | ((with_reducible apply And.intro);focus (first | trivial | omega | decide | (simp -implicitDefEqProofs only [maxLen];omega) | (simp [maxLen,af,ak,an,ax,aj,av,au] <;> omega))) | fail)
     all_goals first
      | (refine hR _ _ (bad _ _ rfl (uN ?_));rw [hn];simpa using hg;done)
      | (refine hR _ _ (bad _ _ rfl (Da ?_));simpa using hg;done)
      | (refine nx _ _ ?_ ?_ (aZ (by simp [lk])) <;> simp_all;done)
    ·obtain rfl:k=0:=by omega
     have hn:jz l 0=true:=by simp [jz]
     have hgt:decide (((0:Nat):Int)>0)=false:=rfl
     have bA:=HZ (l[0]'aE).s;repeat' (first | (simp -implicitDefEqProofs only [go_sem,Int.reduceNegSucc,hgt,hlen,hx,ak,lA,wh,wu]) | (with_reducible refine aA ?_) | (with_reducible first | refine ag bA ?_ | refine ah bA ?_) | ((first | refine ai (fun hg=>?_) (fun hg=>?_) | refine ay (fun hg=>?_) (fun hg=>?_) | refine az (fun hg=>?_) (fun hg=>?_)) <;> try simp -implicitDefEqProofs only [hg,Bool.not_true,Bool.not_false]) | ((with_reducible apply And.intro);focus (first | trivial | omega | decide | (simp -implicitDefEqProofs only [maxLen];omega) | (simp [maxLen,af,ak,an,ax,aj,av,au] <;> omega))) | fail)
     all_goals first
      | (refine hR _ _ (bad _ _ rfl (Da ?_));simpa using hg;done)
      | (refine nx _ _ hn ?_ (aZ (by simp [lk]));simpa using hg)
   ·have aE:k=l.length:=by simp at hg;omega
    subst aE
    have hall:=oQ (Nat.le_refl _) fY
    have hs:kT l=true:=by
     simp -implicitDefEqProofs only [kT,Bool.and_eq_true,decide_eq_true_eq,List.all_eq_true,List.mem_range]
     exact ⟨⟨by omega,vE⟩,hk2⟩
    simp -implicitDefEqProofs only [go_sem,Int.reduceNegSucc]
    refine hX _ _ _ ?_
    repeat' (first | (simp -implicitDefEqProofs only [go_sem,Int.reduceNegSucc]) | (with_reducible refine aA ?_) | ((first | refine ai (fun hg=>?_) (fun hg=>?_) | refine ay (fun hg=>?_) (fun hg=>?_) | refine az (fun hg=>?_) (fun hg=>?_)) <;> try simp -implicitDefEqProofs only [hg,Bool.not_true,Bool.not_false]) | ((with_reducible apply And.intro);focus (first | trivial | omega | decide | (simp -implicitDefEqProofs only [maxLen];omega) | (simp [maxLen,af,ak,an,ax,aj,av,au] <;> omega))) | fail)
    exact (hK _ _ (bO (by rw [fU,hs,hall];rfl))).2
end Go.aJ

namespace Go.aJ
open Go
theorem Qk:aT Go.Proofs.Tryz.prog 84 25 (fc Go.Proofs.Tryz.prog 84 25 [(.t 2)]) [(.t 2)]:=bn (by kernel_rfl)
theorem Qy:aT Go.Proofs.Tryz.prog 55 33 (fc Go.Proofs.Tryz.prog 55 33 [(.t 2)]) [(.t 2)]:=bn (by kernel_rfl)
theorem Qw:aT Go.Proofs.Tryz.prog 57 7 (fc Go.Proofs.Tryz.prog 57 7 [(.t 2)]) [(.t 2)]:=bn (by kernel_rfl)
theorem Qh:aT Go.Proofs.Tryz.prog 85 19 (fc Go.Proofs.Tryz.prog 85 19 [(.t 4)]) [(.t 4)]:=bn (by kernel_rfl)
theorem Qe:aT Go.Proofs.Tryz.prog 56 9 (fc Go.Proofs.Tryz.prog 56 9 [(.t 4)]) [(.t 4)]:=bn (by kernel_rfl)
theorem Qv:aT Go.Proofs.Tryz.prog 26 18 (fc Go.Proofs.Tryz.prog 26 18 [(.t 2)]) [(.t 2)]:=bn (by kernel_rfl)
def oC (ys:List Int) (m:Int) (k:Nat):Int:=(ys.drop k).foldl (fun a b=>if b>a then b else a) m
theorem Rq {ys:List Int} {m:Int} {k:Nat} (h:k<ys.length):oC ys m k=oC ys (if ys[k]'h>m then ys[k]'h else m) (k+1):=by
 unfold oC;rw [List.drop_eq_getElem_cons h];rfl
theorem Rm {ys:List Int} {m:Int} {k:Nat} (h:ys.length≤k):oC ys m k=m:=by
 unfold oC;rw [List.drop_of_length_le h];rfl
theorem Tt (ys:List Int) (h0:0<ys.length) (hb:ys.length≤8589934592):aG Go.Proofs.Tryz.prog 84 [.rv (.sl 1 (aL ys))] [] [] (.rv (.int .i64 (oC ys (ys[0]'h0) 1))):=by
 refine bt Qk [.rv (.sl 1 (aL ys))] _ (by simp) (by simp [aO,aW,bl,aQ,aY,aC.sv,Ln.sv,Nd.sv]) (fun K hK=>?_)
 have hlen:=aj ys
 have e0:decide (((ys.length:Nat):Int)<1)=false:=decide_eq_false (by omega)
 have hx0:=ow h0
 conv in fc _ _ _ _=>reduce
 simp -implicitDefEqProofs only [go_sem,Int.reduceNegSucc]
 repeat' (first | (simp -implicitDefEqProofs only [go_sem,Int.reduceNegSucc,hlen,e0,hx0]) | (with_reducible refine aA ?_) | ((first | refine ai (fun hg=>?_) (fun hg=>?_) | refine ay (fun hg=>?_) (fun hg=>?_) | refine az (fun hg=>?_) (fun hg=>?_)) <;> try simp -implicitDefEqProofs only [hg,Bool.not_true,Bool.not_false]) | ((with_reducible apply And.intro);focus (first | trivial | omega | decide | (simp -implicitDefEqProofs only [maxLen];omega) | (simp [maxLen,af,ak,an,ax,aj,av,au] <;> omega))) | fail)
 refine fG (ι:=Nat×Int) (fun i=>[(4,.rv (.int .i64 i.1)),(3,.rv (.int .i64 i.2)),(0,.rv (.sl 1 (aL ys)))]) (fun _=>[]) (fun i=>i.1≤ys.length∧oC ys i.2 i.1=oC ys (ys[0]'h0) 1) (fun i=>ys.length - i.1) (1,ys[0]'h0) ⟨by dsimp only;omega,rfl⟩ (aZ (by simp [lk])) (fun i hi K' hN hX hR=>?_)
 obtain ⟨k,m⟩:=i
 obtain ⟨fI,hk2⟩:=hi
 dsimp only at fI hk2 ⊢
 simp -implicitDefEqProofs only [hlen,go_sem,Int.reduceNegSucc]
 refine ai (fun hg=>?_) (fun hg=>?_)
 ·have aE:k<ys.length:=by simp at hg;omega
  have hx:=ow aE
  repeat' (first | (simp -implicitDefEqProofs only [go_sem,Int.reduceNegSucc,hlen,hx]) | (with_reducible refine aA ?_) | ((first | refine ai (fun hg=>?_) (fun hg=>?_) | refine ay (fun hg=>?_) (fun hg=>?_) | refine az (fun hg=>?_) (fun hg=>?_)) <;> try simp -implicitDefEqProofs only [hg,Bool.not_true,Bool.not_false]) | ((with_reducible apply And.intro);focus (first | trivial | omega | decide | (simp -implicitDefEqProofs only [maxLen];omega) | (simp [maxLen,af,ak,an,ax,aj,av,au] <;> omega))) | fail)
  rw [fy (by omega)]
  exact hN (k+1,if ys[k]'aE>m then ys[k]'aE else m) _ _ ⟨by dsimp only;omega,by rw [← hk2];exact (Rq aE).symm⟩ (by dsimp only;omega) (aZ (by simp [lk]))
 ·simp -implicitDefEqProofs only [go_sem,Int.reduceNegSucc]
  refine hX _ _ _ ?_
  repeat' (first | (simp -implicitDefEqProofs only [go_sem,Int.reduceNegSucc]) | (with_reducible refine aA ?_) | ((first | refine ai (fun hg=>?_) (fun hg=>?_) | refine ay (fun hg=>?_) (fun hg=>?_) | refine az (fun hg=>?_) (fun hg=>?_)) <;> try simp -implicitDefEqProofs only [hg,Bool.not_true,Bool.not_false]) | ((with_reducible apply And.intro);focus (first | trivial | omega | decide | (simp -implicitDefEqProofs only [maxLen];omega) | (simp [maxLen,af,ak,an,ax,aj,av,au] <;> omega))) | fail)
  refine (hK _ _ (bO ?_)).2
  rw [← hk2,Rm (by simp at hg;omega)];rfl
def bZ (l:List Nd) (k:Nat):List Int:=(List.range l.length).map fun j=>if j<k then (depth l j:Int) else 0
theorem tu (l:List Nd) (k:Nat):(bZ l k).length=l.length:=by simp [bZ]
theorem xV {l:List Nd} {k:Nat} (hk:k<l.length):(bZ l k).set k (depth l k)=bZ l (k+1):=by
 refine List.ext_getElem (by simp [bZ]) (fun i h1 h2=>?_)
 simp -implicitDefEqProofs only [List.getElem_set,bZ,List.getElem_map,List.getElem_range]
 by_cases h:k=i
 ·subst h;simp
 ·rw [if_neg h]
  by_cases hi:i<k
  ·rw [if_pos hi,if_pos (by omega)]
  ·rw [if_neg hi,if_neg (by omega)]
theorem Ah (l:List Nd):bZ l 0=List.replicate l.length 0:=by
 refine List.ext_getElem (by simp [bZ]) (fun i h1 h2=>?_)
 simp [bZ]
theorem Af {l:List Nd} {k j:Nat} (hj:j<k) (hl:j<l.length):((bZ l k).set k 1).getD j 0=depth l j:=by
 rw [List.getD_eq_getElem?_getD,List.getElem?_set_ne (by omega)]
 simp [bZ,hl,hj]
theorem Ag {l:List Nd} {k:Nat} (hk:k<l.length):((bZ l k).set k 1).set k (depth l k)=bZ l (k+1):=by
 rw [List.set_set,xV hk]
def uV (l:List Nd):Int:=oC (bZ l l.length) ((bZ l l.length).getD 0 0) 1
theorem UG (l:List Nd) (h0:0<l.length) (hw:WF l l.length) (hb:l.length≤8589934592):aG Go.Proofs.Tryz.prog 55 [.rv (.sl 49 (bu l))] [] [] (.rv (.int .i64 (uV l))):=by
 refine bt Qy [.rv (.sl 49 (bu l))] _ (by simp) (by simp [aO,aW,bl,aQ,aY,aC.sv,Ln.sv,Nd.sv]) (fun K hK=>?_)
 have hlen:=an l
 conv in fc _ _ _ _=>reduce
 simp -implicitDefEqProofs only [go_sem,Int.reduceNegSucc]
 repeat' (first | (simp -implicitDefEqProofs only [go_sem,Int.reduceNegSucc,hlen,zp]) | (with_reducible refine aA ?_) | ((first | refine ai (fun hg=>?_) (fun hg=>?_) | refine ay (fun hg=>?_) (fun hg=>?_) | refine az (fun hg=>?_) (fun hg=>?_)) <;> try simp -implicitDefEqProofs only [hg,Bool.not_true,Bool.not_false]) | ((with_reducible apply And.intro);focus (first | trivial | omega | decide | (simp -implicitDefEqProofs only [maxLen];omega) | (simp [maxLen,af,ak,an,ax,aj,av,au] <;> omega))) | fail)
 refine fG (ι:=Nat) (fun k=>[(11,.rv (.int .i64 k)),(10,.rv (.int .i64 l.length)),(9,.rv (.sl 49 (bu l))),(3,.row 0 0 l.length)]) (fun k=>[some (.row 1 0 (aN (aL (bZ l k))))]) (fun k=>k≤l.length) (fun k=>l.length - k) 0 (by simp) (by rw [Ah];exact aZ (by simp [lk])) (fun k hk K' hN hX hR=>?_)
 simp -implicitDefEqProofs only [go_sem,Int.reduceNegSucc]
 refine ai (fun hg=>?_) (fun hg=>?_)
 ·have aE:k<l.length:=by simp at hg;omega
  have hx:=jf aE
  have hdl:=tu l k
  have oW:=kQ (l:=bZ l k) (i:=k) (by omega)
  have lq:=aj (bZ l k)
  have nr:((bZ l k).set k 1).length=l.length:=by simp [hdl]
  have hpk:=mR aE
  have wu:=fy (k:=k) (by omega)
  have nx:∀ e,fS 0 ⟨e,[some (.row 1 0 (aN (aL (bZ l (k+1))))),some (.var ((l[k]'aE).cells.map .rv))]⟩ ⟨[(11,.rv (.int .i64 (k+1:Nat))),(10,.rv (.int .i64 l.length)),(9,.rv (.sl 49 (bu l))),(3,.row 0 0 l.length)],[some (.row 1 0 (aN (aL (bZ l (k+1)))))]⟩→K' .normal ⟨e,_⟩:=fun e he=>hN (k+1) _ _ (by omega) (by omega) he
  have hds:=xV aE
  have sr:=Ag aE
  by_cases gw:0<k
  ·have hgt:decide ((k:Int)>0)=true:=decide_eq_true (by omega)
   obtain ⟨p1,p2⟩:=hw.2 k gw aE
   obtain ⟨p,hp⟩:∃ p:Nat,bD l k=p:=⟨(bD l k).toNat,by omega⟩
   have oX:=kQ (l:=(bZ l k).set k 1) (i:=p) (by omega)
   have sq:=kQ (l:=(bZ l k).set k 1) (i:=k) (by omega)
   rw [Af (by omega) (by omega)] at oX
   have su:=aj ((bZ l k).set k 1)
   have qM:=Aj hw gw aE
   rw [hp,Int.toNat_natCast] at qM
   have wd:=fy (k:=depth l p) (by have:=ug (l:=l) p;unfold depth;omega)
   rw [← qM] at wd
   repeat' (first | (simp -implicitDefEqProofs only [go_sem,Int.reduceNegSucc,hgt,hlen,hx,ak,tZ,qm,wu,oW,hdl,lq,mT,hpk,hp,oX,sq,nr,su,wd,sr]) | (with_reducible refine aA ?_) | ((first | refine ai (fun hg=>?_) (fun hg=>?_) | refine ay (fun hg=>?_) (fun hg=>?_) | refine az (fun hg=>?_) (fun hg=>?_)) <;> try simp -implicitDefEqProofs only [hg,Bool.not_true,Bool.not_false]) | ((with_reducible apply And.intro);focus (first | trivial | omega | decide | (simp -implicitDefEqProofs only [maxLen];omega) | (simp [maxLen,af,ak,an,ax,aj,av,au] <;> omega))) | fail)
   exact nx _ (tC _ (by simp) (by simp [qk,aB,fV,gT]) (by simp [lk,aK,gq,gA]))
  ·obtain rfl:k=0:=by omega
   have hgt:decide (((0:Nat):Int)>0)=false:=rfl
   rw [Ak] at hds
   repeat' (first | (simp -implicitDefEqProofs only [go_sem,Int.reduceNegSucc,hgt,hlen,hx,ak,tZ,qm,wu,oW,hdl,lq,mT]) | (with_reducible refine aA ?_) | ((first | refine ai (fun hg=>?_) (fun hg=>?_) | refine ay (fun hg=>?_) (fun hg=>?_) | refine az (fun hg=>?_) (fun hg=>?_)) <;> try simp -implicitDefEqProofs only [hg,Bool.not_true,Bool.not_false]) | ((with_reducible apply And.intro);focus (first | trivial | omega | decide | (simp -implicitDefEqProofs only [maxLen];omega) | (simp [maxLen,af,ak,an,ax,aj,av,au] <;> omega))) | fail)
   rw [show (1:Int)=((1:Nat):Int) from rfl,hds]
   exact nx _ (tC _ (by simp) (by simp [qk,aB,fV,gT]) (by simp [lk,aK,gq,gA]))
 ·have aE:k=l.length:=by simp at hg;omega
  subst aE
  have hpos:0<(bZ l l.length).length:=by rw [tu];exact h0
  have hm:=Tt (bZ l l.length) hpos (by rw [tu];exact hb)
  have hml:=FX (id:=0) (v:=0) (n:=l.length) (bs:=[]) hm (.int _ _) (by simp [aL,bZ]) (kF _)
  simp -implicitDefEqProofs only [go_sem,Int.reduceNegSucc]
  refine hX _ _ _ ?_
  have aS:=hml;repeat' (first | (simp -implicitDefEqProofs only [go_sem,Int.reduceNegSucc]) | (with_reducible refine aA ?_) | (refine bR aS ?_ ?_ ?_;(focus (simp [aU,aB] <;> fail));(focus (simp [bh,aR] <;> fail))) | (refine cg aS ?_ ?_ ?_;(focus (simp [aU,aB] <;> fail));(focus (simp [bh,aR] <;> fail))) | ((first | refine ai (fun hg=>?_) (fun hg=>?_) | refine ay (fun hg=>?_) (fun hg=>?_) | refine az (fun hg=>?_) (fun hg=>?_)) <;> try simp -implicitDefEqProofs only [hg,Bool.not_true,Bool.not_false]) | ((with_reducible apply And.intro);focus (first | trivial | omega | decide | (simp -implicitDefEqProofs only [maxLen];omega) | (simp [maxLen,af,ak,an,ax,aj,av,au] <;> omega))) | fail)
  refine (hK _ _ (bO ?_)).2
  rw [uV,List.getD_eq_getElem?_getD,List.getElem?_eq_getElem hpos];rfl
theorem Ro {ys:List Int} {m b:Int} {k:Nat}:oC ys m k≤b↔m≤b∧∀ x∈ys.drop k,x≤b:=by
 unfold oC
 induction ys.drop k generalizing m with
 | nil=>simp
 | cons a r ih=>
   rw [List.foldl_cons,ih]
   by_cases h:a>m
   ·rw [if_pos h];simp;intro _;omega
   ·rw [if_neg h];simp;intro _ _;omega
theorem KM (l:List Nd) (h0:0<l.length):decide (uV l>256)=(List.range l.length).any (fun k=>decide (depth l k>256)):=by
 have hg:∀ k,k<l.length→(bZ l l.length)[k]?=some (depth l k:Int):=fun k hk=>by simp [bZ,hk]
 have:uV l≤256↔∀ k,k<l.length→depth l k≤256:=by
  rw [uV,Ro]
  constructor
  ·rintro ⟨h1,h2⟩ k hk
   rcases Nat.eq_zero_or_pos k with rfl | gw
   ·rw [List.getD_eq_getElem?_getD,hg 0 hk] at h1;simp at h1;omega
   ·have:=h2 (depth l k) (List.mem_iff_getElem?.2 ⟨k - 1,by rw [List.getElem?_drop,show 1+(k - 1)=k by omega,hg k hk]⟩)
    omega
  ·intro h
   refine ⟨by rw [List.getD_eq_getElem?_getD,hg 0 h0];have:=h 0 h0;simp;omega,fun x hx=>?_⟩
   obtain ⟨i,hi⟩:=List.mem_iff_getElem?.1 hx
   rw [List.getElem?_drop] at hi
   have hlt:1+i<l.length:=by have:=(List.getElem?_eq_some_iff.1 hi).1;rwa [tu] at this
   rw [hg _ hlt] at hi
   have:=h _ hlt
   simp at hi;omega
 rw [Bool.eq_iff_iff]
 simp -implicitDefEqProofs only [decide_eq_true_eq,List.any_eq_true,List.mem_range]
 constructor
 ·intro h
  apply Classical.byContradiction
  intro hn
  have:=this.2 (fun k hk=>by apply Classical.byContradiction;intro h2;exact hn ⟨k,hk,by omega⟩)
  omega
 ·rintro ⟨k,hk,h⟩
  apply Classical.byContradiction
  intro hn
  have:=this.1 (by omega) k hk
  omega
theorem UF (x:Nd):aG Go.Proofs.Tryz.prog 57 [x.sv] [] [] (.rv (.bool (!kU x.s))):=by
 refine bt Qw [x.sv] _ (by simp) (by simp [aO,aW,bl,aQ,aY,aC.sv,Ln.sv,Nd.sv]) (fun K hK=>?_)
 conv in fc _ _ _ _=>reduce
 simp -implicitDefEqProofs only [go_sem,Int.reduceNegSucc]
 have h48:(x.cells.map SV.rv).take 48=x.s.cells.map SV.rv:=rfl
 have y_2:=UC x.s;repeat' (first | (simp -implicitDefEqProofs only [go_sem,Int.reduceNegSucc,ak,h48]) | (with_reducible refine aA ?_) | (with_reducible first | refine ag y_2 ?_ | refine ah y_2 ?_) | ((first | refine ai (fun hg=>?_) (fun hg=>?_) | refine ay (fun hg=>?_) (fun hg=>?_) | refine az (fun hg=>?_) (fun hg=>?_)) <;> try simp -implicitDefEqProofs only [hg,Bool.not_true,Bool.not_false]) | ((with_reducible apply And.intro);focus (first | trivial | omega | decide | (simp -implicitDefEqProofs only [maxLen];omega) | (simp [maxLen,af,ak,an,ax,aj,av,au] <;> omega))) | fail)
 exact (hK _ _ (bO rfl)).2
theorem Tk (l:List Nd) (f:Nat) (p:Nd→Bool) (hf:∀ x:Nd,aG Go.Proofs.Tryz.prog f [x.sv] [] [] (.rv (.bool (p x)))) (hb:l.length≤8589934592) :
 aG Go.Proofs.Tryz.prog 85 [.rv (.sl 49 (bu l)),.fn f []] [] [] (.rv (.int .i64 (match l.findIdx? p with | some i=>((i:Nat):Int) | none=>-1))):=by
 refine bt Qh [.rv (.sl 49 (bu l)),.fn f []] _ (by simp) (by simp [aO,aW,bl,aQ,aY,aC.sv,Ln.sv,Nd.sv]) (fun K hK=>?_)
 have hlen:=an l
 conv in fc _ _ _ _=>reduce
 simp -implicitDefEqProofs only [hlen,go_sem,Int.reduceNegSucc]
 refine fG (ι:=Nat) (fun k=>[(8,.rv (.int .i64 k)),(7,.rv (.int .i64 l.length)),(0,.rv (.sl 49 (bu l))),(1,.fn f [])]) (fun _=>[]) (fun k=>k≤l.length∧∀ j,(h:j<l.length)→j<k→p (l[j]'h)=false) (fun k=>l.length - k) 0 (by simp) (aZ (by simp [lk])) (fun k hk K' hN hX hR=>?_)
 obtain ⟨fI,hk2⟩:=hk
 simp -implicitDefEqProofs only [go_sem,Int.reduceNegSucc]
 refine ai (fun hg=>?_) (fun hg=>?_)
 ·have aE:k<l.length:=by simp at hg;omega
  have hx:=jf aE
  have bA:=hf (l[k]'aE);repeat' (first | (simp -implicitDefEqProofs only [go_sem,Int.reduceNegSucc,hlen,hx,ak,qm]) | (with_reducible refine aA ?_) | (with_reducible first | refine ag bA ?_ | refine ah bA ?_) | ((first | refine ai (fun hg=>?_) (fun hg=>?_) | refine ay (fun hg=>?_) (fun hg=>?_) | refine az (fun hg=>?_) (fun hg=>?_)) <;> try simp -implicitDefEqProofs only [hg,Bool.not_true,Bool.not_false]) | ((with_reducible apply And.intro);focus (first | trivial | omega | decide | (simp -implicitDefEqProofs only [maxLen];omega) | (simp [maxLen,af,ak,an,ax,aj,av,au] <;> omega))) | fail)
  ·refine hR _ _ (hK _ _ (bO ?_)).2
   have:l.findIdx? p=some k:=by
    rw [List.findIdx?_eq_some_iff_getElem]
    exact ⟨aE,by simpa using hg,fun j hj=>by rw [hk2 j (by omega) hj];simp⟩
   rw [this];rfl
  ·rw [fy (by omega)]
   refine hN (k+1) _ _ ⟨by omega,fun j hj hji=>?_⟩ (by omega) (aZ (by simp [lk]))
   rcases Nat.lt_or_ge j k with h | h
   ·exact hk2 j hj h
   ·obtain rfl:j=k:=by omega
    simpa using hg
 ·have aE:k=l.length:=by simp at hg;omega
  subst aE
  simp -implicitDefEqProofs only [go_sem,Int.reduceNegSucc]
  refine hX _ _ _ ?_
  repeat' (first | (simp -implicitDefEqProofs only [go_sem,Int.reduceNegSucc]) | (with_reducible refine aA ?_) | ((first | refine ai (fun hg=>?_) (fun hg=>?_) | refine ay (fun hg=>?_) (fun hg=>?_) | refine az (fun hg=>?_) (fun hg=>?_)) <;> try simp -implicitDefEqProofs only [hg,Bool.not_true,Bool.not_false]) | ((with_reducible apply And.intro);focus (first | trivial | omega | decide | (simp -implicitDefEqProofs only [maxLen];omega) | (simp [maxLen,af,ak,an,ax,aj,av,au] <;> omega))) | fail)
  refine (hK _ _ (bO ?_)).2
  have:l.findIdx? p=none:=by
   rw [List.findIdx?_eq_none_iff]
   intro x hx
   obtain ⟨j,hj,rfl⟩:=List.getElem_of_mem hx
   exact hk2 j hj hj
  rw [this];rfl
theorem Te (l:List Nd) (f:Nat) (p:Nd→Bool) (hf:∀ x:Nd,aG Go.Proofs.Tryz.prog f [x.sv] [] [] (.rv (.bool (p x)))) (hb:l.length≤8589934592) :
 aG Go.Proofs.Tryz.prog 56 [.rv (.sl 49 (bu l)),.fn f []] [] [] (.rv (.bool (l.any p))):=by
 refine bt Qe [.rv (.sl 49 (bu l)),.fn f []] _ (by simp) (by simp [aO,aW,bl,aQ,aY,aC.sv,Ln.sv,Nd.sv]) (fun K hK=>?_)
 conv in fc _ _ _ _=>reduce
 simp -implicitDefEqProofs only [go_sem,Int.reduceNegSucc]
 have bF:=Tk l f p hf hb;repeat' (first | (simp -implicitDefEqProofs only [go_sem,Int.reduceNegSucc]) | (with_reducible refine aA ?_) | (with_reducible first | refine ag bF ?_ | refine ah bF ?_) | ((first | refine ai (fun hg=>?_) (fun hg=>?_) | refine ay (fun hg=>?_) (fun hg=>?_) | refine az (fun hg=>?_) (fun hg=>?_)) <;> try simp -implicitDefEqProofs only [hg,Bool.not_true,Bool.not_false]) | ((with_reducible apply And.intro);focus (first | trivial | omega | decide | (simp -implicitDefEqProofs only [maxLen];omega) | (simp [maxLen,af,ak,an,ax,aj,av,au] <;> omega))) | fail)
 refine (hK _ _ (bO ?_)).2
 have:(l.findIdx? p).isSome=l.any p:=List.findIdx?_isSome
 rw [← this]
 cases l.findIdx? p <;> simp [lk]
theorem Ia (l:List Nd) (hb:l.length≤8589934592):aG Go.Proofs.Tryz.prog 26 [.rv (.sl 49 (bu l))] [] [] (.rv (.int .i64 (kL l))):=by
 refine bt Qv [.rv (.sl 49 (bu l))] _ (by simp) (by simp [aO,aW,bl,aQ,aY,aC.sv,Ln.sv,Nd.sv]) (fun K hK=>?_)
 have hlen:=an l
 conv in fc _ _ _ _=>reduce
 simp -implicitDefEqProofs only [go_sem,Int.reduceNegSucc]
 cases ht:fU l with
 | false=>
   have hc:=Ib l hb
   rw [ht] at hc
   have bJ:=hc;repeat' (first | (simp -implicitDefEqProofs only [go_sem,Int.reduceNegSucc]) | (with_reducible refine aA ?_) | (with_reducible first | refine ag bJ ?_ | refine ah bJ ?_) | ((first | refine ai (fun hg=>?_) (fun hg=>?_) | refine ay (fun hg=>?_) (fun hg=>?_) | refine az (fun hg=>?_) (fun hg=>?_)) <;> try simp -implicitDefEqProofs only [hg,Bool.not_true,Bool.not_false]) | ((with_reducible apply And.intro);focus (first | trivial | omega | decide | (simp -implicitDefEqProofs only [maxLen];omega) | (simp [maxLen,af,ak,an,ax,aj,av,au] <;> omega))) | fail)
   exact (hK _ _ (bO (by simp [kL,ht,lk]))).2
 | true=>
   have hc:=Ib l hb
   rw [ht] at hc
   have hs:iA l:=wE.1 (by unfold fU at ht;simp -implicitDefEqProofs only [Bool.and_eq_true] at ht;exact ht.1)
   have hd:=KM l hs.pos
   have bL:=hc;have bP:=UG l hs.pos hs.wf hb;have bT:=Te l 57 (fun x=>!kU x.s) UF hb;repeat' (first | (simp -implicitDefEqProofs only [go_sem,Int.reduceNegSucc,hlen]) | (with_reducible refine aA ?_) | (with_reducible first | refine ag bL ?_ | refine ah bL ?_) | (with_reducible first | refine ag bP ?_ | refine ah bP ?_) | (with_reducible first | refine ag bT ?_ | refine ah bT ?_) | ((first | refine ai (fun hg=>?_) (fun hg=>?_) | refine ay (fun hg=>?_) (fun hg=>?_) | refine az (fun hg=>?_) (fun hg=>?_)) <;> try simp -implicitDefEqProofs only [hg,Bool.not_true,Bool.not_false]) | ((with_reducible apply And.intro);focus (first | trivial | omega | decide | (simp -implicitDefEqProofs only [maxLen];omega) | (simp [maxLen,af,ak,an,ax,aj,av,au] <;> omega))) | fail)
   all_goals (refine (hK _ _ (bO ?_)).2;clear hK;(simp_all [kL,lk]) <;>(try (intros;omega)))
end Go.aJ

namespace Go.aJ
open Go
theorem OR:aT Go.Proofs.Tryz.prog 81 17 (fc Go.Proofs.Tryz.prog 81 17 [(.t 6)]) [(.t 6)]:=bn (by kernel_rfl)
theorem OW:aT Go.Proofs.Tryz.prog 51 41 (fc Go.Proofs.Tryz.prog 51 41 [(.t 2)]) [(.t 2)]:=bn (by kernel_rfl)
theorem OV:aT Go.Proofs.Tryz.prog 23 20 (fc Go.Proofs.Tryz.prog 23 20 [(.t 2)]) [(.t 2)]:=bn (by kernel_rfl)
theorem OU:aT Go.Proofs.Tryz.prog 25 16 (fc Go.Proofs.Tryz.prog 25 16 [(.t 4)]) [(.t 4)]:=bn (by kernel_rfl)
theorem OS:aT Go.Proofs.Tryz.prog 8 29 (fc Go.Proofs.Tryz.prog 8 29 [(.t 2)]) [(.t 2)]:=bn (by kernel_rfl)
def pO (l:List Nd) (a:Int) (n:Nat):Bool:=(br l n).any fun (j:Nat)=>decide ((j:Int)=a)
theorem JC {l:List Nd} {a:Int} {n i:Nat} (h:i<(br l n).length) (hp:(((br l n)[i]'h:Nat):Int)=a):pO l a n=true:=by
 unfold pO;rw [List.any_eq_true];exact ⟨_,List.getElem_mem h,by simpa using hp⟩
theorem JD {l:List Nd} {a:Int} {n:Nat} (hn:∀ j,(h:j<(br l n).length)→(((br l n)[j]'h:Nat):Int)≠a):pO l a n=false:=by
 unfold pO;rw [List.any_eq_false]
 intro x hx
 obtain ⟨j,hj,rfl⟩:=List.getElem_of_mem hx
 simpa using hn j hj
theorem Ul (l:List Nd) (a:Int) (n:Nat) (hw:WF l (n+1)) (hn:n<l.length) (hb:l.length≤8589934592) :
 aG Go.Proofs.Tryz.prog 81 [.rv (.sl 49 (bu l)),.rv (.int .i64 a),.rv (.int .i64 n)] [] [] (.rv (.bool (pO l a n))):=by
 refine bt OR [.rv (.sl 49 (bu l)),.rv (.int .i64 a),.rv (.int .i64 n)] _ (by simp) (by simp [aO,aW,bl,aQ,aY,aC.sv,Ln.sv,Nd.sv]) (fun K hK=>?_)
 have hlen:=an l
 conv in fc _ _ _ _=>reduce
 simp -implicitDefEqProofs only [go_sem,Int.reduceNegSucc]
 refine fG (ι:=Nat) (fun i=>[(2,.rv (.int .i64 (kz (br l n) i))),(0,.rv (.sl 49 (bu l))),(1,.rv (.int .i64 a))]) (fun _=>[]) (fun i=>i≤(br l n).length∧∀ j,(h:j<(br l n).length)→j<i→(((br l n)[j]'h:Nat):Int)≠a) (fun i=>(br l n).length - i) 0 (by simp) (by rw [uL];exact aZ (by simp [lk])) (fun i hi K' hN hX hR=>?_)
 obtain ⟨hi1,hi2⟩:=hi
 have gG:=ug (l:=l) n
 simp -implicitDefEqProofs only [go_sem,Int.reduceNegSucc]
 refine ai (fun hg=>?_) (fun hg=>?_)
 ·have fF:i<(br l n).length:=qA.1 (by simpa using hg)
  have iR:=uK fF
  have hlt:(br l n)[i]<n+1:=zi (by omega) fF
  have hx:=jf (l:=l) (i:=(br l n)[i]) (by omega)
  have hpar:=mR (l:=l) (n:=(br l n)[i]) (by omega)
  have om:=zd hw n (by omega) i fF
  repeat' (first | (simp -implicitDefEqProofs only [go_sem,Int.reduceNegSucc,hlen,ak,lA,iR,hx,hpar,om]) | (with_reducible refine aA ?_) | ((first | refine ai (fun hg=>?_) (fun hg=>?_) | refine ay (fun hg=>?_) (fun hg=>?_) | refine az (fun hg=>?_) (fun hg=>?_)) <;> try simp -implicitDefEqProofs only [hg,Bool.not_true,Bool.not_false]) | ((with_reducible apply And.intro);focus (first | trivial | omega | decide | (simp -implicitDefEqProofs only [maxLen];omega) | (simp [maxLen,af,ak,an,ax,aj,av,au] <;> omega))) | fail)
  ·exact hR _ _ (hK _ _ (bO (by rw [JC fF (by simpa using hg)];rfl))).2
  ·refine hN (i+1) _ _ ⟨by omega,fun j hj hji=>?_⟩ (by omega) (aZ (by simp [lk]))
   rcases Nat.lt_or_ge j i with h | h
   ·exact hi2 j hj h
   ·obtain rfl:j=i:=by omega
    simpa using hg
 ·have fF:¬ i<(br l n).length:=fun h=>by have:=qA.2 h;simp at hg;omega
  simp -implicitDefEqProofs only [go_sem,Int.reduceNegSucc]
  refine hX _ _ _ ?_
  repeat' (first | (simp -implicitDefEqProofs only [go_sem,Int.reduceNegSucc]) | (with_reducible refine aA ?_) | ((first | refine ai (fun hg=>?_) (fun hg=>?_) | refine ay (fun hg=>?_) (fun hg=>?_) | refine az (fun hg=>?_) (fun hg=>?_)) <;> try simp -implicitDefEqProofs only [hg,Bool.not_true,Bool.not_false]) | ((with_reducible apply And.intro);focus (first | trivial | omega | decide | (simp -implicitDefEqProofs only [maxLen];omega) | (simp [maxLen,af,ak,an,ax,aj,av,au] <;> omega))) | fail)
  exact (hK _ _ (bO (by rw [JD fun j hj=>hi2 j hj (by omega)];rfl))).2
theorem Rx {l:List Nd} {k:Nat} (hk:0<k):jz l k=(!(decide (bD l k<0) || decide (bD l k≥k) || !pO l (bD l k) (k - 1))):=by
 have h1:jz l k=pO l (bD l k) (k - 1):=by
  have:decide (k=0)=false:=decide_eq_false (by omega)
  simp -implicitDefEqProofs only [jz,this,Bool.false_or,mX,pO,List.findIdx?_isSome]
 rw [h1]
 cases h:pO l (bD l k) (k - 1) with
 | false=>simp
 | true=>
   rw [← h1] at h
   have gw:¬ k=0:=by omega
   simp [jz,gw] at h
   obtain ⟨a,b,_⟩:=CG h
   simp;omega
theorem Up (l:List Nd) (hb:l.length≤8589934592):aG Go.Proofs.Tryz.prog 51 [.rv (.sl 49 (bu l))] [] [] (.rv (.bool (kT l))):=by
 refine bt OW [.rv (.sl 49 (bu l))] _ (by simp) (by simp [aO,aW,bl,aQ,aY,aC.sv,Ln.sv,Nd.sv]) (fun K hK=>?_)
 have bad:∀ e h,lk e 2 = .rv (.bool false)→kT l=false→K .ret ⟨e,h⟩:=fun e h l2 hf=>(hK _ _ (bO (by rw [l2,hf]))).2
 have hlen:=an l
 conv in fc _ _ _ _=>reduce
 simp -implicitDefEqProofs only [hlen,go_sem,Int.reduceNegSucc]
 by_cases pn:l.length=0
 ·have e0:(((l.length:Nat):Int) == 0)=true:=by simp [pn]
  repeat' (first | (simp -implicitDefEqProofs only [go_sem,Int.reduceNegSucc,e0,hlen]) | (with_reducible refine aA ?_) | ((first | refine ai (fun hg=>?_) (fun hg=>?_) | refine ay (fun hg=>?_) (fun hg=>?_) | refine az (fun hg=>?_) (fun hg=>?_)) <;> try simp -implicitDefEqProofs only [hg,Bool.not_true,Bool.not_false]) | ((with_reducible apply And.intro);focus (first | trivial | omega | decide | (simp -implicitDefEqProofs only [maxLen];omega) | (simp [maxLen,af,ak,an,ax,aj,av,au] <;> omega))) | fail)
  exact bad _ _ rfl (by simp [kT,pn])
 ·have e0:(((l.length:Nat):Int) == 0)=false:=by simp [pn]
  have hx0:=jf (l:=l) (i:=0) (by omega)
  have jW:=mR (l:=l) (n:=0) (by omega)
  repeat' (first | (simp -implicitDefEqProofs only [go_sem,Int.reduceNegSucc,e0,hlen,hx0,ak,lA,jW]) | (with_reducible refine aA ?_) | ((first | refine ai (fun hg=>?_) (fun hg=>?_) | refine ay (fun hg=>?_) (fun hg=>?_) | refine az (fun hg=>?_) (fun hg=>?_)) <;> try simp -implicitDefEqProofs only [hg,Bool.not_true,Bool.not_false]) | ((with_reducible apply And.intro);focus (first | trivial | omega | decide | (simp -implicitDefEqProofs only [maxLen];omega) | (simp [maxLen,af,ak,an,ax,aj,av,au] <;> omega))) | fail)
  ·exact bad _ _ rfl (by simp [kT];intro _ h;simp at hg;exact absurd h hg)
  ·have vE:bD l 0 = -1:=by simpa using hg
   refine fG (ι:=Nat) (fun k=>[(3,.rv (.int .i64 k)),(0,.rv (.sl 49 (bu l)))]) (fun _=>[]) (fun k=>0<k∧k≤l.length∧(∀ j,j<k→jz l j=true)) (fun k=>l.length - k) 1 ⟨by omega,by omega,fun j hj=>by simp [jz];omega⟩ (aZ (by simp [lk])) (fun k hk K' hN hX hR=>?_)
   obtain ⟨gw,fI,hk2⟩:=hk
   have hw:=IE vE hk2
   simp -implicitDefEqProofs only [hlen,go_sem,Int.reduceNegSucc]
   refine ai (fun hg=>?_) (fun hg=>?_)
   ·have aE:k<l.length:=by simp at hg;omega
    have hx:=jf aE
    have hpk:=mR aE
    have wd:=uF gw (by omega)
    have wu:=fy (k:=k) (by omega)
    have yB:=Rx (l:=l) gw
    have uN:jz l k=false→kT l=false:=fun h=>by
     rw [Bool.eq_false_iff]
     intro ht
     simp -implicitDefEqProofs only [kT,Bool.and_eq_true,List.all_eq_true,List.mem_range] at ht
     have:=ht.2 k aE
     rw [h] at this;cases this
    have nx:∀ e h,jz l k=true→fS 0 ⟨e,h⟩ ⟨[(3,.rv (.int .i64 (k+1:Nat))),(0,.rv (.sl 49 (bu l)))],[]⟩→K' .normal ⟨e,h⟩:=fun e h h1 he=>hN (k+1) _ _ ⟨by omega,by omega,fun j hj=>by
     rcases Nat.lt_or_ge j k with h | h
     ·exact hk2 j h
     ·obtain rfl:j=k:=by omega
      exact h1⟩ (by omega) he
    have hwk:WF l (k - 1+1):=by rw [show k - 1+1=k by omega];exact hw
    have aS:=Ul l (bD l k) (k - 1) hwk (by omega) hb;repeat' (first | (simp -implicitDefEqProofs only [go_sem,Int.reduceNegSucc,hlen,hx,hpk,ak,lA,wd,wu]) | (with_reducible refine aA ?_) | (with_reducible first | refine ag aS ?_ | refine ah aS ?_) | ((first | refine ai (fun hg=>?_) (fun hg=>?_) | refine ay (fun hg=>?_) (fun hg=>?_) | refine az (fun hg=>?_) (fun hg=>?_)) <;> try simp -implicitDefEqProofs only [hg,Bool.not_true,Bool.not_false]) | ((with_reducible apply And.intro);focus (first | trivial | omega | decide | (simp -implicitDefEqProofs only [maxLen];omega) | (simp [maxLen,af,ak,an,ax,aj,av,au] <;> omega))) | fail)
    all_goals first
     | (refine hR _ _ (bad _ _ rfl (uN ?_));rw [yB];clear yB uN nx hK hN hX hR bad;simp_all;done)
     | (refine nx _ _ ?_ (aZ (by simp [lk]));rw [yB];clear yB uN nx hK hN hX hR bad;(simp_all) <;> omega)
   ·have aE:k=l.length:=by simp at hg;omega
    subst aE
    simp -implicitDefEqProofs only [go_sem,Int.reduceNegSucc]
    refine hX _ _ _ ?_
    repeat' (first | (simp -implicitDefEqProofs only [go_sem,Int.reduceNegSucc]) | (with_reducible refine aA ?_) | ((first | refine ai (fun hg=>?_) (fun hg=>?_) | refine ay (fun hg=>?_) (fun hg=>?_) | refine az (fun hg=>?_) (fun hg=>?_)) <;> try simp -implicitDefEqProofs only [hg,Bool.not_true,Bool.not_false]) | ((with_reducible apply And.intro);focus (first | trivial | omega | decide | (simp -implicitDefEqProofs only [maxLen];omega) | (simp [maxLen,af,ak,an,ax,aj,av,au] <;> omega))) | fail)
    refine (hK _ _ (bO ?_)).2
    have hs:kT l=true:=by
     simp -implicitDefEqProofs only [kT,Bool.and_eq_true,decide_eq_true_eq,List.all_eq_true,List.mem_range]
     exact ⟨⟨by omega,vE⟩,hk2⟩
    rw [hs];rfl
theorem Uo (l:List Nd) (hb:l.length≤8589934592):aG Go.Proofs.Tryz.prog 23 [.rv (.sl 49 (bu l))] [] [] (.rv (.bool (fU l))):=by
 refine bt OV [.rv (.sl 49 (bu l))] _ (by simp) (by simp [aO,aW,bl,aQ,aY,aC.sv,Ln.sv,Nd.sv]) (fun K hK=>?_)
 have bad:∀ e h,lk e 2 = .rv (.bool false)→fU l=false→K .ret ⟨e,h⟩:=fun e h l2 hf=>(hK _ _ (bO (by rw [l2,hf]))).2
 have hlen:=an l
 conv in fc _ _ _ _=>reduce
 simp -implicitDefEqProofs only [go_sem,Int.reduceNegSucc]
 have y_2:=Up l hb;repeat' (first | (simp -implicitDefEqProofs only [go_sem,Int.reduceNegSucc]) | (with_reducible refine aA ?_) | (with_reducible first | refine ag y_2 ?_ | refine ah y_2 ?_) | ((first | refine ai (fun hg=>?_) (fun hg=>?_) | refine ay (fun hg=>?_) (fun hg=>?_) | refine az (fun hg=>?_) (fun hg=>?_)) <;> try simp -implicitDefEqProofs only [hg,Bool.not_true,Bool.not_false]) | ((with_reducible apply And.intro);focus (first | trivial | omega | decide | (simp -implicitDefEqProofs only [maxLen];omega) | (simp [maxLen,af,ak,an,ax,aj,av,au] <;> omega))) | fail)
 ·exact bad _ _ rfl (by simp at hg;simp [fU,hg])
 ·have hs:kT l=true:=by simpa using hg
  simp -implicitDefEqProofs only [hlen,go_sem,Int.reduceNegSucc]
  refine fG (ι:=Nat) (fun k=>[(9,.rv (.int .i64 k)),(8,.rv (.int .i64 l.length)),(0,.rv (.sl 49 (bu l)))]) (fun _=>[]) (fun k=>k≤l.length∧((l.drop k).all fun x=>jh x.s)=l.all fun x=>jh x.s) (fun k=>l.length - k) 0 (by simp) (aZ (by simp [lk])) (fun k hk K' hN hX hR=>?_)
  obtain ⟨fI,fY⟩:=hk
  simp -implicitDefEqProofs only [go_sem,Int.reduceNegSucc]
  refine ai (fun hg=>?_) (fun hg=>?_)
  ·have aE:k<l.length:=by simp at hg;omega
   have hx:=jf aE
   have wu:=fy (k:=k) (by omega)
   have bA:=Uj (l[k]'aE).s;repeat' (first | (simp -implicitDefEqProofs only [go_sem,Int.reduceNegSucc,hlen,hx,ak,lA,wh,wu]) | (with_reducible refine aA ?_) | (with_reducible first | refine ag bA ?_ | refine ah bA ?_) | ((first | refine ai (fun hg=>?_) (fun hg=>?_) | refine ay (fun hg=>?_) (fun hg=>?_) | refine az (fun hg=>?_) (fun hg=>?_)) <;> try simp -implicitDefEqProofs only [hg,Bool.not_true,Bool.not_false]) | ((with_reducible apply And.intro);focus (first | trivial | omega | decide | (simp -implicitDefEqProofs only [maxLen];omega) | (simp [maxLen,af,ak,an,ax,aj,av,au] <;> omega))) | fail)
   ·refine hR _ _ (bad _ _ rfl ?_)
    have:(l.all fun x=>jh x.s)=false:=oR aE fY (by simpa using hg)
    simp -implicitDefEqProofs only [fU,this,Bool.and_false]
   ·exact hN (k+1) _ _ ⟨by omega,oS aE fY (by simpa using hg)⟩ (by omega) (aZ (by simp [lk]))
  ·have aE:k=l.length:=by simp at hg;omega
   subst aE
   have hall:=oQ (Nat.le_refl _) fY
   simp -implicitDefEqProofs only [go_sem,Int.reduceNegSucc]
   refine hX _ _ _ ?_
   repeat' (first | (simp -implicitDefEqProofs only [go_sem,Int.reduceNegSucc]) | (with_reducible refine aA ?_) | ((first | refine ai (fun hg=>?_) (fun hg=>?_) | refine ay (fun hg=>?_) (fun hg=>?_) | refine az (fun hg=>?_) (fun hg=>?_)) <;> try simp -implicitDefEqProofs only [hg,Bool.not_true,Bool.not_false]) | ((with_reducible apply And.intro);focus (first | trivial | omega | decide | (simp -implicitDefEqProofs only [maxLen];omega) | (simp [maxLen,af,ak,an,ax,aj,av,au] <;> omega))) | fail)
   exact (hK _ _ (bO (by rw [fU,hs,hall];rfl))).2
theorem Un (l:List Nd) (n:Nat) (hw:WF l (n+1)) (hn:n<l.length) (hb:l.length≤8589934592) :
 aG Go.Proofs.Tryz.prog 25 [.rv (.sl 49 (bu l)),.rv (.int .i64 n)] [] [] (.rv (.int .i64 (depth l n))):=by
 refine bt OU [.rv (.sl 49 (bu l)),.rv (.int .i64 n)] _ (by simp) (by simp [aO,aW,bl,aQ,aY,aC.sv,Ln.sv,Nd.sv]) (fun K hK=>?_)
 have hlen:=an l
 conv in fc _ _ _ _=>reduce
 simp -implicitDefEqProofs only [go_sem,Int.reduceNegSucc]
 refine fG (ι:=Nat) (fun i=>[(1,.rv (.int .i64 (kz (br l n) i))),(0,.rv (.sl 49 (bu l))),(5,.rv (.int .i64 i))]) (fun _=>[]) (fun i=>i≤(br l n).length) (fun i=>(br l n).length - i) 0 (by simp) (by rw [uL];exact aZ (by simp [lk])) (fun i hi1 K' hN hX hR=>?_)
 have gG:=ug (l:=l) n
 simp -implicitDefEqProofs only [go_sem,Int.reduceNegSucc]
 refine ai (fun hg=>?_) (fun hg=>?_)
 ·have fF:i<(br l n).length:=qA.1 (by simpa using hg)
  have iR:=uK fF
  have hlt:(br l n)[i]<n+1:=zi (by omega) fF
  have hx:=jf (l:=l) (i:=(br l n)[i]) (by omega)
  have hpar:=mR (l:=l) (n:=(br l n)[i]) (by omega)
  have om:=zd hw n (by omega) i fF
  have wu:=fy (k:=i) (by omega)
  repeat' (first | (simp -implicitDefEqProofs only [go_sem,Int.reduceNegSucc,hlen,ak,lA,iR,hx,hpar,om,wu]) | (with_reducible refine aA ?_) | ((first | refine ai (fun hg=>?_) (fun hg=>?_) | refine ay (fun hg=>?_) (fun hg=>?_) | refine az (fun hg=>?_) (fun hg=>?_)) <;> try simp -implicitDefEqProofs only [hg,Bool.not_true,Bool.not_false]) | ((with_reducible apply And.intro);focus (first | trivial | omega | decide | (simp -implicitDefEqProofs only [maxLen];omega) | (simp [maxLen,af,ak,an,ax,aj,av,au] <;> omega))) | fail)
  exact hN (i+1) _ _ (by omega) (by omega) (aZ (by simp [lk]))
 ·have fF:¬ i<(br l n).length:=fun h=>by have:=qA.2 h;simp at hg;omega
  have:i=(br l n).length:=by omega
  subst this
  simp -implicitDefEqProofs only [go_sem,Int.reduceNegSucc]
  refine hX _ _ _ ?_
  repeat' (first | (simp -implicitDefEqProofs only [go_sem,Int.reduceNegSucc]) | (with_reducible refine aA ?_) | ((first | refine ai (fun hg=>?_) (fun hg=>?_) | refine ay (fun hg=>?_) (fun hg=>?_) | refine az (fun hg=>?_) (fun hg=>?_)) <;> try simp -implicitDefEqProofs only [hg,Bool.not_true,Bool.not_false]) | ((with_reducible apply And.intro);focus (first | trivial | omega | decide | (simp -implicitDefEqProofs only [maxLen];omega) | (simp [maxLen,af,ak,an,ax,aj,av,au] <;> omega))) | fail)
  exact (hK _ _ (bO rfl)).2
theorem Um (l:List Nd) (hb:l.length≤8589934592):aG Go.Proofs.Tryz.prog 8 [.rv (.sl 49 (bu l))] [] [] (.rv (.int .i64 (kL l))):=by
 refine bt OS [.rv (.sl 49 (bu l))] _ (by simp) (by simp [aO,aW,bl,aQ,aY,aC.sv,Ln.sv,Nd.sv]) (fun K hK=>?_)
 have hlen:=an l
 conv in fc _ _ _ _=>reduce
 simp -implicitDefEqProofs only [go_sem,Int.reduceNegSucc]
 have bF:=Uo l hb;repeat' (first | (simp -implicitDefEqProofs only [go_sem,Int.reduceNegSucc]) | (with_reducible refine aA ?_) | (with_reducible first | refine ag bF ?_ | refine ah bF ?_) | ((first | refine ai (fun hg=>?_) (fun hg=>?_) | refine ay (fun hg=>?_) (fun hg=>?_) | refine az (fun hg=>?_) (fun hg=>?_)) <;> try simp -implicitDefEqProofs only [hg,Bool.not_true,Bool.not_false]) | ((with_reducible apply And.intro);focus (first | trivial | omega | decide | (simp -implicitDefEqProofs only [maxLen];omega) | (simp [maxLen,af,ak,an,ax,aj,av,au] <;> omega))) | fail)
 ·exact (hK _ _ (bO (by simp at hg;simp [kL,hg,lk]))).2
 ·have ht:fU l=true:=by simpa using hg
  have hs:iA l:=wE.1 (by unfold fU at ht;simp -implicitDefEqProofs only [Bool.and_eq_true] at ht;exact ht.1)
  simp -implicitDefEqProofs only [hlen,go_sem,Int.reduceNegSucc]
  refine fG (ι:=Nat) (fun k=>[(9,.rv (.int .i64 k)),(8,.rv (.int .i64 l.length)),(0,.rv (.sl 49 (bu l)))]) (fun _=>[]) (fun k=>k≤l.length∧∀ j,(h:j<l.length)→j<k→kU (l[j]'h).s=true∧depth l j≤256) (fun k=>l.length - k) 0 (by simp) (aZ (by simp [lk])) (fun k hk K' hN hX hR=>?_)
  obtain ⟨fI,fY⟩:=hk
  simp -implicitDefEqProofs only [go_sem,Int.reduceNegSucc]
  refine ai (fun hg=>?_) (fun hg=>?_)
  ·have aE:k<l.length:=by simp at hg;omega
   have hx:=jf aE
   have wu:=fy (k:=k) (by omega)
   have bad:∀ e h,lk e 2 = .rv (.int .i64 3)→(kU (l[k]'aE).s=false∨depth l k>256)→K' .ret ⟨e,h⟩:=fun e h l2 hf=>hR _ _ (hK _ _ (bO (by
    rw [l2];unfold kL
    rw [if_neg (by rw [ht];simp),if_pos]
    simp -implicitDefEqProofs only [Bool.or_eq_true,List.any_eq_true,List.mem_range,decide_eq_true_eq,Bool.not_eq_true']
    rcases hf with h | h
    ·exact .inr ⟨_,List.getElem_mem aE,h⟩
    ·exact .inl (.inr ⟨k,aE,h⟩)))).2
   have nx:∀ e h,kU (l[k]'aE).s=true→depth l k≤256→fS 0 ⟨e,h⟩ ⟨[(9,.rv (.int .i64 (k+1:Nat))),(8,.rv (.int .i64 l.length)),(0,.rv (.sl 49 (bu l)))],[]⟩→K' .normal ⟨e,h⟩:=fun e h h1 h2 he=>hN (k+1) _ _ ⟨by omega,fun j hj hji=>by
    rcases Nat.lt_or_ge j k with h | h
    ·exact fY j hj h
    ·obtain rfl:j=k:=by omega
     exact ⟨h1,h2⟩⟩ (by omega) he
   have bJ:=Uk (l[k]'aE).s;have bL:=Un l k (hs.wf.mono (by omega)) aE hb;repeat' (first | (simp -implicitDefEqProofs only [go_sem,Int.reduceNegSucc,hlen,hx,ak,lA,wh,wu]) | (with_reducible refine aA ?_) | (with_reducible first | refine ag bJ ?_ | refine ah bJ ?_) | (with_reducible first | refine ag bL ?_ | refine ah bL ?_) | ((first | refine ai (fun hg=>?_) (fun hg=>?_) | refine ay (fun hg=>?_) (fun hg=>?_) | refine az (fun hg=>?_) (fun hg=>?_)) <;> try simp -implicitDefEqProofs only [hg,Bool.not_true,Bool.not_false]) | ((with_reducible apply And.intro);focus (first | trivial | omega | decide | (simp -implicitDefEqProofs only [maxLen];omega) | (simp [maxLen,af,ak,an,ax,aj,av,au] <;> omega))) | fail)
   all_goals first
    | (refine bad _ _ rfl ?_;clear bad nx hK hN hX hR;(simp_all) <;> omega)
    | (refine nx _ _ ?_ ?_ (aZ (by simp [lk])) <;> clear bad nx hK hN hX hR <;>(simp_all) <;> omega)
  ·have aE:k=l.length:=by simp at hg;omega
   subst aE
   simp -implicitDefEqProofs only [go_sem,Int.reduceNegSucc]
   refine hX _ _ _ ?_
   have hno:((List.range l.length).any (fun k=>decide (depth l k>256)) || l.any fun x=>!kU x.s)=false:=by
    rw [Bool.or_eq_false_iff,List.any_eq_false,List.any_eq_false]
    refine ⟨fun k hk=>?_,fun x hx=>?_⟩
    ·have:=(fY k (by simpa using hk) (by simpa using hk)).2;simp;omega
    ·obtain ⟨j,hj,rfl⟩:=List.getElem_of_mem hx
     simp [(fY j hj hj).1]
   have fin:kL l=if (l.length:Int)>65535 then 3 else 0:=by
    unfold kL
    rw [if_neg (by rw [ht];simp),Bool.or_assoc,hno]
    by_cases h:l.length>65535
    ·have:(l.length:Int)>65535:=by omega
     simp [h,this]
    ·have:¬ (l.length:Int)>65535:=by omega
     simp [h,this]
   repeat' (first | (simp -implicitDefEqProofs only [go_sem,Int.reduceNegSucc,hlen]) | (with_reducible refine aA ?_) | ((first | refine ai (fun hg=>?_) (fun hg=>?_) | refine ay (fun hg=>?_) (fun hg=>?_) | refine az (fun hg=>?_) (fun hg=>?_)) <;> try simp -implicitDefEqProofs only [hg,Bool.not_true,Bool.not_false]) | ((with_reducible apply And.intro);focus (first | trivial | omega | decide | (simp -implicitDefEqProofs only [maxLen];omega) | (simp [maxLen,af,ak,an,ax,aj,av,au] <;> omega))) | fail)
   all_goals (refine (hK _ _ (bO ?_)).2;rw [fin];clear fin hK hN hX hR;(simp_all [lk]) <;> omega)
end Go.aJ

namespace Go.aJ
open Go
theorem FM:aT Go.Proofs.Tryz.prog 27 8 (fc Go.Proofs.Tryz.prog 27 8 [(.t 2)]) [(.t 2)]:=bn (by kernel_rfl)
theorem FN:aT Go.Proofs.Tryz.prog 120 8 (fc Go.Proofs.Tryz.prog 120 8 [(.t 2)]) [(.t 2)]:=bn (by kernel_rfl)
theorem HD (xs:List (List RV)) (m:Nat) (hb:xs.length≤8589934592):aG Go.Proofs.Tryz.prog 27 [.rv (.sl 49 xs)] [] [(m,.row 49 1 (aN xs))] (.row m 1 xs.length):=by
 have nz:∀ r:RV,(r = .mA∧xs=[])∨(r = .sl 49 xs∧0<xs.length)→aG Go.Proofs.Tryz.prog 27 [.rv r] [] [(m,.row 49 1 (aN xs))] (.row m 1 xs.length):=fun r hr=>by
  refine mJ FM [] [] [] [.rv r] [.rv r] _ _ (by simp) (by simp [aO,lG,lg,aQ,aW,nP,aY,nQ,nO,gZ,nI,bV]) rfl (by simp [bV]) (by simp [gZ]) (fun K hK=>?_)
  conv in fc _ _ _ _=>reduce
  simp -implicitDefEqProofs only [go_sem,Int.reduceNegSucc]
  rcases hr with ⟨rfl,rfl⟩ | ⟨rfl,h0⟩
  ·repeat' (first | (simp -implicitDefEqProofs only [go_sem,Int.reduceNegSucc]) | (with_reducible refine aA ?_) | ((first | refine ai (fun hg=>?_) (fun hg=>?_) | refine ay (fun hg=>?_) (fun hg=>?_) | refine az (fun hg=>?_) (fun hg=>?_)) <;> try simp -implicitDefEqProofs only [hg,Bool.not_true,Bool.not_false]) | ((with_reducible apply And.intro);focus (first | trivial | omega | decide | (simp -implicitDefEqProofs only [maxLen];omega) | (simp [maxLen,af,ak,an,ax,aj,av,au] <;> omega))) | fail)
   refine (hK _ _ _ _ [some m] (gL _ _) ?_).2
   simp [gS,bV,newL,gV,gM,bg,aX,lk,bp,fV,gi,fX,iz,iy,aB,gT,bq,aK,gq,gU,iG,aM,iF,aI,gx,ga]
   exact ⟨by simp [aN],fun i x y hx=>by simp at hx⟩
  ·repeat' (first | (simp -implicitDefEqProofs only [go_sem,Int.reduceNegSucc,Cn]) | (with_reducible refine aA ?_) | ((first | refine ai (fun hg=>?_) (fun hg=>?_) | refine ay (fun hg=>?_) (fun hg=>?_) | refine az (fun hg=>?_) (fun hg=>?_)) <;> try simp -implicitDefEqProofs only [hg,Bool.not_true,Bool.not_false]) | ((with_reducible apply And.intro);focus (first | trivial | omega | decide | (simp -implicitDefEqProofs only [maxLen];omega) | (simp [maxLen,af,ak,an,ax,aj,av,au] <;> omega))) | fail)
   refine (hK _ _ _ _ [some m] (gL _ _) ?_).2
   simp [gS,bV,newL,gV,gM,bg,aX,lk,bp,fV,gi,fX,iz,iy,aB,gT,bq,aK,gq,gU,iG,aM,iF,aI,gx,ga]
 by_cases h0:xs=[]
 ·subst h0
  refine @Dm _ _ _ [] [] _ _ _ ?_ (nz _ (.inl ⟨rfl,rfl⟩))
  show aG _ _ [.rv .cm] _ _ _
  refine mJ FM [] [] [] [.rv .cm] [.rv .cm] _ _ (by simp) (by simp [aO,lG,lg,aQ,aW,nP,aY,nQ,nO,gZ,nI,bV]) rfl (by simp [bV]) (by simp [gZ]) (fun K hK=>?_)
  conv in fc _ _ _ _=>reduce
  simp -implicitDefEqProofs only [go_sem,Int.reduceNegSucc]
  repeat' (first | (simp -implicitDefEqProofs only [go_sem,Int.reduceNegSucc]) | (with_reducible refine aA ?_) | ((first | refine ai (fun hg=>?_) (fun hg=>?_) | refine ay (fun hg=>?_) (fun hg=>?_) | refine az (fun hg=>?_) (fun hg=>?_)) <;> try simp -implicitDefEqProofs only [hg,Bool.not_true,Bool.not_false]) | ((with_reducible apply And.intro);focus (first | trivial | omega | decide | (simp -implicitDefEqProofs only [maxLen];omega) | (simp [maxLen,af,ak,an,ax,aj,av,au] <;> omega))) | fail)
  refine (hK _ _ _ _ [some m] (qJ 2 49 1 rfl) ?_).2
  simp [gS,bV,newL,gV,gM,bg,aX,lk,bp,fV,gi,fX,iz,iy,aB,gT,bq,aK,gq,gU,iG,aM,iF,aI,gx,ga]
  exact ⟨by simp [aN],fun i x y hx=>by simp at hx⟩
 ·exact nz _ (.inr ⟨rfl,List.length_pos_iff.2 h0⟩)
theorem Td (xs:List (List RV)) (m:Nat) (hb:xs.length≤8589934592):aG Go.Proofs.Tryz.prog 120 [.rv (.sl 1 xs)] [] [(m,.row 1 1 (aN xs))] (.row m 1 xs.length):=by
 have nz:∀ r:RV,(r = .mA∧xs=[])∨(r = .sl 1 xs∧0<xs.length)→aG Go.Proofs.Tryz.prog 120 [.rv r] [] [(m,.row 1 1 (aN xs))] (.row m 1 xs.length):=fun r hr=>by
  refine mJ FN [] [] [] [.rv r] [.rv r] _ _ (by simp) (by simp [aO,lG,lg,aQ,aW,nP,aY,nQ,nO,gZ,nI,bV]) rfl (by simp [bV]) (by simp [gZ]) (fun K hK=>?_)
  conv in fc _ _ _ _=>reduce
  simp -implicitDefEqProofs only [go_sem,Int.reduceNegSucc]
  rcases hr with ⟨rfl,rfl⟩ | ⟨rfl,h0⟩
  ·repeat' (first | (simp -implicitDefEqProofs only [go_sem,Int.reduceNegSucc]) | (with_reducible refine aA ?_) | ((first | refine ai (fun hg=>?_) (fun hg=>?_) | refine ay (fun hg=>?_) (fun hg=>?_) | refine az (fun hg=>?_) (fun hg=>?_)) <;> try simp -implicitDefEqProofs only [hg,Bool.not_true,Bool.not_false]) | ((with_reducible apply And.intro);focus (first | trivial | omega | decide | (simp -implicitDefEqProofs only [maxLen];omega) | (simp [maxLen,af,ak,an,ax,aj,av,au] <;> omega))) | fail)
   refine (hK _ _ _ _ [some m] (gL _ _) ?_).2
   simp [gS,bV,newL,gV,gM,bg,aX,lk,bp,fV,gi,fX,iz,iy,aB,gT,bq,aK,gq,gU,iG,aM,iF,aI,gx,ga]
   exact ⟨by simp [aN],fun i x y hx=>by simp at hx⟩
  ·repeat' (first | (simp -implicitDefEqProofs only [go_sem,Int.reduceNegSucc,Cn]) | (with_reducible refine aA ?_) | ((first | refine ai (fun hg=>?_) (fun hg=>?_) | refine ay (fun hg=>?_) (fun hg=>?_) | refine az (fun hg=>?_) (fun hg=>?_)) <;> try simp -implicitDefEqProofs only [hg,Bool.not_true,Bool.not_false]) | ((with_reducible apply And.intro);focus (first | trivial | omega | decide | (simp -implicitDefEqProofs only [maxLen];omega) | (simp [maxLen,af,ak,an,ax,aj,av,au] <;> omega))) | fail)
   refine (hK _ _ _ _ [some m] (gL _ _) ?_).2
   simp [gS,bV,newL,gV,gM,bg,aX,lk,bp,fV,gi,fX,iz,iy,aB,gT,bq,aK,gq,gU,iG,aM,iF,aI,gx,ga]
 by_cases h0:xs=[]
 ·subst h0
  refine @Dm _ _ _ [] [] _ _ _ ?_ (nz _ (.inl ⟨rfl,rfl⟩))
  show aG _ _ [.rv .cm] _ _ _
  refine mJ FN [] [] [] [.rv .cm] [.rv .cm] _ _ (by simp) (by simp [aO,lG,lg,aQ,aW,nP,aY,nQ,nO,gZ,nI,bV]) rfl (by simp [bV]) (by simp [gZ]) (fun K hK=>?_)
  conv in fc _ _ _ _=>reduce
  simp -implicitDefEqProofs only [go_sem,Int.reduceNegSucc]
  repeat' (first | (simp -implicitDefEqProofs only [go_sem,Int.reduceNegSucc]) | (with_reducible refine aA ?_) | ((first | refine ai (fun hg=>?_) (fun hg=>?_) | refine ay (fun hg=>?_) (fun hg=>?_) | refine az (fun hg=>?_) (fun hg=>?_)) <;> try simp -implicitDefEqProofs only [hg,Bool.not_true,Bool.not_false]) | ((with_reducible apply And.intro);focus (first | trivial | omega | decide | (simp -implicitDefEqProofs only [maxLen];omega) | (simp [maxLen,af,ak,an,ax,aj,av,au] <;> omega))) | fail)
  refine (hK _ _ _ _ [some m] (qJ 2 1 1 rfl) ?_).2
  simp [gS,bV,newL,gV,gM,bg,aX,lk,bp,fV,gi,fX,iz,iy,aB,gT,bq,aK,gq,gU,iG,aM,iF,aI,gx,ga]
  exact ⟨by simp [aN],fun i x y hx=>by simp at hx⟩
 ·exact nz _ (.inr ⟨rfl,List.length_pos_iff.2 h0⟩)
end Go.aJ

namespace Go.aJ
open Go
theorem FK:aT Go.Proofs.Tryz.prog 9 157 (fc Go.Proofs.Tryz.prog 9 157 [(.t 2),(.t 3)]) [(.t 2),(.t 3)]:=bn (by kernel_rfl)
def bk (l:List Nat):List Int:=l.map fun (n:Nat)=>(n:Int)
def jw (bs:List Bool):List (List RV):=bs.map fun b=>[.bool b]
theorem xz (bs:List Bool):(jw bs).length=bs.length:=by simp [jw]
theorem tc {bs:List Bool} {i:Nat} (h:i<bs.length):(jw bs)[i]?.getD []=[.bool (bs.getD i false)]:=by simp [jw,h]
theorem uq {ys:List Bool} {k:Nat} {v:Bool}:(aN (jw ys)).set k [.rv (.bool v)]=aN (jw (ys.set k v)):=by simp [aN,jw,List.map_set]
theorem Hv {n:Nat}:List.replicate n [SV.rv (.bool false)]=aN (jw (List.replicate n false)):=by simp [aN,jw]
theorem Dh (l:List Bool):∀ x∈jw l,∀ r∈x,r.one=true:=by
 intro x hx r hr
 obtain ⟨n,_,rfl⟩:=List.mem_map.1 hx
 simp at hr;rw [hr];rfl
def fQ (l:List Nd) (k:Nat):List Bool:=(List.range l.length).map fun j=>if j<k then mq l j else false
theorem Gj (l:List Nd) (k:Nat):(fQ l k).length=l.length:=by simp [fQ]
theorem Gk (l:List Nd):fQ l 0=List.replicate l.length false:=by
 refine List.ext_getElem (by simp [fQ]) (fun i h1 h2=>?_)
 simp [fQ]
theorem yQ {l:List Nd} {k:Nat} (hk:k<l.length):(fQ l k).set k (mq l k)=fQ l (k+1):=by
 refine List.ext_getElem (by simp [fQ]) (fun i h1 h2=>?_)
 simp -implicitDefEqProofs only [List.getElem_set,fQ,List.getElem_map,List.getElem_range]
 by_cases h:k=i
 ·subst h;simp
 ·rw [if_neg h]
  by_cases hi:i<k
  ·rw [if_pos hi,if_pos (by omega)]
  ·rw [if_neg hi,if_neg (by omega)]
theorem Gi {l:List Nd} {k j:Nat} {b:Bool} (hj:j<k) (hl:j<l.length):((fQ l k).set k b).getD j false=mq l j:=by
 rw [List.getD_eq_getElem?_getD,List.getElem?_set_ne (by omega)]
 simp [fQ,hl,hj]
def iT (l:List Nd) (k:Nat):List (List SV):=(List.range l.length).map fun p=>[.row (p+6) (bC l k p).length (bC l k p).length]
def iL (l:List Nd) (k:Nat):List (Option HB):=(List.range l.length).map fun p=>some (.row 1 (bC l k p).length (aN (aL (bk (bC l k p)))))
theorem vT (l:List Nd) (k:Nat):(iT l k).length=l.length:=by simp [iT]
theorem nu (l:List Nd) (k:Nat):(iL l k).length=l.length:=by simp [iL]
theorem FC {l:List Nd} {k p:Nat} (hp:p<l.length):(iT l k)[p]?.getD []=[.row (p+6) (bC l k p).length (bC l k p).length]:=by simp [iT,hp]
theorem BF {l:List Nd} {k p:Nat} {C:List (Option HB)} (hp:p<l.length):aB (iL l k++C) p=some (.row 1 (bC l k p).length (aN (aL (bk (bC l k p))))):=by
 unfold aB
 rw [List.getElem?_append_left (by rw [nu];exact hp)]
 simp [iL,hp]
theorem BD {l:List Nd} {k:Nat} {x:Option HB} {C:List (Option HB)}:aB (iL l k++x::C) l.length=x:=by
 unfold aB
 rw [List.getElem?_append_right (by rw [nu];exact Nat.le_refl _),nu]
 simp
theorem Fx {l:List Nd} {k:Nat} {x y:Option HB} {C:List (Option HB)}:aB (iL l k++x::y::C) (l.length+1)=y:=by
 unfold aB
 rw [List.getElem?_append_right (by rw [nu];omega),nu,show l.length+1 - l.length=1 by omega]
 simp
theorem FA {l:List Nd} {k p:Nat} {hb:Option HB} {x y:Option HB} {C:List (Option HB)}:aB ((iL l k).set p hb++x::C) l.length=x:=by
 unfold aB
 rw [List.getElem?_append_right (by rw [List.length_set,nu];exact Nat.le_refl _),List.length_set,nu]
 simp
theorem BH {l:List Nd} {k:Nat} {x y:Option HB} {C:List (Option HB)}:(iL l k++x::C).set l.length y=iL l k++y::C:=by
 rw [List.set_append_right _ _ (by rw [nu];exact Nat.le_refl _),nu,Nat.sub_self];rfl
theorem Ol {l:List Nd} {k p:Nat} {y:Option HB} {C:List (Option HB)} (hp:p<l.length):(iL l k++C).set p y=(iL l k).set p y++C:=by
 rw [List.set_append_left _ _ (by rw [nu];exact hp)]
theorem On (l:List Nd):iL l 0=iQ l.length 1:=by
 refine List.ext_getElem (by simp [iL,iQ]) (fun i h1 h2=>?_)
 simp [iL,iQ,tV,bk,aL,aN]
theorem FE (l:List Nd):iT l 0=iC 6 l.length l.length:=by
 refine List.ext_getElem (by simp [iT,iC]) (fun i h1 h2=>?_)
 simp [iT] at h1
 simp [iT,iC,tV,h1];omega
theorem Oj {l:List Nd} {k p:Nat} (h0:0<k) (hp:bD l k=p) (hl:p<l.length) :
 (iL l k).set p (some (.row 1 ((bC l k p).length+1) (aN (aL (bk (bC l k p)++[(k:Int)])))))=iL l (k+1):=by
 refine List.ext_getElem (by simp [iL]) (fun i h1 h2=>?_)
 simp -implicitDefEqProofs only [List.getElem_set,iL,List.getElem_map,List.getElem_range,tU]
 by_cases h:p=i
 ·subst h;simp [h0,hp,bk]
 ·rw [if_neg h,if_neg (by rw [hp];omega)];simp
theorem Ou {l:List Nd} {k p:Nat} (h0:0<k) (hp:bD l k=p) (hl:p<l.length) :
 (iT l k).set p [.row (p+6) ((bC l k p).length+1) ((bC l k p).length+1)]=iT l (k+1):=by
 refine List.ext_getElem (by simp [iT]) (fun i h1 h2=>?_)
 simp -implicitDefEqProofs only [List.getElem_set,iT,List.getElem_map,List.getElem_range,tU]
 by_cases h:p=i
 ·subst h;simp [h0,hp]
 ·rw [if_neg h,if_neg (by rw [hp];omega)];simp
theorem Oh (l:List Nd):iL l 1=iL l 0:=by
 refine List.ext_getElem (by simp [iL]) (fun i h1 h2=>?_)
 simp [iL,bC,List.range_succ]
theorem Oq (l:List Nd):iT l 1=iT l 0:=by
 refine List.ext_getElem (by simp [iT]) (fun i h1 h2=>?_)
 simp [iT,bC,List.range_succ]
def lM (l:List Nd):List (List RV):=(List.range l.length).map fun p=>[.sl 1 (aL (bk (hJ l p)))]
def rX (l:List Nd):List Int:=(List.range l.length).map fun n=>(hD l n:Int)
abbrev fD (l:List Nd):RV:=.rop [.sl 49 (bu l),.sl 1 (lM l),.sl 1 (aL (rX l)),.sl 1 (aL (bZ l l.length)),.sl 1 (jw (fQ l l.length))]
def qU (l:List Nd) (k:Nat) (es ds:List Int) (bs:List Bool):List (Option HB):=some (.row 49 1 (aN (bu l)))::some (.row 1 0 (iT l k))::some (.row 1 0 (aN (aL es)))::some (.row 1 0 (aN (aL ds)))::some (.row 1 0 (aN (jw bs)))::some (.var [.row 0 1 l.length,.row 1 0 l.length,.row 2 0 l.length,.row 3 0 l.length,.row 4 0 l.length])::iL l k
theorem Fw {l:List Nd} {k:Nat} {es ds:List Int} {bs:List Bool}:(qU l k es ds bs).length=l.length+6:=by simp [qU,nu]
theorem Of {l:List Nd} {k:Nat} {es ds:List Int} {bs:List Bool}:kX (mF (l.length+6)) (qU l k es ds bs):=by
 refine ⟨iP,fun i x hx=>?_,iP,iP,iP,by simp [mF,mE,jx],kX.of fun j x hx=>?_⟩
 ·obtain ⟨hl,rfl⟩:=List.getElem?_eq_some_iff.1 hx
  simp [vT] at hl
  simp [iT,mE,jx,hl]
 ·obtain ⟨hl,rfl⟩:=List.getElem?_eq_some_iff.1 hx
  exact ⟨.row 1 (bC l k j).length (aN (aL (bk (bC l k j)))),by simp [iL],iP⟩
theorem BB {l:List Nd} {k:Nat} {es ds:List Int} {bs:List Bool} {env env':List (Nat×SV)} {C:List (Option HB)} (he:iw (l.length+6) env env'):fS 0 ⟨env,qU l k es ds bs++C⟩ ⟨env',qU l k es ds bs⟩:=
 nU (Nat.zero_le _) (by rw [Fw];exact Of) (by rw [Fw];exact he)
def gK (l:List Nd) (k:Nat):List Int:=(List.range l.length).map fun j=>if k≤j then (hD l j:Int) else 0
theorem DO (l:List Nd) (k:Nat):(gK l k).length=l.length:=by simp [gK]
theorem DQ (l:List Nd):gK l l.length=List.replicate l.length 0:=by
 refine List.ext_getElem (by simp [gK]) (fun i h1 h2=>?_)
 simp [gK] at h1
 simp [gK];omega
theorem DR (l:List Nd):gK l 0=rX l:=by simp [gK,rX]
theorem DP {l:List Nd} {k:Nat} (hk:0<k) (hl:k≤l.length):(gK l k).set (k - 1) (hD l (k - 1))=gK l (k - 1):=by
 refine List.ext_getElem (by simp [gK]) (fun i h1 h2=>?_)
 simp -implicitDefEqProofs only [List.getElem_set,gK,List.getElem_map,List.getElem_range]
 by_cases h:k - 1=i
 ·subst h;simp
 ·rw [if_neg h]
  by_cases hi:k≤i
  ·rw [if_pos hi,if_pos (by omega)]
  ·rw [if_neg hi,if_neg (by omega)]
theorem DN {l:List Nd} {k j:Nat} {v:Int} (hj:k≤j) (hk:0<k) (hl:j<l.length):((gK l k).set (k - 1) v).getD j 0=hD l j:=by
 rw [List.getD_eq_getElem?_getD,List.getElem?_set_ne (by omega)]
 simp [gK,hl,hj]
theorem nY {τ:Nat→Option Nat} {h:Hp} {j e aq len:Nat} {xs:List (List RV)} (hj:h j=some (.row e aq (aN xs))) (lJ:τ j=none) (hl:len=xs.length) (h1:∀ x∈xs,∀ r∈x,r.one=true):Fz τ h (.row j aq len) (.sl e xs):=by
 have:=nX (τ:=τ) hj lJ (len:=len) (by omega) h1
 rw [hl,List.take_length] at this
 rw [hl];exact this
theorem QG (l:List Nd):Fz (fun _=>none) (aB (qU l l.length (rX l) (bZ l l.length) (fQ l l.length))) (.ptr 5 0) (fD l):=by
 refine .ptr 5 [.row 0 1 l.length,.row 1 0 l.length,.row 2 0 l.length,.row 3 0 l.length,.row 4 0 l.length] _ rfl rfl rfl (fun i r hr=>?_) (fun i x r hx hr=>?_)
 ·match i with
  | 0=>cases hr;rfl
  | 1=>cases hr;rfl
  | 2=>cases hr;rfl
  | 3=>cases hr;rfl
  | 4=>cases hr;rfl
  | i+5=>simp at hr
 ·match i with
  | 0=>cases hx;cases hr;exact nY rfl rfl (by simp [bu]) (yW l)
  | 1=>
    cases hx;cases hr
    refine .row 1 1 0 l.length (iT l l.length) (lM l) rfl rfl (by simp [lM]) (by rw [vT];exact Nat.le_refl _) (fun i x r hx hr=>?_) (fun i r k q hr hq=>?_) (fun i x r k y q hx hr hy hq=>?_)
    ·obtain ⟨_,rfl⟩:=List.getElem?_eq_some_iff.1 hx
     obtain ⟨_,rfl⟩:=List.getElem?_eq_some_iff.1 hr
     simp [iT,lM]
    ·obtain ⟨_,rfl⟩:=List.getElem?_eq_some_iff.1 hr
     have:=List.mem_of_getElem? hq
     simp [lM] at this
     rw [this];rfl
    ·obtain ⟨hl,rfl⟩:=List.getElem?_eq_some_iff.1 hx
     obtain ⟨_,rfl⟩:=List.getElem?_eq_some_iff.1 hr
     rw [vT] at hl
     cases k with
     | succ k=>simp [iT] at hy
     | zero=>
       simp [iT] at hy
       simp [lM] at hq
       subst hy;subst hq
       refine nY (xs:=aL (bk (hJ l i))) ?_ rfl (by simp [aL,bk,hJ]) (kF _)
       have:=BF (k:=l.length) (C:=[]) hl
       rw [List.append_nil] at this
       exact this
  | 2=>cases hx;cases hr;exact nY rfl rfl (by simp [aL,rX]) (kF _)
  | 3=>cases hx;cases hr;exact nY rfl rfl (by simp [aL,bZ]) (kF _)
  | 4=>cases hx;cases hr;exact nY rfl rfl (by simp [jw,fQ]) (Dh _)
  | i+5=>simp at hx
theorem tY (x:Nd):(x.cells.map SV.rv)[0]?=some (.rv (.bool x.s.shown)):=rfl
theorem TR (l:List Nd) (hb:l.length≤8589934592) (hc:kL l=0):aG Go.Proofs.Tryz.prog 9 [.rv (.sl 49 (bu l))] [] [] (.aP [.rv (fD l),.rv (.int .i64 0)]):=by
 refine bt FK [.rv (.sl 49 (bu l))] _ (by simp) (by simp [aO,aW,bl,aQ,aY,aC.sv,Ln.sv,Nd.sv]) (fun K hK=>?_)
 have hlen:=an l
 have qc:=Ia l hb
 rw [hc] at qc
 have ht:fU l=true:=by
  unfold kL at hc
  cases h:fU l with
  | true=>rfl
  | false=>rw [h] at hc;simp at hc
 have hs:iA l:=wE.1 (by unfold fU at ht;simp -implicitDefEqProofs only [Bool.and_eq_true] at ht;exact ht.1)
 have qH:(((0:Int)) != 0)=false:=rfl
 conv in fc _ _ _ _=>reduce
 simp -implicitDefEqProofs only [go_sem,Int.reduceNegSucc]
 have hb2:(bu l).length≤8589934592:=by rw [hlen];exact hb
 have aS:=qc;have y_2:=HD (bu l) 0 hb2;repeat' (first | (simp -implicitDefEqProofs only [go_sem,Int.reduceNegSucc,qH,hlen,zp,Hv]) | (with_reducible refine aA ?_) | (with_reducible first | refine ag aS ?_ | refine ah aS ?_) | (refine bR y_2 ?_ ?_ ?_;(focus (simp [aU,aB] <;> fail));(focus (simp [bh,aR] <;> fail))) | (refine cg y_2 ?_ ?_ ?_;(focus (simp [aU,aB] <;> fail));(focus (simp [bh,aR] <;> fail))) | ((first | refine ai (fun hg=>?_) (fun hg=>?_) | refine ay (fun hg=>?_) (fun hg=>?_) | refine az (fun hg=>?_) (fun hg=>?_)) <;> try simp -implicitDefEqProofs only [hg,Bool.not_true,Bool.not_false]) | ((with_reducible apply And.intro);focus (first | trivial | omega | decide | (simp -implicitDefEqProofs only [maxLen];omega) | (simp [maxLen,af,ak,an,ax,aj,av,au] <;> omega))) | fail)
 have Nb:∀ n:Nat,iT l 0=iC 6 l.length l.length:=fun _=>FE l
 let ev:Nat→List (Nat×SV):=fun k=>[(33,.rv (.int .i64 k)),(32,.rv (.int .i64 l.length)),(31,.rv (.sl 49 (bu l))),(5,.ptr 5 0),(0,.rv (.sl 49 (bu l)))]
 refine fG (ι:=Nat) (fun k=>[(33,.rv (.int .i64 k)),(32,.rv (.int .i64 l.length)),(31,.rv (.sl 49 (bu l))),(5,.ptr 5 0),(0,.rv (.sl 49 (bu l)))]) (fun k=>some (.row 49 1 (aN (bu l)))::some (.row 1 0 (iT l k))::some (.row 1 0 (aN (aL (List.replicate l.length 0))))::some (.row 1 0 (aN (aL (bZ l k))))::some (.row 1 0 (aN (jw (fQ l k))))::some (.var [.row 0 1 l.length,.row 1 0 l.length,.row 2 0 l.length,.row 3 0 l.length,.row 4 0 l.length])::iL l k) (fun k=>k≤l.length) (fun k=>l.length - k) 0 (by simp) ?_ (fun k hk K' hN hX hR=>?_)
 ·refine (aZ (env':=[(33,.rv (.int .i64 0)),(32,.rv (.int .i64 l.length)),(31,.rv (.sl 49 (bu l))),(5,.ptr 5 0),(0,.rv (.sl 49 (bu l)))]) (by simp [lk])).trans ?_
  rw [FE,On,Ah,Gk]
  exact DS (r:=1) (v:=0) (n:=l.length) (e:=1) rfl
 simp -implicitDefEqProofs only [go_sem,Int.reduceNegSucc]
 refine ai (fun hg=>?_) (fun hg=>?_)
 ·have aE:k<l.length:=by simp at hg;omega
  have hx:=jf aE
  have sH:=nu l k
  have hdl:=tu l k
  have lq:=aj (bZ l k)
  have oW:=kQ (l:=bZ l k) (i:=k) (by omega)
  have hml:=Gj l k
  have sC:=xz (fQ l k)
  have sB:=tc (bs:=fQ l k) (i:=k) (by omega)
  have hsh:=Cp aE
  have e1:(l.length=l.length+1)=False:=eq_false (by omega)
  have e2:(l.length=l.length+2)=False:=eq_false (by omega)
  have hds:=xV aE
  have sr:=Ag aE
  have wu:=fy (k:=k) (by omega)
  by_cases gw:0<k
  ·have hgt:decide ((k:Int)>0)=true:=decide_eq_true (by omega)
   obtain ⟨p1,p2⟩:=hs.wf.2 k gw aE
   obtain ⟨p,hp⟩:∃ p:Nat,bD l k=p:=⟨(bD l k).toNat,by omega⟩
   have gG:p<l.length:=by omega
   have q0:(p=l.length)=False:=eq_false (by omega)
   have q1:(p=l.length+1)=False:=eq_false (by omega)
   have q2:(p=l.length+2)=False:=eq_false (by omega)
   have hpk:=mR aE
   have MM:(bZ l k).set k 1=(bZ l k).set k 1:=rfl
   have su:((bZ l k).set k 1).length=l.length:=by simp [hdl]
   have vj:=aj ((bZ l k).set k 1)
   have oX:=kQ (l:=(bZ l k).set k 1) (i:=p) (by omega)
   have sq:=kQ (l:=(bZ l k).set k 1) (i:=k) (by omega)
   rw [Af (by omega) (by omega)] at oX
   have qM:=Aj hs.wf gw aE
   rw [hp,Int.toNat_natCast] at qM
   have wd:=fy (k:=depth l p) (by have:=ug (l:=l) p;unfold depth;omega)
   rw [← qM] at wd
   obtain ⟨b,sF⟩:∃ b,pL l k=b:=⟨_,rfl⟩
   have hmp:=tc (bs:=(fQ l k).set k b) (i:=p) (by simp [hml];omega)
   have hmk:=tc (bs:=(fQ l k).set k b) (i:=k) (by simp [hml];omega)
   rw [Gi (by omega) (by omega)] at hmp
   have vr:((fQ l k).set k b).length=l.length:=by simp [hml]
   have vu:=xz ((fQ l k).set k b)
   have mN:((fQ l k).set k b).set k (b && mq l p)=fQ l (k+1):=by
    have:=Gg hs.wf gw aE
    rw [hp,Int.toNat_natCast,sF] at this
    rw [List.set_set,← this,yQ aE]
   have og:=vT l k
   have oe:=FC (k:=k) gG
   have mM:=fun C=>BF (k:=k) (C:=C) gG
   have hkn:=Oj gw hp gG
   have htn:=Ou gw hp gG
   have hsp:=fun (y:Option HB) C=>Ol (k:=k) (y:=y) (C:=C) gG
   have gF:(bk (bC l k p)).length=(bC l k p).length:=by simp [bk]
   have oc:=aj (bk (bC l k p))
   have jd:(aL (bk (bC l k p))).take (bC l k p).length=aL (bk (bC l k p)):=List.take_of_length_le (by rw [oc,gF];exact Nat.le_refl _)
   have hkk:=sG (l:=l) (k:=k) (p:=p)
   cases b
   all_goals simp -implicitDefEqProofs only [Bool.false_and,Bool.true_and] at mN
   ·repeat' (first | (simp -implicitDefEqProofs only [go_sem,Int.reduceNegSucc,hlen,hx,sH,ak,qm,Nat.add_assoc,BD,List.append_assoc,hdl,lq,oW,hml,sC,sB,mT,uq,tY,hsh,sF,e1,e2,BH,hgt,hpk,hp,tZ,og,oe,mM,q0,q1,q2,hsp,Fx,FA,gF,oc,jd,mw,hkn,htn,su,vj,oX,sq,wd,sr,wu,hmp,hmk,vr,vu]) | (with_reducible refine aA ?_) | ((first | refine ai (fun hg=>?_) (fun hg=>?_) | refine ay (fun hg=>?_) (fun hg=>?_) | refine az (fun hg=>?_) (fun hg=>?_)) <;> try simp -implicitDefEqProofs only [hg,Bool.not_true,Bool.not_false]) | ((with_reducible apply And.intro);focus (first | trivial | omega | decide | (simp -implicitDefEqProofs only [maxLen];omega) | (simp [maxLen,af,ak,an,ax,aj,av,au] <;> omega) | (simp (decide:=true) [oT,qG,mG,pU,Nat.testBit,q0,q1,q2];done))) | fail)
    rw [mN]
    exact hN (k+1) _ _ (by omega) (by omega) (BB (l:=l) (k:=k+1) (by simp [iw,lk,jT,lY]))
   ·repeat' (first | (simp -implicitDefEqProofs only [go_sem,Int.reduceNegSucc,hlen,hx,sH,ak,qm,Nat.add_assoc,BD,List.append_assoc,hdl,lq,oW,hml,sC,sB,mT,uq,tY,hsh,sF,e1,e2,BH,hgt,hpk,hp,tZ,og,oe,mM,q0,q1,q2,hsp,Fx,FA,gF,oc,jd,mw,hkn,htn,su,vj,oX,sq,wd,sr,wu,hmp,hmk,vr,vu]) | (with_reducible refine aA ?_) | ((first | refine ai (fun hg=>?_) (fun hg=>?_) | refine ay (fun hg=>?_) (fun hg=>?_) | refine az (fun hg=>?_) (fun hg=>?_)) <;> try simp -implicitDefEqProofs only [hg,Bool.not_true,Bool.not_false]) | ((with_reducible apply And.intro);focus (first | trivial | omega | decide | (simp -implicitDefEqProofs only [maxLen];omega) | (simp [maxLen,af,ak,an,ax,aj,av,au] <;> omega) | (simp (decide:=true) [oT,qG,mG,pU,Nat.testBit,q0,q1,q2];done))) | fail)
    rw [mN]
    exact hN (k+1) _ _ (by omega) (by omega) (BB (l:=l) (k:=k+1) (by simp [iw,lk,jT,lY]))
  ·obtain rfl:k=0:=by omega
   have hgt:decide (((0:Nat):Int)>0)=false:=rfl
   rw [Ak] at hds
   have mN:=yQ aE
   rw [Gh] at mN
   have AT:(bZ l 0).set 0 1=bZ l (0+1):=hds
   repeat' (first | (simp -implicitDefEqProofs only [go_sem,Int.reduceNegSucc,hlen,hx,sH,ak,qm,Nat.add_assoc,BD,List.append_assoc,hdl,lq,oW,hml,sC,sB,mT,uq,tY,hsh,e1,e2,BH,hgt,wu,mN,AT]) | (with_reducible refine aA ?_) | ((first | refine ai (fun hg=>?_) (fun hg=>?_) | refine ay (fun hg=>?_) (fun hg=>?_) | refine az (fun hg=>?_) (fun hg=>?_)) <;> try simp -implicitDefEqProofs only [hg,Bool.not_true,Bool.not_false]) | ((with_reducible apply And.intro);focus (first | trivial | omega | decide | (simp -implicitDefEqProofs only [maxLen];omega) | (simp [maxLen,af,ak,an,ax,aj,av,au] <;> omega))) | fail)
   refine hN 1 _ _ (by omega) (by omega) ?_
   rw [Oq,Oh]
   exact BB (l:=l) (k:=0) (es:=List.replicate l.length 0) (ds:=bZ l (0+1)) (bs:=fQ l (0+1)) (C:=[some (.var ((l[0]'aE).cells.map .rv))]) (by simp [iw,lk,jT,lY])
 ·have aE:k=l.length:=by simp at hg;omega
  subst aE
  simp -implicitDefEqProofs only [go_sem,Int.reduceNegSucc]
  refine hX _ _ _ ?_
  have wl:=uF hs.pos (by omega)
  repeat' (first | (simp -implicitDefEqProofs only [go_sem,Int.reduceNegSucc,hlen,wl]) | (with_reducible refine aA ?_) | ((first | refine ai (fun hg=>?_) (fun hg=>?_) | refine ay (fun hg=>?_) (fun hg=>?_) | refine az (fun hg=>?_) (fun hg=>?_)) <;> try simp -implicitDefEqProofs only [hg,Bool.not_true,Bool.not_false]) | ((with_reducible apply And.intro);focus (first | trivial | omega | decide | (simp -implicitDefEqProofs only [maxLen];omega) | (simp [maxLen,af,ak,an,ax,aj,av,au] <;> omega))) | fail)
  clear hN hX hR
  refine fG (ι:=Nat) (fun k=>[(8,.rv (.int .i64 ((k:Int) - 1))),(5,.ptr 5 0)]) (fun k=>qU l l.length (gK l k) (bZ l l.length) (fQ l l.length)) (fun k=>k≤l.length) (fun k=>k) l.length (Nat.le_refl _) (by rw [DQ];exact aZ (by simp [lk];have:=hs.pos;omega)) (fun k hk K' hN hX hR=>?_)
  simp -implicitDefEqProofs only [qU,go_sem,Int.reduceNegSucc]
  refine ai (fun hg=>?_) (fun hg=>?_)
  ·have gw:0<k:=by simp at hg;omega
   obtain ⟨j,rfl⟩:∃ j,k=j+1:=⟨k - 1,by omega⟩
   have ej:(((j+1:Nat):Int) - 1)=(j:Int):=by omega
   have wj:=fy (k:=j) (by omega)
   have hjl:j<l.length:=by omega
   have hel:=DO l (j+1)
   have vl:=aj (gK l (j+1))
   have sw:=kQ (l:=gK l (j+1)) (i:=j) (by omega)
   have og:=vT l l.length
   have oe:=FC (k:=l.length) hjl
   have mM:=BF (k:=l.length) (C:=[]) hjl
   simp -implicitDefEqProofs only [List.append_nil] at mM
   have gF:(bk (bC l l.length j)).length=(bC l l.length j).length:=by simp [bk]
   have oc:=aj (bk (bC l l.length j))
   have hkk:=sG (l:=l) (k:=l.length) (p:=j)
   have nr:((gK l (j+1)).set j ((j+1:Nat):Int)).length=l.length:=by simp [hel]
   have Bp:=aj ((gK l (j+1)).set j ((j+1:Nat):Int))
   have jc:=DP (l:=l) (k:=j+1) (by omega) (by omega)
   simp -implicitDefEqProofs only [Nat.add_sub_cancel] at jc
   have wd:IntKind.i64.wrap ((j:Int) - 1)=((j:Int) - 1):=wrap_i64 (by omega) (by omega)
   by_cases fI:bC l l.length j=[]
   ·have hm0:decide ((((bC l l.length j).length:Nat):Int)>0)=false:=by rw [fI];rfl
    have he:=Aq fI
    rw [he] at jc
    repeat' (first | (simp -implicitDefEqProofs only [go_sem,Int.reduceNegSucc,hel,vl,sw,og,oe,mM,ej,wj,hm0,mT,jc,wd]) | (with_reducible refine aA ?_) | ((first | refine ai (fun hg=>?_) (fun hg=>?_) | refine ay (fun hg=>?_) (fun hg=>?_) | refine az (fun hg=>?_) (fun hg=>?_)) <;> try simp -implicitDefEqProofs only [hg,Bool.not_true,Bool.not_false]) | ((with_reducible apply And.intro);focus (first | trivial | omega | decide | (simp -implicitDefEqProofs only [maxLen];omega) | (simp [maxLen,af,ak,an,ax,aj,av,au] <;> omega))) | fail)
    refine hN j _ _ (by omega) (by omega) (aZ (by simp [lk]))
   ·obtain ⟨c,hc⟩:∃ c,(bC l l.length j).getLast?=some c:=by
     cases h:(bC l l.length j).getLast? with
     | none=>exact absurd (List.getLast?_eq_none_iff.1 h) fI
     | some c=>exact ⟨c,rfl⟩
    have hpos:0<(bC l l.length j).length:=List.length_pos_iff.2 fI
    have hm0:decide ((((bC l l.length j).length:Nat):Int)>0)=true:=decide_eq_true (by omega)
    have mL:c∈hJ l j:=List.mem_of_getLast? hc
    obtain ⟨c1,c2,c3⟩:=tX.1 mL
    have AN:j<c:=by have:=(hs.wf.2 c c1 c2).2;omega
    have he:=Ap hc AN c2
    rw [he] at jc
    have wm:=uF hpos (by omega)
    have AM:(bk (bC l l.length j)).getD ((bC l l.length j).length - 1) 0=(c:Int):=by
     rw [List.getLast?_eq_getElem?] at hc
     simp [bk,List.getD_eq_getElem?_getD,hc]
    have jH:=kQ (l:=bk (bC l l.length j)) (i:=(bC l l.length j).length - 1) (by omega)
    rw [AM] at jH
    have vk:=kQ (l:=(gK l (j+1)).set j ((j+1:Nat):Int)) (i:=c) (by omega)
    have qd:=DN (l:=l) (k:=j+1) (j:=c) (v:=((j+1:Nat):Int)) (by omega) (by omega) c2
    simp -implicitDefEqProofs only [Nat.add_sub_cancel] at qd
    rw [qd] at vk
    have AW:=kQ (l:=(gK l (j+1)).set j ((j+1:Nat):Int)) (i:=j) (by omega)
    have vF:((gK l (j+1)).set j ((j+1:Nat):Int)).set j (hD l c)=gK l j:=by rw [List.set_set,jc]
    repeat' (first | (simp -implicitDefEqProofs only [go_sem,Int.reduceNegSucc,hel,vl,sw,og,oe,mM,ej,wj,hm0,mT,wd,wm,jH,vk,AW,vF,nr,Bp,gF,oc]) | (with_reducible refine aA ?_) | ((first | refine ai (fun hg=>?_) (fun hg=>?_) | refine ay (fun hg=>?_) (fun hg=>?_) | refine az (fun hg=>?_) (fun hg=>?_)) <;> try simp -implicitDefEqProofs only [hg,Bool.not_true,Bool.not_false]) | ((with_reducible apply And.intro);focus (first | trivial | omega | decide | (simp -implicitDefEqProofs only [maxLen];omega) | (simp [maxLen,af,ak,an,ax,aj,av,au] <;> omega))) | fail)
    refine hN j _ _ (by omega) (by omega) (aZ (by simp [lk]))
  ·obtain rfl:k=0:=by simp at hg;omega
   simp -implicitDefEqProofs only [go_sem,Int.reduceNegSucc]
   refine hX _ _ _ ?_
   repeat' (first | (simp -implicitDefEqProofs only [go_sem,Int.reduceNegSucc]) | (with_reducible refine aA ?_) | ((first | refine ai (fun hg=>?_) (fun hg=>?_) | refine ay (fun hg=>?_) (fun hg=>?_) | refine az (fun hg=>?_) (fun hg=>?_)) <;> try simp -implicitDefEqProofs only [hg,Bool.not_true,Bool.not_false]) | ((with_reducible apply And.intro);focus (first | trivial | omega | decide | (simp -implicitDefEqProofs only [maxLen];omega) | (simp [maxLen,af,ak,an,ax,aj,av,au] <;> omega))) | fail)
   refine (hK _ _ ?_).2
   rw [DR]
   exact ⟨trivial,bq.2 ⟨.fz _ _ (QG l),aK.2 rfl,trivial⟩⟩
end Go.aJ

namespace Go.aJ
open Go
theorem PL:aT Go.Proofs.Tryz.prog 88 10 (fc Go.Proofs.Tryz.prog 88 10 [(.t 2)]) [(.t 2)]:=bn (by kernel_rfl)
theorem PR:aT Go.Proofs.Tryz.prog 59 13 (fc Go.Proofs.Tryz.prog 59 13 [(.t 4)]) [(.t 4)]:=bn (by kernel_rfl)
theorem PO:aT Go.Proofs.Tryz.prog 60 18 (fc Go.Proofs.Tryz.prog 60 18 [(.c 4 48 true)]) [(.c 4 48 true)]:=bn (by kernel_rfl)
theorem PM:aT Go.Proofs.Tryz.prog 28 17 (fc Go.Proofs.Tryz.prog 28 17 [(.t 4)]) [(.t 4)]:=bn (by kernel_rfl)
theorem PN:aT Go.Proofs.Tryz.prog 48 36 (fc Go.Proofs.Tryz.prog 48 36 [(.t 4)]) [(.t 4)]:=bn (by kernel_rfl)
def gP (l:List Nd) (n:Int):Bool:=decide (n≥0) && decide (n<l.length)
theorem qi {l:List Nd} {n:Int} (h:gP l n=true):∃ k:Nat,n=k∧k<l.length:=by
 simp [gP] at h;exact ⟨n.toNat,by omega,by omega⟩
theorem vM {l:List Nd} {k:Nat} (h:k<l.length):gP l k=true:=by simp [gP,h]
def bS (l:List Nd) (n:Int):aC:=if gP l n=true then (l.getD n.toNat default).s else default
def VU (l:List Nd) (n:Int):Int:=if gP l n=true then bD l n.toNat else -1
def An (l:List Nd) (n:Int):Int:=if gP l n=true then hD l n.toNat else 0
def Vq (l:List Nd) (n:Int):Int:=if gP l n=true then depth l n.toNat else 0
def gW (l:List Nd) (n:Int):Bool:=gP l n && mq l n.toNat
def oE (l:List Nd) (n:Int):Bool:=gW l n && decide (n>0) && (decide ((bS l n).position=2) || decide ((bS l n).position=3))
def Vp (l:List Nd) (a n:Int):Bool:=gP l a && gP l n && decide (n≥a) && decide (n<An l a)
theorem QD (l:List Nd):(lM l).length=l.length:=by simp [lM]
theorem QC {l:List Nd} {k:Nat} (h:k<l.length):(lM l)[k]?.getD []=[.sl 1 (aL (bk (hJ l k)))]:=by simp [lM,h]
theorem Rl (l:List Nd):(jw (fQ l l.length)).length=l.length:=by simp [jw,fQ]
theorem Rk {l:List Nd} {k:Nat} (h:k<l.length):(jw (fQ l l.length))[k]?.getD []=[.bool (mq l k)]:=by simp [jw,fQ,h]
theorem Ci {τ:Nat→Option Nat} {h:List (Option HB)} {env:List (Nat×SV)} {a n id:Nat} {rs:List RV} (hl:lk env a = .ptr id 0) (hh:aB h id=some (.var (rs.map .rv))) (hn:rs.length=n):bg τ (aB h) (.agg (rs.map .rv)) (aX (lk env) (aB h) [.c a n true]):=by
 simp [aX,bg,bp,hl,ia,hh,hn]
 rw [List.take_of_length_le (by simp [hn])];exact aM.2 (ga.2 rfl)
section
variable (l:List Nd) (hb:l.length≤8589934592) (n:Int)
theorem Tq:aG Go.Proofs.Tryz.prog 88 [.rv (fD l)] [] [] (.rv (.int .i64 l.length)):=by
 refine bt PL [.rv (fD l)] _ (by simp) (by simp [aO,aW,bl,aQ,aY,aC.sv,Ln.sv,Nd.sv]) (fun K hK=>?_)
 conv in fc _ _ _ _=>reduce
 simp -implicitDefEqProofs only [go_sem,Int.reduceNegSucc]
 repeat' (first | (simp -implicitDefEqProofs only [go_sem,Int.reduceNegSucc,an,fD]) | (with_reducible refine aA ?_) | ((first | refine ai (fun hg=>?_) (fun hg=>?_) | refine ay (fun hg=>?_) (fun hg=>?_) | refine az (fun hg=>?_) (fun hg=>?_)) <;> try simp -implicitDefEqProofs only [hg,Bool.not_true,Bool.not_false]) | ((with_reducible apply And.intro);focus (first | trivial | omega | decide | (simp -implicitDefEqProofs only [maxLen];omega) | (simp [maxLen,af,ak,an,ax,aj,av,au] <;> omega))) | fail)
 exact (hK _ _ (bO rfl)).2
theorem Cr:aG Go.Proofs.Tryz.prog 59 [.rv (fD l),.rv (.int .i64 n)] [] [] (.rv (.bool (gP l n))):=by
 refine bt PR [.rv (fD l),.rv (.int .i64 n)] _ (by simp) (by simp [aO,aW,bl,aQ,aY,aC.sv,Ln.sv,Nd.sv]) (fun K hK=>?_)
 conv in fc _ _ _ _=>reduce
 simp -implicitDefEqProofs only [go_sem,Int.reduceNegSucc]
 have aS:=Tq l;repeat' (first | (simp -implicitDefEqProofs only [go_sem,Int.reduceNegSucc]) | (with_reducible refine aA ?_) | (with_reducible first | refine ag aS ?_ | refine ah aS ?_) | ((first | refine ai (fun hg=>?_) (fun hg=>?_) | refine ay (fun hg=>?_) (fun hg=>?_) | refine az (fun hg=>?_) (fun hg=>?_)) <;> try simp -implicitDefEqProofs only [hg,Bool.not_true,Bool.not_false]) | ((with_reducible apply And.intro);focus (first | trivial | omega | decide | (simp -implicitDefEqProofs only [maxLen];omega) | (simp [maxLen,af,ak,an,ax,aj,av,au] <;> omega))) | fail)
 all_goals (try ((first | refine (hK _ _ _ _ [] (gL _ _) ?_).2 | refine (hK _ _ ?_).2 | refine (hK _ _ _ _ [] (gL _ _) ?_).1 | refine (hK _ _ ?_).1 | fail);clear hK;(simp_all [gS,bV,newL,gV,gM,bg,aX,lk,bp,fV,gi,fX,iz,iy,aB,gT,bq,aK,gq,gU,iG,aM,iF,aI,gx,ga,bG,gP]) <;> try omega))
theorem HI:aG Go.Proofs.Tryz.prog 60 [.rv (fD l),.rv (.int .i64 n)] [] [] (bS l n).sv:=by
 refine bt PO [.rv (fD l),.rv (.int .i64 n)] _ (by simp) (by simp [aO,aW,bl,aQ,aY,aC.sv,Ln.sv,Nd.sv]) (fun K hK=>?_)
 have hh:=Cr l n
 conv in fc _ _ _ _=>reduce
 simp -implicitDefEqProofs only [go_sem,Int.reduceNegSucc]
 cases hi:gP l n with
 | false=>
   rw [hi] at hh
   have y_2:=hh;repeat' (first | (simp -implicitDefEqProofs only [go_sem,Int.reduceNegSucc]) | (with_reducible refine aA ?_) | (with_reducible first | refine ag y_2 ?_ | refine ah y_2 ?_) | ((first | refine ai (fun hg=>?_) (fun hg=>?_) | refine ay (fun hg=>?_) (fun hg=>?_) | refine az (fun hg=>?_) (fun hg=>?_)) <;> try simp -implicitDefEqProofs only [hg,Bool.not_true,Bool.not_false]) | ((with_reducible apply And.intro);focus (first | trivial | omega | decide | (simp -implicitDefEqProofs only [maxLen];omega) | (simp [maxLen,af,ak,an,ax,aj,av,au] <;> omega) | (rfl;done) | (exact ⟨rfl,by decide⟩;done))) | fail)
   have Bo:bS l n=default:=by simp [bS,hi]
   rw [Bo] at hK
   exact (hK _ _ (Ci rfl rfl rfl)).2
 | true=>
   rw [hi] at hh
   obtain ⟨k,rfl,hk⟩:=qi hi
   have hx:=jf hk
   have hlen:=an l
   have bA:=hh;repeat' (first | (simp -implicitDefEqProofs only [go_sem,Int.reduceNegSucc,hx,hlen,ak,af,wh,fD]) | (with_reducible refine aA ?_) | (with_reducible first | refine ag bA ?_ | refine ah bA ?_) | ((first | refine ai (fun hg=>?_) (fun hg=>?_) | refine ay (fun hg=>?_) (fun hg=>?_) | refine az (fun hg=>?_) (fun hg=>?_)) <;> try simp -implicitDefEqProofs only [hg,Bool.not_true,Bool.not_false]) | ((with_reducible apply And.intro);focus (first | trivial | omega | decide | (simp -implicitDefEqProofs only [maxLen];omega) | (simp [maxLen,af,ak,an,ax,aj,av,au] <;> omega))) | fail)
   have Bo:bS l k=(l[k]'hk).s:=by simp [bS,hi,hk]
   rw [Bo] at hK
   exact (hK _ _ (Ci rfl rfl rfl)).2
theorem Cq:aG Go.Proofs.Tryz.prog 28 [.rv (fD l),.rv (.int .i64 n)] [] [] (.rv (.bool (gW l n))):=by
 refine bt PM [.rv (fD l),.rv (.int .i64 n)] _ (by simp) (by simp [aO,aW,bl,aQ,aY,aC.sv,Ln.sv,Nd.sv]) (fun K hK=>?_)
 have hh:=Cr l n
 conv in fc _ _ _ _=>reduce
 simp -implicitDefEqProofs only [go_sem,Int.reduceNegSucc]
 cases hi:gP l n with
 | false=>
   rw [hi] at hh
   have bL:=hh;repeat' (first | (simp -implicitDefEqProofs only [go_sem,Int.reduceNegSucc]) | (with_reducible refine aA ?_) | (with_reducible first | refine ag bL ?_ | refine ah bL ?_) | ((first | refine ai (fun hg=>?_) (fun hg=>?_) | refine ay (fun hg=>?_) (fun hg=>?_) | refine az (fun hg=>?_) (fun hg=>?_)) <;> try simp -implicitDefEqProofs only [hg,Bool.not_true,Bool.not_false]) | ((with_reducible apply And.intro);focus (first | trivial | omega | decide | (simp -implicitDefEqProofs only [maxLen];omega) | (simp [maxLen,af,ak,an,ax,aj,av,au] <;> omega))) | fail)
   exact (hK _ _ (bO (by simp [gW,hi,lk]))).2
 | true=>
   rw [hi] at hh
   obtain ⟨k,rfl,hk⟩:=qi hi
   have bP:=hh;repeat' (first | (simp -implicitDefEqProofs only [go_sem,Int.reduceNegSucc,Rl,Rk hk,fD]) | (with_reducible refine aA ?_) | (with_reducible first | refine ag bP ?_ | refine ah bP ?_) | ((first | refine ai (fun hg=>?_) (fun hg=>?_) | refine ay (fun hg=>?_) (fun hg=>?_) | refine az (fun hg=>?_) (fun hg=>?_)) <;> try simp -implicitDefEqProofs only [hg,Bool.not_true,Bool.not_false]) | ((with_reducible apply And.intro);focus (first | trivial | omega | decide | (simp -implicitDefEqProofs only [maxLen];omega) | (simp [maxLen,af,ak,an,ax,aj,av,au] <;> omega))) | fail)
   exact (hK _ _ (bO (by simp [gW,hi,lk]))).2
theorem Tu:aG Go.Proofs.Tryz.prog 48 [.rv (fD l),.rv (.int .i64 n)] [] [] (.rv (.bool (oE l n))):=by
 refine bt PN [.rv (fD l),.rv (.int .i64 n)] _ (by simp) (by simp [aO,aW,bl,aQ,aY,aC.sv,Ln.sv,Nd.sv]) (fun K hK=>?_)
 have hh:=Cq l n
 conv in fc _ _ _ _=>reduce
 simp -implicitDefEqProofs only [go_sem,Int.reduceNegSucc]
 cases hi:gW l n with
 | false=>
   rw [hi] at hh
   have bT:=hh;repeat' (first | (simp -implicitDefEqProofs only [go_sem,Int.reduceNegSucc]) | (with_reducible refine aA ?_) | (with_reducible first | refine ag bT ?_ | refine ah bT ?_) | ((first | refine ai (fun hg=>?_) (fun hg=>?_) | refine ay (fun hg=>?_) (fun hg=>?_) | refine az (fun hg=>?_) (fun hg=>?_)) <;> try simp -implicitDefEqProofs only [hg,Bool.not_true,Bool.not_false]) | ((with_reducible apply And.intro);focus (first | trivial | omega | decide | (simp -implicitDefEqProofs only [maxLen];omega) | (simp [maxLen,af,ak,an,ax,aj,av,au] <;> omega))) | fail)
   exact (hK _ _ (bO (by simp [oE,hi,lk]))).2
 | true=>
   rw [hi] at hh
   have hin:gP l n=true:=by simp [gW] at hi;exact hi.1
   obtain ⟨k,rfl,hk⟩:=qi hin
   have hx:=jf hk
   have hlen:=an l
   have hs:bS l k=(l[k]'hk).s:=by simp [bS,hin,hk]
   have hp:((l[k]'hk).cells.drop 1)[0]?=some (.int .i64 (l[k]'hk).s.position):=rfl
   have cq:=hh;repeat' (first | (simp -implicitDefEqProofs only [go_sem,Int.reduceNegSucc,hx,hlen,ak,fD,hp]) | (with_reducible refine aA ?_) | (with_reducible first | refine ag cq ?_ | refine ah cq ?_) | ((first | refine ai (fun hg=>?_) (fun hg=>?_) | refine ay (fun hg=>?_) (fun hg=>?_) | refine az (fun hg=>?_) (fun hg=>?_)) <;> try simp -implicitDefEqProofs only [hg,Bool.not_true,Bool.not_false]) | ((with_reducible apply And.intro);focus (first | trivial | omega | decide | (simp -implicitDefEqProofs only [maxLen];omega) | (simp [maxLen,af,ak,an,ax,aj,av,au] <;> omega))) | fail)
   all_goals (refine (hK _ _ (bO ?_)).2;rw [oE,hi,hs];clear hK hs hp;simp_all [lk,bG])
end
end Go.aJ

namespace Go.aJ
open Go
theorem PK:aT Go.Proofs.Tryz.prog 101 17 (fc Go.Proofs.Tryz.prog 101 17 [(.t 4)]) [(.t 4)]:=bn (by kernel_rfl)
theorem PI:aT Go.Proofs.Tryz.prog 76 10 (fc Go.Proofs.Tryz.prog 76 10 [(.t 4)]) [(.t 4)]:=bn (by kernel_rfl)
theorem PJ:aT Go.Proofs.Tryz.prog 102 13 (fc Go.Proofs.Tryz.prog 102 13 [(.t 3)]) [(.t 3)]:=bn (by kernel_rfl)
theorem Qi:aT Go.Proofs.Tryz.prog 119 19 (fc Go.Proofs.Tryz.prog 119 19 [(.t 4)]) [(.t 4)]:=bn (by kernel_rfl)
theorem Qg:aT Go.Proofs.Tryz.prog 100 42 (fc Go.Proofs.Tryz.prog 100 42 [(.t 4)]) [(.t 4)]:=bn (by kernel_rfl)
def iE (l:List Nd) (n:Int):List Nat:=if gP l n=true then hJ l n.toNat else []
def VW (l:List Nd) (n:Int):List Nat:=if gP l n=true then (br l n.toNat).drop 1 else []
def iI (l:List Nd) (m:Int):Bool:=gW l m && !oE l m
def bK (l:List Nd) (n:Int):List Nat:=(iE l n).filter fun (m:Nat)=>iI l m
theorem Gs (l:List Nat):(bk l).length=l.length:=by simp [bk]
theorem FR (l:List Nd) (n:Int):(iE l n).length≤l.length:=by
 unfold iE;split
 ·exact sG
 ·simp
section
variable (l:List Nd) (hb:l.length≤8589934592) (n:Int)
theorem To (m:Nat) (hb:l.length≤8589934592):aG Go.Proofs.Tryz.prog 101 [.rv (fD l),.rv (.int .i64 n)] [] [(m,.row 1 1 (aN (aL (bk (iE l n)))))] (.row m 1 (iE l n).length):=by
 refine mJ PK [] [] [] [.rv (fD l),.rv (.int .i64 n)] [.rv (fD l),.rv (.int .i64 n)] _ _ (by simp) (by simp [aO,aQ]) rfl (by simp [bV]) (by simp [gZ]) (fun K hK=>?_)
 have hh:=Cr l n
 conv in fc _ _ _ _=>reduce
 simp -implicitDefEqProofs only [go_sem,Int.reduceNegSucc]
 cases hi:gP l n with
 | false=>
   rw [hi] at hh
   have gw:iE l n=[]:=by simp [iE,hi]
   have aS:=hh;repeat' (first | (simp -implicitDefEqProofs only [go_sem,Int.reduceNegSucc]) | (with_reducible refine aA ?_) | (with_reducible first | refine ag aS ?_ | refine ah aS ?_) | ((first | refine ai (fun hg=>?_) (fun hg=>?_) | refine ay (fun hg=>?_) (fun hg=>?_) | refine az (fun hg=>?_) (fun hg=>?_)) <;> try simp -implicitDefEqProofs only [hg,Bool.not_true,Bool.not_false]) | ((with_reducible apply And.intro);focus (first | trivial | omega | decide | (simp -implicitDefEqProofs only [maxLen];omega) | (simp [maxLen,af,ak,an,ax,aj,av,au] <;> omega))) | fail)
   refine (hK _ _ _ _ [some m] (qJ 4 1 1 rfl) ?_).2
   rw [gw]
   simp [gS,bV,newL,gV,gM,bg,aX,lk,bp,fV,gi,fX,iz,iy,aB,gT,bq,aK,gq,gU,iG,aM,iF,aI,gx,ga]
   exact ⟨by simp [aN,aL,bk],fun i x y hx=>by simp at hx⟩
 | true=>
   rw [hi] at hh
   obtain ⟨k,rfl,hk⟩:=qi hi
   have gw:iE l k=hJ l k:=by simp [iE,hi]
   have gF:=sG (l:=l) (k:=l.length) (p:=k)
   have hlen:(aL (bk (hJ l k))).length=(hJ l k).length:=by simp [aL,bk]
   have hlb:(aL (bk (hJ l k))).length≤8589934592:=by rw [hlen];unfold hJ;omega
   have Na:=QC hk
   have y_2:=hh;have bA:=Td (aL (bk (hJ l k))) 0 hlb;repeat' (first | (simp -implicitDefEqProofs only [go_sem,Int.reduceNegSucc,QD,Na,fD]) | (with_reducible refine aA ?_) | (with_reducible first | refine ag y_2 ?_ | refine ah y_2 ?_) | (refine bR bA ?_ ?_ ?_;(focus (simp [aU,aB] <;> fail));(focus (simp [bh,aR] <;> fail))) | (refine cg bA ?_ ?_ ?_;(focus (simp [aU,aB] <;> fail));(focus (simp [bh,aR] <;> fail))) | ((first | refine ai (fun hg=>?_) (fun hg=>?_) | refine ay (fun hg=>?_) (fun hg=>?_) | refine az (fun hg=>?_) (fun hg=>?_)) <;> try simp -implicitDefEqProofs only [hg,Bool.not_true,Bool.not_false]) | ((with_reducible apply And.intro);focus (first | trivial | omega | decide | (simp -implicitDefEqProofs only [maxLen];omega) | (simp [maxLen,af,ak,an,ax,aj,av,au] <;> omega))) | fail)
   refine (hK _ _ _ _ [some m] (gL _ _) ?_).2
   rw [gw]
   simp [gS,bV,newL,gV,gM,bg,aX,lk,bp,fV,gi,fX,iz,iy,aB,gT,bq,aK,gq,gU,iG,aM,iF,aI,gx,ga,hlen]
theorem Tj (m:Int) (j:Nat):aG Go.Proofs.Tryz.prog 102 [.rv (.int .i64 m),.ptr j 0] [(j,.var [.rv (fD l)])] [] (.rv (.bool (!iI l m))):=by
 refine mJ PJ [j] [.var [.rv (fD l)]] [.var [.rv (fD l)]] [.rv (.int .i64 m),.ptr 0 0] [.rv (.int .i64 m),.ptr j 0] _ _ (by simp) (by simp [aO,lG,lg,aQ,aW,nP,aY,nQ,nO,gZ,nI,bV]) rfl (by simp [bV]) (by simp [aO,lG,lg,aQ,aW,nP,aY,nQ,nO,gZ,nI,bV]) (fun K hK=>?_)
 conv in fc _ _ _ _=>reduce
 simp -implicitDefEqProofs only [go_sem,Int.reduceNegSucc]
 have bF:=Cq l m;have bJ:=Tu l m;repeat' (first | (simp -implicitDefEqProofs only [go_sem,Int.reduceNegSucc]) | (with_reducible refine aA ?_) | (with_reducible first | refine ag bF ?_ | refine ah bF ?_) | (with_reducible first | refine ag bJ ?_ | refine ah bJ ?_) | ((first | refine ai (fun hg=>?_) (fun hg=>?_) | refine ay (fun hg=>?_) (fun hg=>?_) | refine az (fun hg=>?_) (fun hg=>?_)) <;> try simp -implicitDefEqProofs only [hg,Bool.not_true,Bool.not_false]) | ((with_reducible apply And.intro);focus (first | trivial | omega | decide | (simp -implicitDefEqProofs only [maxLen];omega) | (simp [maxLen,af,ak,an,ax,aj,av,au] <;> omega))) | fail)
 all_goals (refine (hK _ _ _ _ [] (gL _ _) ?_).2;clear hK;simp_all [gS,bV,newL,gV,gM,bg,aX,lk,bp,fV,gi,fX,iz,iy,aB,gT,bq,aK,gq,gU,iG,aM,iF,aI,gx,ga,iI])
end
section
variable (f:Nat) (i j v:Nat) (cap:RV) (p:Int→Bool) (hij:i≠j) (hf:∀ (m:Int) (j:Nat),aG Go.Proofs.Tryz.prog f [.rv (.int .i64 m),.ptr j 0] [(j,.var [.rv cap])] [] (.rv (.bool (p m))))
include hij hf
theorem Tl (ys:List Int) (hb:ys.length≤8589934592) :
 aG Go.Proofs.Tryz.prog 119 [.row i v ys.length,.fn f [.ptr j 0]] [(i,.row 1 v (aN (aL ys))),(j,.var [.rv cap])] [] (.rv (.int .i64 (match ys.findIdx? p with | some k=>((k:Nat):Int) | none=>-1))):=by
 refine xE Qi [i,j] [.row 1 v (aN (aL ys)),.var [.rv cap]] [.row 1 v (aN (aL ys)),.var [.rv cap]] [.row 0 v ys.length,.fn f [.ptr 1 0]] [.row i v ys.length,.fn f [.ptr j 0]] _ _ (by simp) (by simp [aO,lg,aY,lG]) rfl (by simp [bV,hij]) rfl (CO De (zQ (by simp [aO,lG,lg,aQ,aW,nP,aY,nQ,nO,gZ,nI,bV]))) (fun K hK=>?_)
 have hlen:=aj ys
 conv in fc _ _ _ _=>reduce
 simp -implicitDefEqProofs only [go_sem,Int.reduceNegSucc]
 refine fG (ι:=Nat) (fun k=>[(8,.rv (.int .i64 k)),(7,.rv (.int .i64 ys.length)),(0,.row 0 v ys.length),(1,.fn f [.ptr 1 0])]) (fun _=>[some (.row 1 v (aN (aL ys))),some (.var [.rv cap])]) (fun k=>k≤ys.length∧∀ j,(h:j<ys.length)→j<k→p (ys[j]'h)=false) (fun k=>ys.length - k) 0 (by simp) (aZ (by simp [lk])) (fun k hk K' hN hX hR=>?_)
 obtain ⟨fI,hk2⟩:=hk
 simp -implicitDefEqProofs only [go_sem,Int.reduceNegSucc]
 refine ai (fun hg=>?_) (fun hg=>?_)
 ·have aE:k<ys.length:=by simp at hg;omega
  have hx:=ow aE
  have bL:=hf (ys[k]'aE) 1;repeat' (first | (simp -implicitDefEqProofs only [go_sem,Int.reduceNegSucc,hlen,hx]) | (with_reducible refine aA ?_) | (refine bR bL ?_ ?_ ?_;(focus (simp [aU,aB] <;> fail));(focus (simp [bh,aR] <;> fail))) | (refine cg bL ?_ ?_ ?_;(focus (simp [aU,aB] <;> fail));(focus (simp [bh,aR] <;> fail))) | ((first | refine ai (fun hg=>?_) (fun hg=>?_) | refine ay (fun hg=>?_) (fun hg=>?_) | refine az (fun hg=>?_) (fun hg=>?_)) <;> try simp -implicitDefEqProofs only [hg,Bool.not_true,Bool.not_false]) | ((with_reducible apply And.intro);focus (first | trivial | omega | decide | (simp -implicitDefEqProofs only [maxLen];omega) | (simp [maxLen,af,ak,an,ax,aj,av,au] <;> omega))) | fail)
  ·refine hR _ _ (hK _ _ _ _ [] (gL _ _) ?_).2
   have:ys.findIdx? p=some k:=by
    rw [List.findIdx?_eq_some_iff_getElem]
    exact ⟨aE,by simpa using hg,fun j hj=>by rw [hk2 j (by omega) hj];simp⟩
   rw [this]
   simp [gS,bV,newL,gV,gM,bg,aX,lk,bp,fV,gi,fX,iz,iy,aB,gT,bq,aK,gq,gU,iG,aM,iF,aI,gx,ga,hij,Ne.symm hij]
  ·rw [fy (by omega)]
   refine hN (k+1) _ _ ⟨by omega,fun j hj hji=>?_⟩ (by omega) (aZ (by simp [lk]))
   rcases Nat.lt_or_ge j k with h | h
   ·exact hk2 j hj h
   ·obtain rfl:j=k:=by omega
    simpa using hg
 ·have aE:k=ys.length:=by simp at hg;omega
  subst aE
  simp -implicitDefEqProofs only [go_sem,Int.reduceNegSucc]
  refine hX _ _ _ ?_
  repeat' (first | (simp -implicitDefEqProofs only [go_sem,Int.reduceNegSucc]) | (with_reducible refine aA ?_) | ((first | refine ai (fun hg=>?_) (fun hg=>?_) | refine ay (fun hg=>?_) (fun hg=>?_) | refine az (fun hg=>?_) (fun hg=>?_)) <;> try simp -implicitDefEqProofs only [hg,Bool.not_true,Bool.not_false]) | ((with_reducible apply And.intro);focus (first | trivial | omega | decide | (simp -implicitDefEqProofs only [maxLen];omega) | (simp [maxLen,af,ak,an,ax,aj,av,au] <;> omega))) | fail)
  refine (hK _ _ _ _ [] (gL _ _) ?_).2
  have:ys.findIdx? p=none:=by
   rw [List.findIdx?_eq_none_iff]
   intro x hx
   obtain ⟨j,hj,rfl⟩:=List.getElem_of_mem hx
   exact hk2 j hj hj
  rw [this]
  simp [gS,bV,newL,gV,gM,bg,aX,lk,bp,fV,gi,fX,iz,iy,aB,gT,bq,aK,gq,gU,iG,aM,iF,aI,gx,ga,hij,Ne.symm hij]
def hU (ys:List Int) (p:Int→Bool):List Int:=ys.filter fun y=>!p y
def lZ (ys:List Int) (p:Int→Bool):List Int:=hU ys p++List.replicate (ys.length - (hU ys p).length) 0
theorem Th (ys:List Int) (hb:ys.length≤8589934592) :
 aG Go.Proofs.Tryz.prog 100 [.row i v ys.length,.fn f [.ptr j 0]] [(i,.row 1 v (aN (aL ys))),(j,.var [.rv cap])] [(i,.row 1 v (aN (aL (lZ ys p))))] (.row i v (hU ys p).length):=by
 refine xE Qg [i,j] [.row 1 v (aN (aL ys)),.var [.rv cap]] [.row 1 v (aN (aL ys)),.var [.rv cap]] [.row 0 v ys.length,.fn f [.ptr 1 0]] [.row i v ys.length,.fn f [.ptr j 0]] _ _ (by simp) (by simp [aO,lg,aY,lG]) rfl (by simp [bV,hij]) rfl (CO De (zQ (by simp [aO,lG,lg,aQ,aW,nP,aY,nQ,nO,gZ,nI,bV]))) (fun K hK=>?_)
 have yu:=Tl f 0 1 v cap p (by decide) hf ys hb
 conv in fc _ _ _ _=>reduce
 simp -implicitDefEqProofs only [go_sem,Int.reduceNegSucc]
 cases oY:ys.findIdx? p with
 | none=>
   rw [oY] at yu
   have hno:hU ys p=ys:=by
    rw [List.findIdx?_eq_none_iff] at oY
    exact List.filter_eq_self.2 fun a ha=>by rw [oY a ha];rfl
   have e1:((-1:Int) == -1)=true:=rfl
   have bP:=yu;repeat' (first | (simp -implicitDefEqProofs only [go_sem,Int.reduceNegSucc,e1]) | (with_reducible refine aA ?_) | (refine bR bP ?_ ?_ ?_;(focus (simp [aU,aB] <;> fail));(focus (simp [bh,aR] <;> fail))) | (refine cg bP ?_ ?_ ?_;(focus (simp [aU,aB] <;> fail));(focus (simp [bh,aR] <;> fail))) | ((first | refine ai (fun hg=>?_) (fun hg=>?_) | refine ay (fun hg=>?_) (fun hg=>?_) | refine az (fun hg=>?_) (fun hg=>?_)) <;> try simp -implicitDefEqProofs only [hg,Bool.not_true,Bool.not_false]) | ((with_reducible apply And.intro);focus (first | trivial | omega | decide | (simp -implicitDefEqProofs only [maxLen];omega) | (simp [maxLen,af,ak,an,ax,aj,av,au] <;> omega))) | fail)
   refine (hK _ _ _ _ [] (gL _ _) ?_).2
   simp [gS,bV,newL,gV,gM,bg,aX,lk,bp,fV,gi,fX,iz,iy,aB,gT,bq,aK,gq,gU,iG,aM,iF,aI,gx,ga,hij,Ne.symm hij,hno,lZ]
 | some k0=>
   rw [oY] at yu
   rw [List.findIdx?_eq_some_iff_getElem] at oY
   obtain ⟨gw,jW,qg⟩:=oY
   have e1:(((k0:Nat):Int) == -1)=false:=by simp
   have w0:=fy (k:=k0) (by omega)
   have bT:=yu;repeat' (first | (simp -implicitDefEqProofs only [go_sem,Int.reduceNegSucc,e1,w0]) | (with_reducible refine aA ?_) | (refine bR bT ?_ ?_ ?_;(focus (simp [aU,aB] <;> fail));(focus (simp [bh,aR] <;> fail))) | (refine cg bT ?_ ?_ ?_;(focus (simp [aU,aB] <;> fail));(focus (simp [bh,aR] <;> fail))) | ((first | refine ai (fun hg=>?_) (fun hg=>?_) | refine ay (fun hg=>?_) (fun hg=>?_) | refine az (fun hg=>?_) (fun hg=>?_)) <;> try simp -implicitDefEqProofs only [hg,Bool.not_true,Bool.not_false]) | ((with_reducible apply And.intro);focus (first | trivial | omega | decide | (simp -implicitDefEqProofs only [maxLen];omega) | (simp [maxLen,af,ak,an,ax,aj,av,au] <;> omega))) | fail)
   let kept:Nat→List Int:=fun j=>hU (ys.take j) p
   have QB:∀ j,(kept j).length≤j:=fun j=>by
    have:=List.length_filter_le (fun y=>!p y) (ys.take j)
    simp -implicitDefEqProofs only [List.length_take] at this
    show (hU (ys.take j) p).length≤j
    unfold hU;omega
   have FQ:∀ j (h:j<ys.length),kept (j+1)=kept j++if p (ys[j]'h)=true then [] else [ys[j]'h]:=fun j h=>by
    show hU _ _=hU _ _++_
    rw [List.take_succ_eq_append_getElem h]
    unfold hU
    rw [List.filter_append]
    cases jb:p (ys[j]'h) <;> simp [jb]
   have QA:kept k0=ys.take k0:=List.filter_eq_self.2 fun a ha=>by
    obtain ⟨q,hq,rfl⟩:=List.getElem_of_mem ha
    have Nl:q<k0:=by simp at hq;omega
    have:=qg q Nl
    simp -implicitDefEqProofs only [Bool.not_eq_true] at this
    simp [this]
   have BK:kept (k0+1)=ys.take k0:=by rw [FQ k0 gw,QA,jW];simp
   refine fG (ι:=List Int×Nat) (fun q=>[(6,.rv (.int .i64 q.2)),(5,.rv (.int .i64 (kept q.2).length)),(0,.row 0 v ys.length),(1,.fn f [.ptr 1 0])]) (fun q=>[some (.row 1 v (aN (aL q.1))),some (.var [.rv cap])]) (fun q=>q.1.length=ys.length∧q.2≤ys.length∧(kept q.2).length<q.2∧q.1.take (kept q.2).length=kept q.2∧q.1.drop q.2=ys.drop q.2) (fun q=>ys.length - q.2) (ys,k0+1) ⟨rfl,gw,?_,?_,rfl⟩ (aZ ?_) (fun q hq K' hN hX hR=>?_)
   ·show (kept (k0+1)).length<k0+1
    rw [BK];simp;omega
   ·show ys.take (kept (k0+1)).length=kept (k0+1)
    rw [BK];simp
   ·have:(kept (k0+1)).length=k0:=by rw [BK];simp;omega
    simp [lk,this]
   obtain ⟨zs,j⟩:=q
   obtain ⟨q1,q2,q3,q4,q5⟩:=hq
   dsimp only at q1 q2 q3 q4 q5 ⊢
   simp -implicitDefEqProofs only [go_sem,Int.reduceNegSucc]
   refine ai (fun hg=>?_) (fun hg=>?_)
   ·have hj:j<ys.length:=by simp at hg;omega
    have Bc:zs[j]'(by omega)=ys[j]'hj:=by
     have h1:=List.getElem_drop (xs:=zs) (i:=j) (j:=0) (h:=by simp;omega)
     have h2:=List.getElem_drop (xs:=ys) (i:=j) (j:=0) (h:=by simp;omega)
     simp -implicitDefEqProofs only [Nat.add_zero] at h1 h2
     rw [← h1,← h2]
     congr 1
    have hx:=ow (l:=zs) (i:=j) (by omega)
    rw [Bc] at hx
    have hzl:=aj zs
    have pF:=FQ j hj
    have wj:=fy (k:=j) (by omega)
    have wi:=fy (k:=(kept j).length) (by omega)
    have jY:=ow (l:=zs) (i:=(kept j).length) (by omega)
    have cq:=hf (ys[j]'hj) 1;repeat' (first | (simp -implicitDefEqProofs only [go_sem,Int.reduceNegSucc,hx,hzl,q1,jY,mT,wj,wi]) | (with_reducible refine aA ?_) | (refine bR cq ?_ ?_ ?_;(focus (simp [aU,aB] <;> fail));(focus (simp [bh,aR] <;> fail))) | (refine cg cq ?_ ?_ ?_;(focus (simp [aU,aB] <;> fail));(focus (simp [bh,aR] <;> fail))) | ((first | refine ai (fun hg=>?_) (fun hg=>?_) | refine ay (fun hg=>?_) (fun hg=>?_) | refine az (fun hg=>?_) (fun hg=>?_)) <;> try simp -implicitDefEqProofs only [hg,Bool.not_true,Bool.not_false]) | ((with_reducible apply And.intro);focus (first | trivial | omega | decide | (simp -implicitDefEqProofs only [maxLen];omega) | (simp [maxLen,af,ak,an,ax,aj,av,au] <;> omega))) | fail)
    ·have jb:p (ys[j]'hj)=false:=by simpa using hg
     rw [jb] at pF
     simp -implicitDefEqProofs only [Bool.false_eq_true,if_false] at pF
     refine hN (zs.set (kept j).length (ys[j]'hj),j+1) _ _ ⟨by simp [q1],by omega,?_,?_,?_⟩ (by dsimp only;omega) (aZ (by simp [lk,pF]))
     ·show (kept (j+1)).length<j+1
      rw [pF];simp;omega
     ·show (zs.set (kept j).length (ys[j]'hj)).take (kept (j+1)).length=kept (j+1)
      rw [pF]
      simp -implicitDefEqProofs only [List.length_append,List.length_singleton]
      rw [List.take_succ_eq_append_getElem (by simp;omega),List.take_set_of_le (by omega),q4]
      simp
     ·show (zs.set (kept j).length (ys[j]'hj)).drop (j+1)=ys.drop (j+1)
      rw [List.drop_set_of_lt (by omega),← List.drop_drop,q5,List.drop_drop]
    ·have jb:p (ys[j]'hj)=true:=by simpa using hg
     rw [jb] at pF
     simp -implicitDefEqProofs only [if_true,List.append_nil] at pF
     refine hN (zs,j+1) _ _ ⟨q1,by omega,?_,?_,?_⟩ (by dsimp only;omega) (aZ (by simp [lk,pF]))
     ·show (kept (j+1)).length<j+1
      rw [pF];omega
     ·show zs.take (kept (j+1)).length=kept (j+1)
      rw [pF];exact q4
     ·show zs.drop (j+1)=ys.drop (j+1)
      rw [← List.drop_drop,q5,List.drop_drop]
   ·have hj:j=ys.length:=by simp at hg;omega
    subst hj
    have hkk:kept ys.length=hU ys p:=by show hU (ys.take ys.length) p=_;rw [List.take_length]
    have gF:=QB ys.length
    rw [hkk] at gF q4 q3
    simp -implicitDefEqProofs only [hkk,go_sem,Int.reduceNegSucc]
    refine hX _ _ _ ?_
    have hnz:(((hU ys p).length:Int)=0)=((hU ys p).length=0):=propext (by omega)
    repeat' (first | (simp -implicitDefEqProofs only [go_sem,Int.reduceNegSucc]) | (with_reducible refine aA ?_) | ((first | refine ai (fun hg=>?_) (fun hg=>?_) | refine ay (fun hg=>?_) (fun hg=>?_) | refine az (fun hg=>?_) (fun hg=>?_)) <;> try simp -implicitDefEqProofs only [hg,Bool.not_true,Bool.not_false]) | ((with_reducible apply And.intro);focus (first | trivial | omega | decide | (simp -implicitDefEqProofs only [maxLen];omega) | (simp [maxLen,af,ak,an,ax,aj,av,au] <;> omega))) | fail)
    have hrow:aN (List.take (hU ys p).length (aL zs))++List.replicate (ys.length - (hU ys p).length) [SV.rv (.int .i64 0)]++List.drop ((hU ys p).length+(List.replicate (ys.length - (hU ys p).length) [SV.rv (.int .i64 0)]).length) (aN (aL zs))=aN (aL (lZ ys p)):=by
     rw [List.drop_of_length_le (by simp [av,aj];omega),List.append_nil,zp,show List.take (hU ys p).length (aL zs)=aL (zs.take (hU ys p).length) by simp [aL,List.map_take],q4,Hu]
     simp [aL,lZ]
    rw [hrow]
    refine (hK _ _ _ _ [] (gL _ _) ?_).2
    simp [gS,bV,newL,gV,gM,bg,aX,lk,bp,fV,gi,fX,iz,iy,aB,gT,bq,aK,gq,gU,iG,aM,iF,aI,gx,ga,hij,Ne.symm hij]
end
section
variable (l:List Nd) (n:Int)
theorem HF (hb:l.length≤8589934592) (m:Nat):aG Go.Proofs.Tryz.prog 76 [.rv (fD l),.rv (.int .i64 n)] [] [(m,.row 1 1 (aN (aL (lZ (bk (iE l n)) fun m=>!iI l m))))] (.row m 1 (bK l n).length):=by
 refine mJ PI [] [] [] [.rv (fD l),.rv (.int .i64 n)] [.rv (fD l),.rv (.int .i64 n)] _ _ (by simp) (by simp [aO,aQ]) rfl (by simp [bV]) (by simp [gZ]) (fun K hK=>?_)
 have gF:=FR l n
 have hkn:=Gs (iE l n)
 have hd:=Th 102 1 0 1 (fD l) (fun m=>!iI l m) (by decide) (fun m j=>Tj l m j) (bk (iE l n)) (by rw [hkn];omega)
 rw [hkn] at hd
 have hfl:(hU (bk (iE l n)) fun m=>!iI l m).length=(bK l n).length:=by
  unfold hU bK bk
  rw [List.filter_map,List.length_map]
  simp [Function.comp_def]
 rw [hfl] at hd
 conv in fc _ _ _ _=>reduce
 simp -implicitDefEqProofs only [go_sem,Int.reduceNegSucc]
 refine bR (To l n 1 hb) (by simp [aU,aB]) (by simp [bh,aR]) ?_
 have cu:=hd;repeat' (first | (simp -implicitDefEqProofs only [go_sem,Int.reduceNegSucc]) | (with_reducible refine aA ?_) | (refine bR cu ?_ ?_ ?_;(focus (simp [aU,aB] <;> fail));(focus (simp [bh,aR] <;> fail))) | (refine cg cu ?_ ?_ ?_;(focus (simp [aU,aB] <;> fail));(focus (simp [bh,aR] <;> fail))) | ((first | refine ai (fun hg=>?_) (fun hg=>?_) | refine ay (fun hg=>?_) (fun hg=>?_) | refine az (fun hg=>?_) (fun hg=>?_)) <;> try simp -implicitDefEqProofs only [hg,Bool.not_true,Bool.not_false]) | ((with_reducible apply And.intro);focus (first | trivial | omega | decide | (simp -implicitDefEqProofs only [maxLen];omega) | (simp [maxLen,af,ak,an,ax,aj,av,au] <;> omega))) | fail)
 refine (hK _ _ _ _ [none,some m] (gL _ _) ?_).2
 simp [gS,bV,newL,gV,gM,bg,aX,lk,bp,fV,gi,fX,iz,iy,aB,gT,bq,aK,gq,gU,iG,aM,iF,aI,gx,ga]
theorem HG (hb:l.length≤8589934592):aG Go.Proofs.Tryz.prog 76 [.rv (fD l),.rv (.int .i64 n)] [] [] (.rv (.sl 1 (aL (bk (bK l n))))):=by
 refine Kl (rs:=[fD l,.int .i64 n]) (HF l n hb 0) ?_ ⟨_,.inl rfl⟩
 have hfl:(hU (bk (iE l n)) fun m=>!iI l m)=bk (bK l n):=by
  unfold hU bK bk
  rw [List.filter_map]
  simp [Function.comp_def]
 have pq:(bK l n).length=(bk (bK l n)).length:=by simp [bk]
 refine .fz _ _ ?_
 have h1:=nX (τ:=fun _=>none) (h:=bM (fun _=>none) [(0,HB.row 1 1 (aN (aL (lZ (bk (iE l n)) fun m=>!iI l m))))]) (j:=0) (e:=1) (aq:=1) (len:=(bK l n).length) (xs:=aL (lZ (bk (iE l n)) fun m=>!iI l m)) (by simp [bM,up]) rfl (by rw [aj,lZ,List.length_append,hfl,← pq];omega) (kF _)
 rw [show (aL (lZ (bk (iE l n)) fun m=>!iI l m)).take (bK l n).length=aL (bk (bK l n)) by
  rw [pq]
  simp -implicitDefEqProofs only [aL,← List.map_take,lZ,hfl]
  rw [List.take_left]] at h1
 exact h1
end
end Go.aJ

namespace Go.aJ
open Go
theorem OY:aT Go.Proofs.Tryz.prog 31 27 (fc Go.Proofs.Tryz.prog 31 27 [(.t 4)]) [(.t 4)]:=bn (by kernel_rfl)
theorem OZ:aT Go.Proofs.Tryz.prog 17 21 (fc Go.Proofs.Tryz.prog 17 21 [(.t 4)]) [(.t 4)]:=bn (by kernel_rfl)
theorem OX:aT Go.Proofs.Tryz.prog 69 40 (fc Go.Proofs.Tryz.prog 69 40 [(.t 4)]) [(.t 4)]:=bn (by kernel_rfl)
theorem CD {l:List Nd} (ht:fU l=true):iA l:=wE.1 (by unfold fU at ht;simp -implicitDefEqProofs only [Bool.and_eq_true] at ht;exact ht.1)
theorem UT {l:List Nd} (ht:fU l=true) {k:Nat} (hk:k<l.length):jh (l[k]'hk).s=true:=by
 unfold fU at ht
 simp -implicitDefEqProofs only [Bool.and_eq_true,List.all_eq_true] at ht
 exact ht.2 _ (List.getElem_mem hk)
theorem UQ {s:aC} (h:jh s=true):0≤s.position∧s.position≤3:=by
 unfold jh sS at h
 simp -implicitDefEqProofs only [Bool.and_eq_true,decide_eq_true_eq] at h
 exact ⟨h.2.1.1.1.1,h.2.1.1.1.2⟩
theorem Dx {l:List Nd} (h:kL l=0):fU l=true:=by
 unfold kL at h
 cases ht:fU l with
 | true=>rfl
 | false=>rw [ht] at h;simp at h
theorem NC (l:List Nd) (n:Int):(n<0∧gP l n=false)∨((l.length:Int)≤n∧0≤n∧gP l n=false)∨∃ k:Nat,n=k∧k<l.length∧gP l n=true:=by
 by_cases h0:n<0
 ·exact .inl ⟨h0,by simp [gP];omega⟩
 ·by_cases h1:n<l.length
  ·exact .inr (.inr ⟨n.toNat,by omega,by omega,by simp [gP];omega⟩)
  ·exact .inr (.inl ⟨by omega,by omega,by simp [gP];omega⟩)
theorem wH (l:List Nd) (ht:fU l=true) (n:Int):aG Go.Proofs.Tryz.prog 31 [.rv (.sl 49 (bu l)),.rv (.int .i64 n)] [] [] (.rv (.bool (gW l n))):=by
 refine bt OY [.rv (.sl 49 (bu l)),.rv (.int .i64 n)] _ (by simp) (by simp [aO,aW,bl,aQ,aY,aC.sv,Ln.sv,Nd.sv]) (fun K hK=>?_)
 have hlen:=an l
 have hs:=CD ht
 conv in fc _ _ _ _=>reduce
 simp -implicitDefEqProofs only [go_sem,Int.reduceNegSucc]
 rcases NC l n with ⟨h1,hi⟩ | ⟨h1,h0,hi⟩ | ⟨k,rfl,hk,hi⟩
 ·have e1:decide (n<0)=true:=decide_eq_true h1
  repeat' (first | (simp -implicitDefEqProofs only [go_sem,Int.reduceNegSucc,e1,hlen]) | (with_reducible refine aA ?_) | ((first | refine ai (fun hg=>?_) (fun hg=>?_) | refine ay (fun hg=>?_) (fun hg=>?_) | refine az (fun hg=>?_) (fun hg=>?_)) <;> try simp -implicitDefEqProofs only [hg,Bool.not_true,Bool.not_false]) | ((with_reducible apply And.intro);focus (first | trivial | omega | decide | (simp -implicitDefEqProofs only [maxLen];omega) | (simp [maxLen,af,ak,an,ax,aj,av,au] <;> omega))) | fail)
  exact (hK _ _ (bO (by simp [gW,hi,lk]))).2
 ·have e1:decide (n<0)=false:=decide_eq_false (by omega)
  have e2:decide (n≥(l.length:Int))=true:=decide_eq_true h1
  repeat' (first | (simp -implicitDefEqProofs only [go_sem,Int.reduceNegSucc,e1,e2,hlen]) | (with_reducible refine aA ?_) | ((first | refine ai (fun hg=>?_) (fun hg=>?_) | refine ay (fun hg=>?_) (fun hg=>?_) | refine az (fun hg=>?_) (fun hg=>?_)) <;> try simp -implicitDefEqProofs only [hg,Bool.not_true,Bool.not_false]) | ((with_reducible apply And.intro);focus (first | trivial | omega | decide | (simp -implicitDefEqProofs only [maxLen];omega) | (simp [maxLen,af,ak,an,ax,aj,av,au] <;> omega))) | fail)
  exact (hK _ _ (bO (by simp [gW,hi,lk]))).2
 ·have e1:decide ((k:Int)<0)=false:=decide_eq_false (by omega)
  have e2:decide ((k:Int)≥(l.length:Int))=false:=decide_eq_false (by omega)
  repeat' (first | (simp -implicitDefEqProofs only [go_sem,Int.reduceNegSucc,e1,e2,hlen]) | (with_reducible refine aA ?_) | ((first | refine ai (fun hg=>?_) (fun hg=>?_) | refine ay (fun hg=>?_) (fun hg=>?_) | refine az (fun hg=>?_) (fun hg=>?_)) <;> try simp -implicitDefEqProofs only [hg,Bool.not_true,Bool.not_false]) | ((with_reducible apply And.intro);focus (first | trivial | omega | decide | (simp -implicitDefEqProofs only [maxLen];omega) | (simp [maxLen,af,ak,an,ax,aj,av,au] <;> omega))) | fail)
  refine fG (ι:=Nat) (fun i=>[(1,.rv (.int .i64 (kz (br l k) i))),(0,.rv (.sl 49 (bu l)))]) (fun _=>[]) (fun i=>i≤(br l k).length∧((br l k).drop i).all (pL l)=(br l k).all (pL l)) (fun i=>(br l k).length - i) 0 (by simp) (by rw [uL];exact aZ (by simp [lk])) (fun i hi' K' hN hX hR=>?_)
  obtain ⟨hi1,hi2⟩:=hi'
  simp -implicitDefEqProofs only [go_sem,Int.reduceNegSucc]
  refine ai (fun hg=>?_) (fun hg=>?_)
  ·have fF:i<(br l k).length:=qA.1 (by simpa using hg)
   have iR:=uK fF
   have hlt:(br l k)[i]<l.length:=zi hk fF
   have hx:=jf hlt
   have hpar:=mR hlt
   have om:=zd hs.wf k hk i fF
   have hsh:=Cp hlt
   have hs0:((l[(br l k)[i]]'hlt).cells)[0]?=some (.bool (l[(br l k)[i]]'hlt).s.shown):=rfl
   repeat' (first | (simp -implicitDefEqProofs only [go_sem,Int.reduceNegSucc,hlen,ak,lA,iR,hx,hpar,om,hs0,hsh]) | (with_reducible refine aA ?_) | ((first | refine ai (fun hg=>?_) (fun hg=>?_) | refine ay (fun hg=>?_) (fun hg=>?_) | refine az (fun hg=>?_) (fun hg=>?_)) <;> try simp -implicitDefEqProofs only [hg,Bool.not_true,Bool.not_false]) | ((with_reducible apply And.intro);focus (first | trivial | omega | decide | (simp -implicitDefEqProofs only [maxLen];omega) | (simp [maxLen,af,ak,an,ax,aj,av,au] <;> omega))) | fail)
   ·refine hR _ _ (hK _ _ (bO ?_)).2
    have:(br l k).all (pL l)=false:=oR fF hi2 (by simpa using hg)
    simp [gW,hi,mq,this,lk]
   ·exact hN (i+1) _ _ ⟨by omega,oS fF hi2 (by simpa using hg)⟩ (by omega) (aZ (by simp [lk]))
  ·have fF:¬ i<(br l k).length:=fun h=>by have:=qA.2 h;simp at hg;omega
   simp -implicitDefEqProofs only [go_sem,Int.reduceNegSucc]
   refine hX _ _ _ ?_
   repeat' (first | (simp -implicitDefEqProofs only [go_sem,Int.reduceNegSucc]) | (with_reducible refine aA ?_) | ((first | refine ai (fun hg=>?_) (fun hg=>?_) | refine ay (fun hg=>?_) (fun hg=>?_) | refine az (fun hg=>?_) (fun hg=>?_)) <;> try simp -implicitDefEqProofs only [hg,Bool.not_true,Bool.not_false]) | ((with_reducible apply And.intro);focus (first | trivial | omega | decide | (simp -implicitDefEqProofs only [maxLen];omega) | (simp [maxLen,af,ak,an,ax,aj,av,au] <;> omega))) | fail)
   refine (hK _ _ (bO ?_)).2
   have:=oQ (by omega) hi2
   simp [gW,hi,mq,this,lk]
theorem HP (l:List Nd) (ht:fU l=true) (n:Int):aG Go.Proofs.Tryz.prog 17 [.rv (.sl 49 (bu l)),.rv (.int .i64 n)] [] [] (.rv (.bool (oE l n))):=by
 refine bt OZ [.rv (.sl 49 (bu l)),.rv (.int .i64 n)] _ (by simp) (by simp [aO,aW,bl,aQ,aY,aC.sv,Ln.sv,Nd.sv]) (fun K hK=>?_)
 have hlen:=an l
 have hm:=wH l ht n
 conv in fc _ _ _ _=>reduce
 simp -implicitDefEqProofs only [go_sem,Int.reduceNegSucc]
 cases hi:gW l n with
 | false=>
   rw [hi] at hm
   have aS:=hm;repeat' (first | (simp -implicitDefEqProofs only [go_sem,Int.reduceNegSucc]) | (with_reducible refine aA ?_) | (with_reducible first | refine ag aS ?_ | refine ah aS ?_) | ((first | refine ai (fun hg=>?_) (fun hg=>?_) | refine ay (fun hg=>?_) (fun hg=>?_) | refine az (fun hg=>?_) (fun hg=>?_)) <;> try simp -implicitDefEqProofs only [hg,Bool.not_true,Bool.not_false]) | ((with_reducible apply And.intro);focus (first | trivial | omega | decide | (simp -implicitDefEqProofs only [maxLen];omega) | (simp [maxLen,af,ak,an,ax,aj,av,au] <;> omega))) | fail)
   all_goals exact (hK _ _ (bO (by simp [oE,hi,lk]))).2
 | true=>
   rw [hi] at hm
   have hin:gP l n=true:=by simp [gW] at hi;exact hi.1
   obtain ⟨k,rfl,hk⟩:=qi hin
   have hx:=jf hk
   have hs:bS l k=(l[k]'hk).s:=by simp [bS,hin,hk]
   obtain ⟨q1,q2⟩:=UQ (UT ht hk)
   have hp:((l[k]'hk).cells.drop 1)[0]?=some (.int .i64 (l[k]'hk).s.position):=rfl
   have y_2:=hm;repeat' (first | (simp -implicitDefEqProofs only [go_sem,Int.reduceNegSucc,hx,hlen,ak,hp]) | (with_reducible refine aA ?_) | (with_reducible first | refine ag y_2 ?_ | refine ah y_2 ?_) | ((first | refine ai (fun hg=>?_) (fun hg=>?_) | refine ay (fun hg=>?_) (fun hg=>?_) | refine az (fun hg=>?_) (fun hg=>?_)) <;> try simp -implicitDefEqProofs only [hg,Bool.not_true,Bool.not_false]) | ((with_reducible apply And.intro);focus (first | trivial | omega | decide | (simp -implicitDefEqProofs only [maxLen];omega) | (simp [maxLen,af,ak,an,ax,aj,av,au] <;> omega))) | fail)
   ·refine (hK _ _ (bO ?_)).2
    simp -implicitDefEqProofs only [lk,if_true,oE,hi,hs]
    clear hK hs hp
    simp at hg
    congr 2
    rw [Bool.eq_iff_iff];simp;omega
   ·refine (hK _ _ (bO ?_)).2
    simp -implicitDefEqProofs only [lk,if_true,oE,hi,hs]
    clear hK hs hp
    simp at hg
    simp [hg]
def gu (l:List Nd) (k p:Nat):List Nat:=(bC l k p).filter fun (m:Nat)=>iI l m
theorem Lo {l:List Nd} {k p:Nat}:(gu l k p).length≤k:=by
 have:=List.length_filter_le (fun (m:Nat)=>iI l m) (bC l k p)
 have:=sG (l:=l) (k:=k) (p:=p)
 unfold gu;omega
theorem Uq (l:List Nd) (ht:fU l=true) (hb:l.length≤8589934592) (n:Nat) (hn:n<l.length):aG Go.Proofs.Tryz.prog 69 [.rv (.sl 49 (bu l)),.rv (.int .i64 n)] [] [] (.rv (.sl 1 (aL (bk (bK l n))))):=by
 refine bt OX [.rv (.sl 49 (bu l)),.rv (.int .i64 n)] _ (by simp) (by simp [aO,aW,bl,aQ,aY,aC.sv,Ln.sv,Nd.sv]) (fun K hK=>?_)
 have hlen:=an l
 conv in fc _ _ _ _=>reduce
 simp -implicitDefEqProofs only [hlen,go_sem,Int.reduceNegSucc]
 refine fG (ι:=Nat) (fun k=>[(9,.rv (.int .i64 k)),(8,.rv (.int .i64 l.length)),(5,.row 0 (gu l k n).length (gu l k n).length),(0,.rv (.sl 49 (bu l))),(1,.rv (.int .i64 n))]) (fun k=>[some (.row 1 (gu l k n).length (aN (aL (bk (gu l k n)))))]) (fun k=>k≤l.length) (fun k=>l.length - k) 0 (by simp) ((qJ 5 1 0 rfl).trans (aZ (by simp [lk,gu,tV]))) (fun k hk K' hN hX hR=>?_)
 simp -implicitDefEqProofs only [go_sem,Int.reduceNegSucc]
 refine ai (fun hg=>?_) (fun hg=>?_)
 ·have aE:k<l.length:=by simp at hg;omega
  have hx:=jf aE
  have hpk:=mR aE
  have wu:=fy (k:=k) (by omega)
  have gF:=Lo (l:=l) (k:=k) (p:=n)
  have hs:=tU (l:=l) (k:=k) (p:=n)
  have hm:=wH l ht k
  have ho:=HP l ht k
  have stay:gu l (k+1) n=gu l k n→∀ e,iw 1 e [(9,.rv (.int .i64 (k+1:Nat))),(8,.rv (.int .i64 l.length)),(5,.row 0 (gu l k n).length (gu l k n).length),(0,.rv (.sl 49 (bu l))),(1,.rv (.int .i64 n))]→K' .normal ⟨e,[some (.row 1 (gu l k n).length (aN (aL (bk (gu l k n)))))]⟩:=fun hs e he=>by
   refine hN (k+1) _ _ (by omega) (by omega) ?_
   rw [hs]
   have:=nU (n0:=0) (env:=e) (h':=[some (.row 1 (gu l k n).length (aN (aL (bk (gu l k n)))))]) (C:=[]) (by simp) ⟨iP,trivial⟩ he
   simpa using this
  by_cases hc:0<k∧bD l k=n
  ·rw [if_pos hc] at hs
   have e1:decide ((k:Int)>0)=true:=decide_eq_true (by omega)
   have e2:(bD l k ==(n:Int))=true:=by simp [hc.2]
   have fs:gu l (k+1) n=gu l k n++if iI l k=true then [k] else []:=by
    unfold gu
    rw [hs,List.filter_append]
    cases hst:iI l k <;> simp [hst]
   cases hmk:gW l k with
   | false=>
     rw [hmk] at hm
     have bA:=hm;repeat' (first | (simp -implicitDefEqProofs only [go_sem,Int.reduceNegSucc,e1,e2,hlen,hx,ak,lA,hpk,wu]) | (with_reducible refine aA ?_) | (with_reducible first | refine ag bA ?_ | refine ah bA ?_) | ((first | refine ai (fun hg=>?_) (fun hg=>?_) | refine ay (fun hg=>?_) (fun hg=>?_) | refine az (fun hg=>?_) (fun hg=>?_)) <;> try simp -implicitDefEqProofs only [hg,Bool.not_true,Bool.not_false]) | ((with_reducible apply And.intro);focus (first | trivial | omega | decide | (simp -implicitDefEqProofs only [maxLen];omega) | (simp [maxLen,af,ak,an,ax,aj,av,au] <;> omega))) | fail)
     refine stay ?_ _ (by simp [iw,lk,jT,jx])
     rw [fs];simp [iI,hmk]
   | true=>
     rw [hmk] at hm
     cases hok:oE l k with
     | true=>
       rw [hok] at ho
       have bF:=hm;have bJ:=ho;repeat' (first | (simp -implicitDefEqProofs only [go_sem,Int.reduceNegSucc,e1,e2,hlen,hx,ak,lA,hpk,wu]) | (with_reducible refine aA ?_) | (with_reducible first | refine ag bF ?_ | refine ah bF ?_) | (with_reducible first | refine ag bJ ?_ | refine ah bJ ?_) | ((first | refine ai (fun hg=>?_) (fun hg=>?_) | refine ay (fun hg=>?_) (fun hg=>?_) | refine az (fun hg=>?_) (fun hg=>?_)) <;> try simp -implicitDefEqProofs only [hg,Bool.not_true,Bool.not_false]) | ((with_reducible apply And.intro);focus (first | trivial | omega | decide | (simp -implicitDefEqProofs only [maxLen];omega) | (simp [maxLen,af,ak,an,ax,aj,av,au] <;> omega))) | fail)
       refine stay ?_ _ (by simp [iw,lk,jT,jx])
       rw [fs];simp [iI,hok]
     | false=>
       rw [hok] at ho
       have hst:iI l k=true:=by simp [iI,hmk,hok]
       rw [hst] at fs
       simp -implicitDefEqProofs only [if_true] at fs
       have htl:(aL (bk (gu l k n))).length=(gu l k n).length:=by simp [aL,bk]
       have jd:(aL (bk (gu l k n))).take (gu l k n).length=aL (bk (gu l k n)):=List.take_of_length_le (by omega)
       have hap:bk (gu l k n)++[(k:Int)]=bk (gu l (k+1) n):=by rw [fs];simp [bk]
       have pq:(gu l (k+1) n).length=(gu l k n).length+1:=by rw [fs];simp
       have bL:=hm;have bP:=ho;repeat' (first | (simp -implicitDefEqProofs only [go_sem,Int.reduceNegSucc,e1,e2,hlen,hx,ak,lA,hpk,wu,htl,jd,mw,hap]) | (with_reducible refine aA ?_) | (with_reducible first | refine ag bL ?_ | refine ah bL ?_) | (with_reducible first | refine ag bP ?_ | refine ah bP ?_) | ((first | refine ai (fun hg=>?_) (fun hg=>?_) | refine ay (fun hg=>?_) (fun hg=>?_) | refine az (fun hg=>?_) (fun hg=>?_)) <;> try simp -implicitDefEqProofs only [hg,Bool.not_true,Bool.not_false]) | ((with_reducible apply And.intro);focus (first | trivial | omega | decide | (simp -implicitDefEqProofs only [maxLen];omega) | (simp [maxLen,af,ak,an,ax,aj,av,au] <;> omega))) | fail)
       refine hN (k+1) _ _ (by omega) (by omega) ?_
       rw [pq]
       exact nU (h':=[some (.row 1 ((gu l k n).length+1) (aN (aL (bk (gu l (k+1) n)))))]) (C:=[some (.row 1 0 [[.rv (.int .i64 k)]])]) (by simp) ⟨iP,trivial⟩ (by simp [iw,lk,jT,jx])
  ·rw [if_neg hc,List.append_nil] at hs
   have hs':gu l (k+1) n=gu l k n:=by unfold gu;rw [hs]
   by_cases h0:0<k
   ·have e1:decide ((k:Int)>0)=true:=decide_eq_true (by omega)
    have e2:(bD l k ==(n:Int))=false:=by
     rw [Bool.eq_false_iff];intro h;exact hc ⟨h0,by simpa using h⟩
    repeat' (first | (simp -implicitDefEqProofs only [go_sem,Int.reduceNegSucc,e1,e2,hlen,hx,ak,lA,hpk,wu]) | (with_reducible refine aA ?_) | ((first | refine ai (fun hg=>?_) (fun hg=>?_) | refine ay (fun hg=>?_) (fun hg=>?_) | refine az (fun hg=>?_) (fun hg=>?_)) <;> try simp -implicitDefEqProofs only [hg,Bool.not_true,Bool.not_false]) | ((with_reducible apply And.intro);focus (first | trivial | omega | decide | (simp -implicitDefEqProofs only [maxLen];omega) | (simp [maxLen,af,ak,an,ax,aj,av,au] <;> omega))) | fail)
    exact stay hs' _ (by simp [iw,lk,jT,jx])
   ·have e1:decide ((k:Int)>0)=false:=decide_eq_false (by omega)
    repeat' (first | (simp -implicitDefEqProofs only [go_sem,Int.reduceNegSucc,e1,wu]) | (with_reducible refine aA ?_) | ((first | refine ai (fun hg=>?_) (fun hg=>?_) | refine ay (fun hg=>?_) (fun hg=>?_) | refine az (fun hg=>?_) (fun hg=>?_)) <;> try simp -implicitDefEqProofs only [hg,Bool.not_true,Bool.not_false]) | ((with_reducible apply And.intro);focus (first | trivial | omega | decide | (simp -implicitDefEqProofs only [maxLen];omega) | (simp [maxLen,af,ak,an,ax,aj,av,au] <;> omega))) | fail)
    exact stay hs' _ (by simp [iw,lk,jT,jx])
 ·have aE:k=l.length:=by simp at hg;omega
  subst aE
  have hfa:gu l l.length n=bK l n:=by
   unfold gu bK iE
   rw [if_pos (vM hn)];rfl
  simp -implicitDefEqProofs only [go_sem,Int.reduceNegSucc]
  refine hX _ _ _ ?_
  repeat' (first | (simp -implicitDefEqProofs only [go_sem,Int.reduceNegSucc]) | (with_reducible refine aA ?_) | ((first | refine ai (fun hg=>?_) (fun hg=>?_) | refine ay (fun hg=>?_) (fun hg=>?_) | refine az (fun hg=>?_) (fun hg=>?_)) <;> try simp -implicitDefEqProofs only [hg,Bool.not_true,Bool.not_false]) | ((with_reducible apply And.intro);focus (first | trivial | omega | decide | (simp -implicitDefEqProofs only [maxLen];omega) | (simp [maxLen,af,ak,an,ax,aj,av,au] <;> omega))) | fail)
  rw [hfa]
  exact (hK _ _ ⟨trivial,pK (xs:=aL (bk (bK l n))) rfl rfl (by simp [aL,bk]) (kF _)⟩).2
def VS (l:List Nd) (n:Int) (i:Nat):Int:=if gP l n=true∧n<i then (if (i:Int)<An l n then (i:Int) else An l n) else 0
end Go.aJ

namespace Go.aJ
open Go
theorem yV (xs:List Nat):(aL (bk xs)).length=xs.length:=by simp [aL,bk]
def Vz (p:Int→Bool) (xs:List Nat):Int:=match xs.find? (fun (m:Nat)=>p m) with
 | some k=>k
 | none=>-1
end Go.aJ

namespace Go.aJ
open Go
theorem Pu:aT Go.Proofs.Tryz.prog 74 9 (fc Go.Proofs.Tryz.prog 74 9 [(.t 2)]) [(.t 2)]:=bn (by kernel_rfl)
theorem Px:aT Go.Proofs.Tryz.prog 44 47 (fc Go.Proofs.Tryz.prog 44 47 [(.t 2),(.t 3)]) [(.t 2),(.t 3)]:=bn (by kernel_rfl)
theorem Pt:aT Go.Proofs.Tryz.prog 95 12 (fc Go.Proofs.Tryz.prog 95 12 [(.t 6)]) [(.t 6)]:=bn (by kernel_rfl)
theorem OL:aT Go.Proofs.Tryz.prog 47 9 (fc Go.Proofs.Tryz.prog 47 9 [(.t 2)]) [(.t 2)]:=bn (by kernel_rfl)
theorem ON:aT Go.Proofs.Tryz.prog 34 30 (fc Go.Proofs.Tryz.prog 34 30 [(.t 2),(.t 3)]) [(.t 2),(.t 3)]:=bn (by kernel_rfl)
theorem OK:aT Go.Proofs.Tryz.prog 38 16 (fc Go.Proofs.Tryz.prog 38 16 [(.t 6)]) [(.t 6)]:=bn (by kernel_rfl)
def bN (x:Int):Bool:=decide (x≥-1125899906842624) && decide (x≤1125899906842624)
theorem iZ {x:Int}:bN x=true↔-1125899906842624≤x∧x≤1125899906842624:=by simp [bN]
def fT (xs:List Int):Bool:=xs.all bN && bN xs.sum
def ct (xs:List Int):Int:=if fT xs=true then xs.sum else 0
theorem wF (a:Int):a.fdiv (2 ^ min 25 64)=a / 33554432:=by
 rw [Int.fdiv_eq_ediv_of_nonneg _ (by decide)];rfl
theorem JM (a:Int):IntKind.i64.wrap ((BitVec.ofInt 64 a &&& BitVec.ofInt 64 33554431).toNat:Int)=a % 33554432:=by
 have h1:(BitVec.ofInt 64 a &&& BitVec.ofInt 64 33554431).toNat=(BitVec.ofInt 64 a).toNat % 33554432:=by
  show (BitVec.ofInt 64 a &&& BitVec.ofInt 64 33554431).toNat=_
  rw [BitVec.toNat_and]
  exact Nat.and_two_pow_sub_one_eq_mod _ 25
 have h2:(((BitVec.ofInt 64 a).toNat % 33554432:Nat):Int)=a % 33554432:=by
  rw [BitVec.toNat_ofInt]
  omega
 rw [h1,h2,wrap_i64 (by omega) (by omega)]
theorem uJ (a:Int):IntKind.i64.wrap ((@BitVec.toNat 64 (@HAnd.hAnd (BitVec 64) (BitVec 64) (BitVec 64) (@instHAndOfAndOp (BitVec IntKind.i64.bits) (@BitVec.instAndOp IntKind.i64.bits)) (BitVec.ofInt 64 a) (BitVec.ofInt 64 33554431)):Nat):Int)=a % 33554432:=JM a
theorem lR (x:Int):aG Go.Proofs.Tryz.prog 74 [.rv (.int .i64 x)] [] [] (.rv (.bool (bN x))):=by
 refine bt Pu [.rv (.int .i64 x)] _ (by simp) (by simp [aO,aW,bl,aQ,aY,aC.sv,Ln.sv,Nd.sv]) (fun K hK=>?_)
 conv in fc _ _ _ _=>reduce
 simp -implicitDefEqProofs only [go_sem,Int.reduceNegSucc]
 repeat' (first | (simp -implicitDefEqProofs only [go_sem,Int.reduceNegSucc]) | (with_reducible refine aA ?_) | ((first | refine ai (fun hg=>?_) (fun hg=>?_) | refine ay (fun hg=>?_) (fun hg=>?_) | refine az (fun hg=>?_) (fun hg=>?_)) <;> try simp -implicitDefEqProofs only [hg,Bool.not_true,Bool.not_false]) | ((with_reducible apply And.intro);focus (first | trivial | omega | decide | (simp -implicitDefEqProofs only [maxLen];omega) | (simp [maxLen,af,ak,an,ax,aj,av,au] <;> omega))) | fail)
 all_goals (refine (hK _ _ (bO ?_)).2;clear hK;simp_all [lk,bN];try (intro _;omega))
theorem jM (x:Int):aG Go.Proofs.Tryz.prog 47 [.rv (.int .i64 x)] [] [] (.rv (.bool (bN x))):=by
 refine bt OL [.rv (.int .i64 x)] _ (by simp) (by simp [aO,aW,bl,aQ,aY,aC.sv,Ln.sv,Nd.sv]) (fun K hK=>?_)
 conv in fc _ _ _ _=>reduce
 simp -implicitDefEqProofs only [go_sem,Int.reduceNegSucc]
 repeat' (first | (simp -implicitDefEqProofs only [go_sem,Int.reduceNegSucc]) | (with_reducible refine aA ?_) | ((first | refine ai (fun hg=>?_) (fun hg=>?_) | refine ay (fun hg=>?_) (fun hg=>?_) | refine az (fun hg=>?_) (fun hg=>?_)) <;> try simp -implicitDefEqProofs only [hg,Bool.not_true,Bool.not_false]) | ((with_reducible apply And.intro);focus (first | trivial | omega | decide | (simp -implicitDefEqProofs only [maxLen];omega) | (simp [maxLen,af,ak,an,ax,aj,av,au] <;> omega))) | fail)
 all_goals (refine (hK _ _ (bO ?_)).2;clear hK;simp_all [lk,bN];try (intro _;omega))
def VV (x:Ln) (d:Int):Int:=if x.kind=1 then x.n else d
def jE (v lo hi:Int):Int:=if (if v>hi then hi else v)<lo then lo else (if v>hi then hi else v)
theorem Ud (v lo hi:Int):aG Go.Proofs.Tryz.prog 38 [.rv (.int .i64 v),.rv (.int .i64 lo),.rv (.int .i64 hi)] [] [] (.rv (.int .i64 (jE v lo hi))):=by
 refine bt OK [.rv (.int .i64 v),.rv (.int .i64 lo),.rv (.int .i64 hi)] _ (by simp) (by simp [aO,aW,bl,aQ,aY,aC.sv,Ln.sv,Nd.sv]) (fun K hK=>?_)
 conv in fc _ _ _ _=>reduce
 simp -implicitDefEqProofs only [go_sem,Int.reduceNegSucc]
 repeat' (first | (simp -implicitDefEqProofs only [go_sem,Int.reduceNegSucc]) | (with_reducible refine aA ?_) | ((first | refine ai (fun hg=>?_) (fun hg=>?_) | refine ay (fun hg=>?_) (fun hg=>?_) | refine az (fun hg=>?_) (fun hg=>?_)) <;> try simp -implicitDefEqProofs only [hg,Bool.not_true,Bool.not_false]) | ((with_reducible apply And.intro);focus (first | trivial | omega | decide | (simp -implicitDefEqProofs only [maxLen];omega) | (simp [maxLen,af,ak,an,ax,aj,av,au] <;> omega))) | fail)
 all_goals (refine (hK _ _ (bO ?_)).2;clear hK;simp_all [lk,jE];try omega)
theorem HK (v lo hi:Int):aG Go.Proofs.Tryz.prog 95 [.rv (.int .i64 v),.rv (.int .i64 lo),.rv (.int .i64 hi)] [] [] (.rv (.int .i64 (jE v lo hi))):=by
 refine bt Pt [.rv (.int .i64 v),.rv (.int .i64 lo),.rv (.int .i64 hi)] _ (by simp) (by simp [aO,aW,bl,aQ,aY,aC.sv,Ln.sv,Nd.sv]) (fun K hK=>?_)
 conv in fc _ _ _ _=>reduce
 simp -implicitDefEqProofs only [go_sem,Int.reduceNegSucc]
 repeat' (first | (simp -implicitDefEqProofs only [go_sem,Int.reduceNegSucc]) | (with_reducible refine aA ?_) | ((first | refine ai (fun hg=>?_) (fun hg=>?_) | refine ay (fun hg=>?_) (fun hg=>?_) | refine az (fun hg=>?_) (fun hg=>?_)) <;> try simp -implicitDefEqProofs only [hg,Bool.not_true,Bool.not_false]) | ((with_reducible apply And.intro);focus (first | trivial | omega | decide | (simp -implicitDefEqProofs only [maxLen];omega) | (simp [maxLen,af,ak,an,ax,aj,av,au] <;> omega))) | fail)
 exact (hK _ _ (bO rfl)).2
theorem CR {p:Int→Bool} {xs:List Int} (h:∀ i,(h:i<xs.length)→p xs[i]=true):xs.all p=true:=by
 rw [List.all_eq_true];intro x hx
 obtain ⟨i,hi,rfl⟩:=List.getElem_of_mem hx
 exact h i hi
theorem CB {xs:List Int} {k:Nat} (h:k<xs.length):(xs.take (k+1)).sum=(xs.take k).sum+xs[k]:=by
 rw [List.take_succ_eq_append_getElem h,List.sum_append];simp
theorem Gv {xs:List Int} {i:Nat} (h:i<xs.length) (hf:bN xs[i]=false):fT xs=false:=by
 unfold fT
 rw [show xs.all bN=false from by
  rw [List.all_eq_false];exact ⟨_,List.getElem_mem h,by simp [hf]⟩]
 rfl
theorem Ui (xs:List Int) (hb:xs.length≤1000):aG Go.Proofs.Tryz.prog 34 [.rv (.sl 1 (aL xs))] [] [] (.aP [.rv (.int .i64 (ct xs)),.rv (.bool (fT xs))]):=by
 refine bt ON [.rv (.sl 1 (aL xs))] _ (by simp) (by simp [aO,aW,bl,aQ,aY,aC.sv,Ln.sv,Nd.sv]) (fun K hK=>?_)
 have hl:=aj xs
 conv in fc _ _ _ _=>reduce
 simp -implicitDefEqProofs only [hl,go_sem,Int.reduceNegSucc]
 repeat' (first | (simp -implicitDefEqProofs only [go_sem,Int.reduceNegSucc,hl]) | (with_reducible refine aA ?_) | ((first | refine ai (fun hg=>?_) (fun hg=>?_) | refine ay (fun hg=>?_) (fun hg=>?_) | refine az (fun hg=>?_) (fun hg=>?_)) <;> try simp -implicitDefEqProofs only [hg,Bool.not_true,Bool.not_false]) | ((with_reducible apply And.intro);focus (first | trivial | omega | decide | (simp -implicitDefEqProofs only [maxLen];omega) | (simp [maxLen,af,ak,an,ax,aj,av,au] <;> omega))) | fail)
 refine fG (ι:=Nat) (fun k=>[(9,.rv (.int .i64 k)),(8,.rv (.int .i64 xs.length)),(4,.rv (.int .i64 (xs.take k).sum)),(5,.rv (.bool true)),(0,.rv (.sl 1 (aL xs)))]) (fun _=>[]) (fun k=>k≤xs.length∧(∀ i,(h:i<xs.length)→i<k→bN xs[i]=true)∧-(1125899906842624*k)≤(xs.take k).sum∧(xs.take k).sum≤1125899906842624*k) (fun k=>xs.length - k) 0 ⟨by simp,fun i _ h=>absurd h (by omega),by simp,by simp⟩ (aZ (by simp [lk])) (fun k hk K' hN hX hR=>?_)
 obtain ⟨fI,hk2,fY,EK⟩:=hk
 simp -implicitDefEqProofs only [go_sem,Int.reduceNegSucc]
 refine ai (fun hg=>?_) (fun hg=>?_)
 ·have aE:k<xs.length:=by simp at hg;omega
  have hx:=ow aE
  have wu:=fy (k:=k) (by omega)
  have hf:=jM xs[k]
  cases jy:bN xs[k] with
  | false=>
    rw [jy] at hf
    have aS:=hf;repeat' (first | (simp -implicitDefEqProofs only [go_sem,Int.reduceNegSucc,hx,hl,wu]) | (with_reducible refine aA ?_) | (with_reducible first | refine ag aS ?_ | refine ah aS ?_) | ((first | refine ai (fun hg=>?_) (fun hg=>?_) | refine ay (fun hg=>?_) (fun hg=>?_) | refine az (fun hg=>?_) (fun hg=>?_)) <;> try simp -implicitDefEqProofs only [hg,Bool.not_true,Bool.not_false]) | ((with_reducible apply And.intro);focus (first | trivial | omega | decide | (simp -implicitDefEqProofs only [maxLen];omega) | (simp [maxLen,af,ak,an,ax,aj,av,au] <;> omega))) | fail)
    refine hR _ _ (hK _ _ ?_).2
    have:=Gv aE jy
    exact gI (by simp [lk,ct,this]) (by simp [lk,this])
  | true=>
    rw [jy] at hf
    have oY:=iZ.1 jy
    have hst:=CB aE
    have ws:IntKind.i64.wrap ((xs.take k).sum+xs[k])=(xs.take (k+1)).sum:=by rw [wrap_i64 (by omega) (by omega),hst]
    have y_2:=hf;repeat' (first | (simp -implicitDefEqProofs only [go_sem,Int.reduceNegSucc,hx,hl,wu,ws]) | (with_reducible refine aA ?_) | (with_reducible first | refine ag y_2 ?_ | refine ah y_2 ?_) | ((first | refine ai (fun hg=>?_) (fun hg=>?_) | refine ay (fun hg=>?_) (fun hg=>?_) | refine az (fun hg=>?_) (fun hg=>?_)) <;> try simp -implicitDefEqProofs only [hg,Bool.not_true,Bool.not_false]) | ((with_reducible apply And.intro);focus (first | trivial | omega | decide | (simp -implicitDefEqProofs only [maxLen];omega) | (simp [maxLen,af,ak,an,ax,aj,av,au] <;> omega))) | fail)
    refine hN (k+1) _ _ ⟨by omega,fun i h hi=>?_,by omega,by omega⟩ (by omega) (aZ (by simp [lk]))
    by_cases e:i=k
    ·subst e;exact jy
    ·exact hk2 i h (by omega)
 ·have aE:k=xs.length:=by simp at hg;omega
  subst aE
  simp -implicitDefEqProofs only [go_sem,Int.reduceNegSucc]
  refine hX _ _ _ ?_
  have hall:=CR (fun i h=>hk2 i h h)
  rw [List.take_length] at *
  have hf:=jM xs.sum
  cases jy:bN xs.sum with
  | false=>
    rw [jy] at hf
    have:fT xs=false:=by simp [fT,jy]
    have bA:=hf;repeat' (first | (simp -implicitDefEqProofs only [go_sem,Int.reduceNegSucc]) | (with_reducible refine aA ?_) | (with_reducible first | refine ag bA ?_ | refine ah bA ?_) | ((first | refine ai (fun hg=>?_) (fun hg=>?_) | refine ay (fun hg=>?_) (fun hg=>?_) | refine az (fun hg=>?_) (fun hg=>?_)) <;> try simp -implicitDefEqProofs only [hg,Bool.not_true,Bool.not_false]) | ((with_reducible apply And.intro);focus (first | trivial | omega | decide | (simp -implicitDefEqProofs only [maxLen];omega) | (simp [maxLen,af,ak,an,ax,aj,av,au] <;> omega))) | fail)
    refine (hK _ _ ?_).2
    exact gI (by simp [lk,ct,this]) (by simp [lk,this])
  | true=>
    rw [jy] at hf
    have:fT xs=true:=by simp [fT,jy,hall]
    have bF:=hf;repeat' (first | (simp -implicitDefEqProofs only [go_sem,Int.reduceNegSucc]) | (with_reducible refine aA ?_) | (with_reducible first | refine ag bF ?_ | refine ah bF ?_) | ((first | refine ai (fun hg=>?_) (fun hg=>?_) | refine ay (fun hg=>?_) (fun hg=>?_) | refine az (fun hg=>?_) (fun hg=>?_)) <;> try simp -implicitDefEqProofs only [hg,Bool.not_true,Bool.not_false]) | ((with_reducible apply And.intro);focus (first | trivial | omega | decide | (simp -implicitDefEqProofs only [maxLen];omega) | (simp [maxLen,af,ak,an,ax,aj,av,au] <;> omega))) | fail)
    refine (hK _ _ ?_).2
    exact gI (by simp [lk,ct,this]) (by simp [lk,this])
theorem TK (xs:List Int) (hb:xs.length≤1000):aG Go.Proofs.Tryz.prog 44 [.rv (.sl 1 (aL xs))] [] [] (.aP [.rv (.int .i64 (ct xs)),.rv (.bool (fT xs))]):=by
 refine bt Px [.rv (.sl 1 (aL xs))] _ (by simp) (by simp [aO,aW,bl,aQ,aY,aC.sv,Ln.sv,Nd.sv]) (fun K hK=>?_)
 have hl:=aj xs
 conv in fc _ _ _ _=>reduce
 simp -implicitDefEqProofs only [hl,go_sem,Int.reduceNegSucc]
 repeat' (first | (simp -implicitDefEqProofs only [go_sem,Int.reduceNegSucc,hl]) | (with_reducible refine aA ?_) | ((first | refine ai (fun hg=>?_) (fun hg=>?_) | refine ay (fun hg=>?_) (fun hg=>?_) | refine az (fun hg=>?_) (fun hg=>?_)) <;> try simp -implicitDefEqProofs only [hg,Bool.not_true,Bool.not_false]) | ((with_reducible apply And.intro);focus (first | trivial | omega | decide | (simp -implicitDefEqProofs only [maxLen];omega) | (simp [maxLen,af,ak,an,ax,aj,av,au] <;> omega))) | fail)
 refine fG (ι:=Nat×Int×Int) (fun q=>[(11,.rv (.int .i64 q.1)),(10,.rv (.int .i64 xs.length)),(9,.rv (.sl 1 (aL xs))),(4,.rv (.int .i64 q.2.1)),(5,.rv (.int .i64 q.2.2))]) (fun _=>[]) (fun q=>q.1≤xs.length∧(∀ i,(h:i<xs.length)→i<q.1→bN xs[i]=true)∧q.2.1*33554432+q.2.2=(xs.take q.1).sum∧-(33554432*q.1)≤q.2.1∧q.2.1≤33554432*q.1∧0≤q.2.2∧q.2.2≤33554432*q.1) (fun q=>xs.length - q.1) (0,0,0) ⟨by simp,fun i _ h=>absurd h (by simp),by simp,by simp,by simp,by simp,by simp⟩ (aZ (by simp [lk])) (fun q hk K' hN hX hR=>?_)
 obtain ⟨k,hi,lo⟩:=q
 obtain ⟨fI,hk2,fY,EK,MX,MY,MZ⟩:=hk
 dsimp only at fI hk2 fY EK MX MY MZ ⊢
 simp -implicitDefEqProofs only [go_sem,Int.reduceNegSucc]
 refine ai (fun hg=>?_) (fun hg=>?_)
 ·have aE:k<xs.length:=by simp at hg;omega
  have hx:=ow aE
  have wu:=fy (k:=k) (by omega)
  have hf:=lR xs[k]
  cases jy:bN xs[k] with
  | false=>
    rw [jy] at hf
    have bJ:=hf;repeat' (first | (simp -implicitDefEqProofs only [go_sem,Int.reduceNegSucc,hx,hl,wu]) | (with_reducible refine aA ?_) | (with_reducible first | refine ag bJ ?_ | refine ah bJ ?_) | ((first | refine ai (fun hg=>?_) (fun hg=>?_) | refine ay (fun hg=>?_) (fun hg=>?_) | refine az (fun hg=>?_) (fun hg=>?_)) <;> try simp -implicitDefEqProofs only [hg,Bool.not_true,Bool.not_false]) | ((with_reducible apply And.intro);focus (first | trivial | omega | decide | (simp -implicitDefEqProofs only [maxLen];omega) | (simp [maxLen,af,ak,an,ax,aj,av,au] <;> omega))) | fail)
    refine hR _ _ (hK _ _ ?_).2
    have:=Gv aE jy
    exact gI (by simp [lk,ct,this]) (by simp [lk,this])
  | true=>
    rw [jy] at hf
    have oY:=iZ.1 jy
    have hst:=CB aE
    have w1:IntKind.i64.wrap (hi+xs[k] / 33554432)=hi+xs[k] / 33554432:=by rw [wrap_i64 (by omega) (by omega)]
    have w2:IntKind.i64.wrap (lo+xs[k] % 33554432)=lo+xs[k] % 33554432:=by rw [wrap_i64 (by omega) (by omega)]
    have bL:=hf;repeat' (first | (simp -implicitDefEqProofs only [go_sem,Int.reduceNegSucc,hx,hl,wu,wF,uJ,w1,w2]) | (with_reducible refine aA ?_) | (with_reducible first | refine ag bL ?_ | refine ah bL ?_) | ((first | refine ai (fun hg=>?_) (fun hg=>?_) | refine ay (fun hg=>?_) (fun hg=>?_) | refine az (fun hg=>?_) (fun hg=>?_)) <;> try simp -implicitDefEqProofs only [hg,Bool.not_true,Bool.not_false]) | ((with_reducible apply And.intro);focus (first | trivial | omega | decide | (simp -implicitDefEqProofs only [maxLen];omega) | (simp [maxLen,af,ak,an,ax,aj,av,au] <;> omega))) | fail)
    refine hN (k+1,hi+xs[k] / 33554432,lo+xs[k] % 33554432) _ _ ⟨by dsimp only;omega,fun i h hi=>?_,by dsimp only;omega,by dsimp only;omega,by dsimp only;omega,by dsimp only;omega,by dsimp only;omega⟩ (by dsimp only;omega) (aZ (by simp [lk]))
    dsimp only at hi
    by_cases e:i=k
    ·subst e;exact jy
    ·exact hk2 i h (by omega)
 ·have aE:k=xs.length:=by simp at hg;omega
  subst aE
  simp -implicitDefEqProofs only [go_sem,Int.reduceNegSucc]
  refine hX _ _ _ ?_
  have hall:=CR (fun i h=>hk2 i h h)
  rw [List.take_length] at *
  have w1:IntKind.i64.wrap (hi+lo / 33554432)=hi+lo / 33554432:=by rw [wrap_i64 (by omega) (by omega)]
  by_cases h1:hi+lo / 33554432 < -33554432
  ·have e1:decide (hi+lo / 33554432 < -33554432)=true:=decide_eq_true h1
   have:fT xs=false:=by
    have:bN xs.sum=false:=by rw [Bool.eq_false_iff];intro h;have:=iZ.1 h;omega
    simp [fT,this]
   repeat' (first | (simp -implicitDefEqProofs only [go_sem,Int.reduceNegSucc,wF,uJ,w1,e1]) | (with_reducible refine aA ?_) | ((first | refine ai (fun hg=>?_) (fun hg=>?_) | refine ay (fun hg=>?_) (fun hg=>?_) | refine az (fun hg=>?_) (fun hg=>?_)) <;> try simp -implicitDefEqProofs only [hg,Bool.not_true,Bool.not_false]) | ((with_reducible apply And.intro);focus (first | trivial | omega | decide | (simp -implicitDefEqProofs only [maxLen];omega) | (simp [maxLen,af,ak,an,ax,aj,av,au] <;> omega))) | fail)
   refine (hK _ _ ?_).2
   exact gI (by simp [lk,ct,this]) (by simp [lk,this])
  ·have e1:decide (hi+lo / 33554432 < -33554432)=false:=decide_eq_false h1
   by_cases h2:hi+lo / 33554432>33554432
   ·have e2:decide (hi+lo / 33554432>33554432)=true:=decide_eq_true h2
    have:fT xs=false:=by
     have:bN xs.sum=false:=by rw [Bool.eq_false_iff];intro h;have:=iZ.1 h;omega
     simp [fT,this]
    repeat' (first | (simp -implicitDefEqProofs only [go_sem,Int.reduceNegSucc,wF,uJ,w1,e1,e2]) | (with_reducible refine aA ?_) | ((first | refine ai (fun hg=>?_) (fun hg=>?_) | refine ay (fun hg=>?_) (fun hg=>?_) | refine az (fun hg=>?_) (fun hg=>?_)) <;> try simp -implicitDefEqProofs only [hg,Bool.not_true,Bool.not_false]) | ((with_reducible apply And.intro);focus (first | trivial | omega | decide | (simp -implicitDefEqProofs only [maxLen];omega) | (simp [maxLen,af,ak,an,ax,aj,av,au] <;> omega))) | fail)
    refine (hK _ _ ?_).2
    exact gI (by simp [lk,ct,this]) (by simp [lk,this])
   ·have e2:decide (hi+lo / 33554432>33554432)=false:=decide_eq_false h2
    have hf:=lR xs.sum
    have w2:IntKind.i64.wrap (IntKind.i64.wrap ((hi+lo / 33554432)*2 ^ min 25 64)+lo % 33554432)=xs.sum:=by
     rw [show (2:Int) ^ min 25 64=33554432 from rfl,wrap_i64 (n:=(hi+lo / 33554432)*33554432) (by omega) (by omega),wrap_i64 (by omega) (by omega)]
     omega
    cases jy:bN xs.sum with
    | false=>
      rw [jy] at hf
      have:fT xs=false:=by simp [fT,jy]
      have bP:=hf;repeat' (first | (simp -implicitDefEqProofs only [go_sem,Int.reduceNegSucc,wF,uJ,w1,e1,e2,w2]) | (with_reducible refine aA ?_) | (with_reducible first | refine ag bP ?_ | refine ah bP ?_) | ((first | refine ai (fun hg=>?_) (fun hg=>?_) | refine ay (fun hg=>?_) (fun hg=>?_) | refine az (fun hg=>?_) (fun hg=>?_)) <;> try simp -implicitDefEqProofs only [hg,Bool.not_true,Bool.not_false]) | ((with_reducible apply And.intro);focus (first | trivial | omega | decide | (simp -implicitDefEqProofs only [maxLen];omega) | (simp [maxLen,af,ak,an,ax,aj,av,au] <;> omega))) | fail)
      refine (hK _ _ ?_).2
      exact gI (by simp [lk,ct,this]) (by simp [lk,this])
    | true=>
      rw [jy] at hf
      have:fT xs=true:=by simp [fT,jy,hall]
      have bT:=hf;repeat' (first | (simp -implicitDefEqProofs only [go_sem,Int.reduceNegSucc,wF,uJ,w1,e1,e2,w2]) | (with_reducible refine aA ?_) | (with_reducible first | refine ag bT ?_ | refine ah bT ?_) | ((first | refine ai (fun hg=>?_) (fun hg=>?_) | refine ay (fun hg=>?_) (fun hg=>?_) | refine az (fun hg=>?_) (fun hg=>?_)) <;> try simp -implicitDefEqProofs only [hg,Bool.not_true,Bool.not_false]) | ((with_reducible apply And.intro);focus (first | trivial | omega | decide | (simp -implicitDefEqProofs only [maxLen];omega) | (simp [maxLen,af,ak,an,ax,aj,av,au] <;> omega))) | fail)
      refine (hK _ _ ?_).2
      exact gI (by simp [lk,ct,this]) (by simp [lk,this])
end Go.aJ

namespace Go.aJ
open Go
theorem Qa:aT Go.Proofs.Tryz.prog 63 49 (fc Go.Proofs.Tryz.prog 63 49 [(.c 6 2 true),(.t 7)]) [(.c 6 2 true),(.t 7)]:=bn (by kernel_rfl)
theorem PY:aT Go.Proofs.Tryz.prog 64 20 (fc Go.Proofs.Tryz.prog 64 20 [(.t 6),(.t 7)]) [(.t 6),(.t 7)]:=bn (by kernel_rfl)
theorem PZ:aT Go.Proofs.Tryz.prog 65 20 (fc Go.Proofs.Tryz.prog 65 20 [(.t 6),(.t 7)]) [(.t 6),(.t 7)]:=bn (by kernel_rfl)
theorem Qb:aT Go.Proofs.Tryz.prog 92 10 (fc Go.Proofs.Tryz.prog 92 10 [(.t 4)]) [(.t 4)]:=bn (by kernel_rfl)
theorem Pw:aT Go.Proofs.Tryz.prog 91 35 (fc Go.Proofs.Tryz.prog 91 35 [(.t 4),(.t 5)]) [(.t 4),(.t 5)]:=bn (by kernel_rfl)
theorem Py:aT Go.Proofs.Tryz.prog 111 16 (fc Go.Proofs.Tryz.prog 111 16 [(.t 4)]) [(.t 4)]:=bn (by kernel_rfl)
theorem Qn:aT Go.Proofs.Tryz.prog 115 8 (fc Go.Proofs.Tryz.prog 115 8 [(.c 2 2 true)]) [(.c 2 2 true)]:=bn (by kernel_rfl)
theorem Qm:aT Go.Proofs.Tryz.prog 116 16 (fc Go.Proofs.Tryz.prog 116 16 [(.c 4 2 true)]) [(.c 4 2 true)]:=bn (by kernel_rfl)
theorem Qo:aT Go.Proofs.Tryz.prog 80 12 (fc Go.Proofs.Tryz.prog 80 12 [(.t 2),(.t 3)]) [(.t 2),(.t 3)]:=bn (by kernel_rfl)
theorem Pv:aT Go.Proofs.Tryz.prog 123 5 (fc Go.Proofs.Tryz.prog 123 5 [(.t 2)]) [(.t 2)]:=bn (by kernel_rfl)
theorem PG:aT Go.Proofs.Tryz.prog 29 25 (fc Go.Proofs.Tryz.prog 29 25 [(.t 4)]) [(.t 4)]:=bn (by kernel_rfl)
structure Sz where
 auto:Bool
 n:Int
 deriving DecidableEq,Inhabited
def Sz.cells (x:Sz):List RV:=[.bool x.auto,.int .i64 x.n]
abbrev Sz.sv (x:Sz):SV:=.agg (x.cells.map .rv)
structure Su where
 p:Int
 n:Int
 deriving DecidableEq,Inhabited
def Su.cells (x:Su):List RV:=[.int .i64 x.p,.int .i64 x.n]
abbrev Su.sv (x:Su):SV:=.agg (x.cells.map .rv)
def kS (b p:Int):Bool:=decide (0≤b∧b≤1125899906842624∧-1000000≤p∧p≤1000000) && bN (b*p / 10000)
def lD (b p:Int):Int:=if kS b p=true then b*p / 10000 else 0
def fR (x:Ln) (b:Int) (has:Bool):Sz:=if x.kind=0∨x.kind=2∧has=false then ⟨true,0⟩ else if x.kind=1∧bN x.n=true then ⟨false,x.n⟩ else if x.kind=2 then ⟨false,lD b x.n⟩ else ⟨false,0⟩
def gQ (x:Ln) (b:Int) (has:Bool):Bool:=decide (x.kind=0) || decide (x.kind=2) && (!has || kS b x.n) || decide (x.kind=1) && bN x.n
def bf (x:Sz) (d:Int):Int:=if x.auto=true then d else x.n
def fL (a b:Su):Su:=⟨max a.p b.p,min a.n b.n⟩
def iN (a:Su):Int:=ct [a.p,a.n]
def nL (a:Su):Bool:=fT [a.p,a.n]
def jn (w:Int) (h:Sz):Bool:=decide (0≤w∧w≤1125899906842624) && (h.auto || decide (0≤h.n∧h.n≤1125899906842624))
theorem TI (x:Int):aG Go.Proofs.Tryz.prog 123 [.rv (.int .i64 x)] [] [] (.rv (.int .i64 (x / 2))):=by
 refine bt Pv [.rv (.int .i64 x)] _ (by simp) (by simp [aO,aW,bl,aQ,aY,aC.sv,Ln.sv,Nd.sv]) (fun K hK=>?_)
 conv in fc _ _ _ _=>reduce
 simp -implicitDefEqProofs only [go_sem,Int.reduceNegSucc]
 repeat' (first | (simp -implicitDefEqProofs only [go_sem,Int.reduceNegSucc]) | (with_reducible refine aA ?_) | ((first | refine ai (fun hg=>?_) (fun hg=>?_) | refine ay (fun hg=>?_) (fun hg=>?_) | refine az (fun hg=>?_) (fun hg=>?_)) <;> try simp -implicitDefEqProofs only [hg,Bool.not_true,Bool.not_false]) | ((with_reducible apply And.intro);focus (first | trivial | omega | decide | (simp -implicitDefEqProofs only [maxLen];omega) | (simp [maxLen,af,ak,an,ax,aj,av,au] <;> omega))) | fail)
 refine (hK _ _ (bO ?_)).2
 simp [lk]
 exact Int.fdiv_eq_ediv_of_nonneg _ (by decide)
theorem mU (x:Sz) (d:Int):aG Go.Proofs.Tryz.prog 92 [x.sv,.rv (.int .i64 d)] [] [] (.rv (.int .i64 (bf x d))):=by
 refine bt Qb [x.sv,.rv (.int .i64 d)] _ (by simp) (by simp [aO,aW,bl,aQ,aY,aC.sv,Ln.sv,Nd.sv]) (fun K hK=>?_)
 conv in fc _ _ _ _=>reduce
 simp -implicitDefEqProofs only [Sz.sv,Sz.cells,go_sem,Int.reduceNegSucc]
 repeat' (first | (simp -implicitDefEqProofs only [go_sem,Int.reduceNegSucc]) | (with_reducible refine aA ?_) | ((first | refine ai (fun hg=>?_) (fun hg=>?_) | refine ay (fun hg=>?_) (fun hg=>?_) | refine az (fun hg=>?_) (fun hg=>?_)) <;> try simp -implicitDefEqProofs only [hg,Bool.not_true,Bool.not_false]) | ((with_reducible apply And.intro);focus (first | trivial | omega | decide | (simp -implicitDefEqProofs only [maxLen];omega) | (simp [maxLen,af,ak,an,ax,aj,av,au] <;> omega))) | fail)
 all_goals (refine (hK _ _ ?_).2;clear hK;simp -implicitDefEqProofs only [go_sem,Int.reduceNegSucc,aX,bg,bp,bq,aM,aK,aI,bf] <;>(try simp_all [-Int.not_lt,-Int.not_le,aM,aK,aI,bG,bf]) <;> try omega)
theorem HY (x:Int):aG Go.Proofs.Tryz.prog 115 [.rv (.int .i64 x)] [] [] (Su.sv ⟨max x 0,min x 0⟩):=by
 refine bt Qn [.rv (.int .i64 x)] _ (by simp) (by simp [aO,aW,bl,aQ,aY,aC.sv,Ln.sv,Nd.sv]) (fun K hK=>?_)
 conv in fc _ _ _ _=>reduce
 simp -implicitDefEqProofs only [Su.sv,Su.cells,go_sem,Int.reduceNegSucc]
 repeat' (first | (simp -implicitDefEqProofs only [go_sem,Int.reduceNegSucc]) | (with_reducible refine aA ?_) | ((first | refine ai (fun hg=>?_) (fun hg=>?_) | refine ay (fun hg=>?_) (fun hg=>?_) | refine az (fun hg=>?_) (fun hg=>?_)) <;> try simp -implicitDefEqProofs only [hg,Bool.not_true,Bool.not_false]) | ((with_reducible apply And.intro);focus (first | trivial | omega | decide | (simp -implicitDefEqProofs only [maxLen];omega) | (simp [maxLen,af,ak,an,ax,aj,av,au] <;> omega))) | fail)
 all_goals (refine (hK _ _ ?_).2;clear hK;simp -implicitDefEqProofs only [go_sem,Int.reduceNegSucc,aX,bg,bp,bq,aM,aK,aI,Su.sv,Su.cells] <;>(try simp_all [-Int.not_lt,-Int.not_le,aM,aK,aI,bG,Su.sv,Su.cells]) <;> try omega)
theorem uz (a b:Su):aG Go.Proofs.Tryz.prog 116 [a.sv,b.sv] [] [] (fL a b).sv:=by
 refine bt Qm [a.sv,b.sv] _ (by simp) (by simp [aO,aW,bl,aQ,aY,aC.sv,Ln.sv,Nd.sv]) (fun K hK=>?_)
 conv in fc _ _ _ _=>reduce
 simp -implicitDefEqProofs only [Su.sv,Su.cells,go_sem,Int.reduceNegSucc]
 repeat' (first | (simp -implicitDefEqProofs only [go_sem,Int.reduceNegSucc]) | (with_reducible refine aA ?_) | ((first | refine ai (fun hg=>?_) (fun hg=>?_) | refine ay (fun hg=>?_) (fun hg=>?_) | refine az (fun hg=>?_) (fun hg=>?_)) <;> try simp -implicitDefEqProofs only [hg,Bool.not_true,Bool.not_false]) | ((with_reducible apply And.intro);focus (first | trivial | omega | decide | (simp -implicitDefEqProofs only [maxLen];omega) | (simp [maxLen,af,ak,an,ax,aj,av,au] <;> omega))) | fail)
 all_goals (refine (hK _ _ ?_).2;clear hK;simp -implicitDefEqProofs only [go_sem,Int.reduceNegSucc,aX,bg,bp,bq,aM,aK,aI,Su.sv,Su.cells,fL] <;>(try simp_all [-Int.not_lt,-Int.not_le,aM,aK,aI,bG,Su.sv,Su.cells,fL]) <;> try omega)
def lK (xs:List Int):List (List SV):=xs.map fun x=>[.rv (.int .i64 x)]
theorem Bw (xs:List Int):lK xs=aN (aL xs):=by simp [lK,aN,aL]
theorem uw (id:Nat) (xs:List Int) (hb:xs.length≤1000):aG Go.Proofs.Tryz.prog 44 [.row id 0 xs.length] [(id,.row 1 0 (lK xs))] [] (.aP [.rv (.int .i64 (ct xs)),.rv (.bool (fT xs))]):=by
 have:=FY (id:=id) (v:=0) (n:=xs.length) (bs:=[]) (rs:=[.int .i64 (ct xs),.bool (fT xs)]) (TK xs hb) (by simp;exact ⟨.int _ _,.bool _⟩) (by rw [aj]) (kF _)
 rw [Bw];exact this
theorem Cx (a:Su):aG Go.Proofs.Tryz.prog 80 [a.sv] [] [] (.aP [.rv (.int .i64 (iN a)),.rv (.bool (nL a))]):=by
 refine bt Qo [a.sv] _ (by simp) (by simp [aO,aW,bl,aQ,aY,aC.sv,Ln.sv,Nd.sv]) (fun K hK=>?_)
 have hs:=fun id=>uw id [a.p,a.n] (by simp)
 conv in fc _ _ _ _=>reduce
 simp -implicitDefEqProofs only [Su.sv,Su.cells,go_sem,Int.reduceNegSucc]
 simp [lK] at hs
 have aS:=hs;repeat' (first | (simp -implicitDefEqProofs only [go_sem,Int.reduceNegSucc]) | (with_reducible refine aA ?_) | ((first | refine bR (aS _) ?_ ?_ ?_ | refine cg (aS _) ?_ ?_ ?_ | fail);(focus (simp [aU,aB] <;> fail));(focus (simp [bh,aR] <;> fail))) | ((first | refine ai (fun hg=>?_) (fun hg=>?_) | refine ay (fun hg=>?_) (fun hg=>?_) | refine az (fun hg=>?_) (fun hg=>?_)) <;> try simp -implicitDefEqProofs only [hg,Bool.not_true,Bool.not_false]) | ((with_reducible apply And.intro);focus (first | trivial | omega | decide | (simp -implicitDefEqProofs only [maxLen];omega) | (simp [maxLen,af,ak,an,ax,aj,av,au] <;> omega))) | fail)
 all_goals (refine (hK _ _ ?_).2;clear hK;simp -implicitDefEqProofs only [go_sem,Int.reduceNegSucc,aX,bg,bp,bq,aM,aK,aI,iN,nL] <;>(try simp_all [-Int.not_lt,-Int.not_le,aM,aK,aI,bG,iN,nL]) <;> try omega)
theorem HM (w:Int) (h:Sz):aG Go.Proofs.Tryz.prog 29 [.rv (.int .i64 w),h.sv] [] [] (.rv (.bool (jn w h))):=by
 refine bt PG [.rv (.int .i64 w),h.sv] _ (by simp) (by simp [aO,aW,bl,aQ,aY,aC.sv,Ln.sv,Nd.sv]) (fun K hK=>?_)
 conv in fc _ _ _ _=>reduce
 simp -implicitDefEqProofs only [Sz.sv,Sz.cells,go_sem,Int.reduceNegSucc]
 repeat' (first | (simp -implicitDefEqProofs only [go_sem,Int.reduceNegSucc]) | (with_reducible refine aA ?_) | ((first | refine ai (fun hg=>?_) (fun hg=>?_) | refine ay (fun hg=>?_) (fun hg=>?_) | refine az (fun hg=>?_) (fun hg=>?_)) <;> try simp -implicitDefEqProofs only [hg,Bool.not_true,Bool.not_false]) | ((with_reducible apply And.intro);focus (first | trivial | omega | decide | (simp -implicitDefEqProofs only [maxLen];omega) | (simp [maxLen,af,ak,an,ax,aj,av,au] <;> omega))) | fail)
 all_goals (refine (hK _ _ ?_).2;clear hK;simp -implicitDefEqProofs only [go_sem,Int.reduceNegSucc,aX,bg,bp,bq,aM,aK,aI,jn] <;>(try simp_all [-Int.not_lt,-Int.not_le,aM,aK,aI,bG,jn]) <;> try omega)
end Go.aJ

namespace Go.aJ
open Go Go.Proofs
theorem JG:fA Go.Proofs.Tryz.prog 2=some false:=by kernel_rfl
theorem JE:fA Go.Proofs.Tryz.prog 4=some false:=by kernel_rfl
theorem JI:fA Go.Proofs.Tryz.prog 24=some true:=by kernel_rfl
theorem RP {rs:List RV} (h:ji Go.Proofs.Tryz.prog 1 2 rs):∃ i:Int,mZ Go.Proofs.Tryz.prog 2 rs = .rv (.int .i64 i):=by
 obtain ⟨i,rfl⟩:=pM h
 exact ⟨i,xo JG⟩
theorem RM {rs:List RV} (h:ji Go.Proofs.Tryz.prog 1 4 rs):∃ i:Bool,mZ Go.Proofs.Tryz.prog 4 rs = .rv (.bool i):=by
 obtain ⟨i,rfl⟩:=uB h
 exact ⟨i,xo JE⟩
theorem RT {rs:List RV} (h:ji Go.Proofs.Tryz.prog 2 24 rs):∃ x:Sz,mZ Go.Proofs.Tryz.prog 24 rs=x.sv:=by
 have h:=zC Tryz.underlying24 h
 obtain ⟨_,_,rfl,h1,_,_,rfl,h2,rfl⟩:=h
 obtain ⟨a,rfl⟩:=uB h1
 obtain ⟨b,rfl⟩:=pM h2
 exact ⟨⟨a,b⟩,JS JI⟩
end Go.aJ

namespace Go.aJ
open Go
theorem PV:aT Go.Proofs.Tryz.prog 97 51 (fc Go.Proofs.Tryz.prog 97 51 [(.t 4),(.t 5)]) [(.t 4),(.t 5)]:=bn (by kernel_rfl)
theorem PU:aT Go.Proofs.Tryz.prog 124 25 (fc Go.Proofs.Tryz.prog 124 25 [(.t 2)]) [(.t 2)]:=bn (by kernel_rfl)
theorem PT:aT Go.Proofs.Tryz.prog 118 6 (fc Go.Proofs.Tryz.prog 118 6 [(.t 2)]) [(.t 2)]:=bn (by kernel_rfl)
theorem wrap_u64 {n:Int} (h1:0≤n) (h2:n<18446744073709551616):IntKind.u64.wrap n=n:=by
 have:IntKind.u64.wrap n=n % 18446744073709551616:=by rfl
 rw [this];omega
theorem CS (a:Int):IntKind.u64.wrap ((@BitVec.toNat 64 (@HAnd.hAnd (BitVec 64) (BitVec 64) (BitVec 64) (@instHAndOfAndOp (BitVec IntKind.u64.bits) (@BitVec.instAndOp IntKind.u64.bits)) (BitVec.ofInt 64 a) (BitVec.ofInt 64 4294967295)):Nat):Int)=a % 4294967296:=by
 have h1:(BitVec.ofInt 64 a &&& BitVec.ofInt 64 4294967295).toNat=(BitVec.ofInt 64 a).toNat % 4294967296:=by
  show (BitVec.ofInt 64 a &&& BitVec.ofInt 64 4294967295).toNat=_
  rw [BitVec.toNat_and]
  exact Nat.and_two_pow_sub_one_eq_mod _ 32
 have h2:(((BitVec.ofInt 64 a).toNat % 4294967296:Nat):Int)=a % 4294967296:=by
  rw [BitVec.toNat_ofInt]
  omega
 have h3:((BitVec.ofInt 64 a &&& BitVec.ofInt 64 4294967295).toNat:Int)=a % 4294967296:=by rw [h1,h2]
 exact (congrArg IntKind.u64.wrap h3).trans (wrap_u64 (by omega) (by omega))
theorem SQ (a:Int):a.fdiv (2 ^ min 32 64)=a / 4294967296:=by
 rw [Int.fdiv_eq_ediv_of_nonneg _ (by decide)];rfl
theorem BP {a b A B:Int} (h0:0≤a) (h:a≤A) (h1:0≤b) (h2:b≤B):0≤a*b∧a*b≤A*B:=
 ⟨Int.mul_nonneg h0 h1,Int.mul_le_mul h h2 h1 (by omega)⟩
theorem HH (x y:Int) (hx:0≤x) (VQ:x≤1125899906842624) (hy:0≤y) (yG:y≤1000000):aG Go.Proofs.Tryz.prog 97 [.rv (.int .u64 x),.rv (.int .u64 y)] [] [] (.aP [.rv (.int .u64 (x*y / 18446744073709551616)),.rv (.int .u64 (x*y % 18446744073709551616))]):=by
 refine bt PV [.rv (.int .u64 x),.rv (.int .u64 y)] _ (by simp) (by simp [aO,aW,bl,aQ,aY,aC.sv,Ln.sv,Nd.sv]) (fun K hK=>?_)
 have y0:y % 4294967296=y:=by omega
 have y1:y / 4294967296=0:=by omega
 have m1:=BP (a:=x % 4294967296) (b:=y) (A:=4294967295) (B:=1000000) (by omega) (by omega) hy yG
 have m2:=BP (a:=x / 4294967296) (b:=y) (A:=262144) (B:=1000000) (by omega) (by omega) hy yG
 have e:x*y=x / 4294967296*y*4294967296+x % 4294967296*y:=by
  conv=>lhs;rw [← Int.mul_ediv_add_emod x 4294967296]
  rw [Int.add_mul,Int.mul_comm 4294967296,Int.mul_assoc,Int.mul_comm 4294967296,Int.mul_assoc]
 generalize hA:x % 4294967296*y=A at *
 generalize hB:x / 4294967296*y=B at *
 have w1:IntKind.u64.wrap A=A:=wrap_u64 (by omega) (by omega)
 have w2:IntKind.u64.wrap B=B:=wrap_u64 (by omega) (by omega)
 have w3:IntKind.u64.wrap (B+A / 4294967296)=B+A / 4294967296:=wrap_u64 (by omega) (by omega)
 have w4:IntKind.u64.wrap 0=0:=rfl
 have w5:IntKind.u64.wrap ((B+A / 4294967296) % 4294967296+0)=(B+A / 4294967296) % 4294967296:=by rw [Int.add_zero];exact wrap_u64 (by omega) (by omega)
 have w6:IntKind.u64.wrap (0+(B+A / 4294967296) / 4294967296)=(B+A / 4294967296) / 4294967296:=by rw [Int.zero_add];exact wrap_u64 (by omega) (by omega)
 have w7:IntKind.u64.wrap ((B+A / 4294967296) / 4294967296+(B+A / 4294967296) % 4294967296 / 4294967296)=x*y / 18446744073709551616:=by rw [wrap_u64 (by omega) (by omega)];omega
 have w8:IntKind.u64.wrap (x*y)=x*y % 18446744073709551616:=rfl
 conv in fc _ _ _ _=>reduce
 simp -implicitDefEqProofs only [go_sem,Int.reduceNegSucc]
 repeat' (first | (simp -implicitDefEqProofs only [go_sem,Int.reduceNegSucc,CS,SQ,y0,y1,hA,hB,w1,w2,w3,Int.mul_zero,w4,w5,w6,w7,w8]) | (with_reducible refine aA ?_) | ((first | refine ai (fun hg=>?_) (fun hg=>?_) | refine ay (fun hg=>?_) (fun hg=>?_) | refine az (fun hg=>?_) (fun hg=>?_)) <;> try simp -implicitDefEqProofs only [hg,Bool.not_true,Bool.not_false]) | ((with_reducible apply And.intro);focus (first | trivial | omega | decide | (simp -implicitDefEqProofs only [maxLen];omega) | (simp [maxLen,af,ak,an,ax,aj,av,au] <;> omega))) | fail)
 exact (hK _ _ (gI rfl rfl)).2
theorem Ts:aG Go.Proofs.Tryz.prog 124 [.rv (.int .u64 10000)] [] [] (.rv (.int .i64 14)):=by
 refine bt PU [.rv (.int .u64 10000)] _ (by simp) (by simp [aO,aW,bl,aQ,aY,aC.sv,Ln.sv,Nd.sv]) (fun K hK=>?_)
 have g1:decide ((10000:Int)≥4294967296)=false:=rfl
 have g2:decide ((10000:Int)≥65536)=false:=rfl
 have g3:decide ((10000:Int)≥256)=true:=rfl
 have s1:(10000:Int).fdiv (2 ^ min 8 64)=39:=rfl
 have s2:IntKind.i64.wrap (0+8)=8:=rfl
 have s3:IntKind.u8.wrap 39=39:=rfl
 conv in fc _ _ _ _=>reduce
 simp -implicitDefEqProofs only [go_sem,Int.reduceNegSucc]
 repeat' (first | (simp -implicitDefEqProofs only [go_sem,Int.reduceNegSucc,g1,g2,g3,s1,s2,s3]) | (with_reducible refine aA ?_) | ((first | refine ai (fun hg=>?_) (fun hg=>?_) | refine ay (fun hg=>?_) (fun hg=>?_) | refine az (fun hg=>?_) (fun hg=>?_)) <;> try simp -implicitDefEqProofs only [hg,Bool.not_true,Bool.not_false]) | ((with_reducible apply And.intro);focus (first | trivial | omega | decide | (simp -implicitDefEqProofs only [maxLen];omega) | (simp [maxLen,af,ak,an,ax,aj,av,au] <;> omega))) | fail)
 exact (hK _ _ (bO (by rfl))).2
theorem Tp:aG Go.Proofs.Tryz.prog 118 [.rv (.int .u64 10000)] [] [] (.rv (.int .i64 50)):=by
 refine bt PT [.rv (.int .u64 10000)] _ (by simp) (by simp [aO,aW,bl,aQ,aY,aC.sv,Ln.sv,Nd.sv]) (fun K hK=>?_)
 have h:=Ts
 have s2:IntKind.i64.wrap (64 - 14)=50:=rfl
 conv in fc _ _ _ _=>reduce
 simp -implicitDefEqProofs only [go_sem,Int.reduceNegSucc]
 have aS:=h;repeat' (first | (simp -implicitDefEqProofs only [go_sem,Int.reduceNegSucc,s2]) | (with_reducible refine aA ?_) | (with_reducible first | refine ag aS ?_ | refine ah aS ?_) | ((first | refine ai (fun hg=>?_) (fun hg=>?_) | refine ay (fun hg=>?_) (fun hg=>?_) | refine az (fun hg=>?_) (fun hg=>?_)) <;> try simp -implicitDefEqProofs only [hg,Bool.not_true,Bool.not_false]) | ((with_reducible apply And.intro);focus (first | trivial | omega | decide | (simp -implicitDefEqProofs only [maxLen];omega) | (simp [maxLen,af,ak,an,ax,aj,av,au] <;> omega))) | fail)
 exact (hK _ _ (bO rfl)).2
end Go.aJ

namespace Go.aJ
open Go
theorem PS:aT Go.Proofs.Tryz.prog 98 135 (fc Go.Proofs.Tryz.prog 98 135 [(.t 6),(.t 7)]) [(.t 6),(.t 7)]:=bn (by kernel_rfl)
theorem zH (n:Int):IntKind.u64.wrap n=n % 18446744073709551616:=rfl
theorem RX (a b:Nat) (hb:b<2 ^ 50) (ha:a<2 ^ 14):IntKind.u64.wrap ((@BitVec.toNat 64 (@HOr.hOr (BitVec 64) (BitVec 64) (BitVec 64) (@instHOrOfOrOp (BitVec IntKind.u64.bits) (@BitVec.instOrOp IntKind.u64.bits)) (BitVec.ofInt 64 ((a:Int)*1125899906842624)) (BitVec.ofInt 64 (b:Int))):Nat):Int)=(a:Int)*1125899906842624+b:=by
 have h1:(BitVec.ofInt 64 ((a:Int)*1125899906842624)).toNat=a <<< 50:=by
  rw [BitVec.toNat_ofInt,Nat.shiftLeft_eq];omega
 have h2:(BitVec.ofInt 64 (b:Int)).toNat=b:=by rw [BitVec.toNat_ofInt];omega
 have h3:(BitVec.ofInt 64 ((a:Int)*1125899906842624) ||| BitVec.ofInt 64 (b:Int)).toNat=a*2 ^ 50+b:=by
  rw [BitVec.toNat_or,h1,h2,← Nat.shiftLeft_add_eq_or_of_lt hb,Nat.shiftLeft_eq]
 have h4:((BitVec.ofInt 64 ((a:Int)*1125899906842624) ||| BitVec.ofInt 64 (b:Int)).toNat:Int)=(a:Int)*1125899906842624+b:=by rw [h3];omega
 exact (congrArg IntKind.u64.wrap h4).trans (wrap_u64 (by omega) (by omega))
theorem HE (hi lo:Nat) (h1:hi<1024) (h2:lo<18446744073709551616):aG Go.Proofs.Tryz.prog 98 [.rv (.int .u64 hi),.rv (.int .u64 lo),.rv (.int .u64 10000)] [] []
 (.aP [.rv (.int .u64 (((hi:Int)*18446744073709551616+lo) / 10000)),.rv (.int .u64 (((hi:Int)*18446744073709551616+lo) % 10000))]):=by
 refine bt PS [.rv (.int .u64 hi),.rv (.int .u64 lo),.rv (.int .u64 10000)] _ (by simp) (by simp [aO,aW,bl,aQ,aY,aC.sv,Ln.sv,Nd.sv]) (fun K hK=>?_)
 have g1:((10000:Int) == 0)=false:=rfl
 have g2:decide ((10000:Int)≤hi)=false:=decide_eq_false (by omega)
 by_cases h0:hi=0
 ·subst h0
  have g3:(((0:Nat):Int) == 0)=true:=rfl
  have t1:(lo:Int).tdiv 10000=lo / 10000:=Int.tdiv_eq_ediv_of_nonneg (by omega)
  have t2:(lo:Int).tmod 10000=lo % 10000:=Int.tmod_eq_emod_of_nonneg (by omega)
  have w1:IntKind.u64.wrap ((lo:Int) / 10000)=lo / 10000:=wrap_u64 (by omega) (by omega)
  conv in fc _ _ _ _=>reduce
  simp -implicitDefEqProofs only [go_sem,Int.reduceNegSucc]
  repeat' (first | (simp -implicitDefEqProofs only [go_sem,Int.reduceNegSucc,g1,g2,g3,t1,t2,w1]) | (with_reducible refine aA ?_) | ((first | refine ai (fun hg=>?_) (fun hg=>?_) | refine ay (fun hg=>?_) (fun hg=>?_) | refine az (fun hg=>?_) (fun hg=>?_)) <;> try simp -implicitDefEqProofs only [hg,Bool.not_true,Bool.not_false]) | ((with_reducible apply And.intro);focus (first | trivial | omega | decide | (simp -implicitDefEqProofs only [maxLen];omega) | (simp [maxLen,af,ak,an,ax,aj,av,au] <;> omega))) | fail)
  exact (hK _ _ (gI (by simp [lk]) (by simp [lk]))).2
 ·have g3:((hi:Int) == 0)=false:=by rw [Bool.eq_false_iff];simp;omega
  have hz:=Tp
  conv in fc _ _ _ _=>reduce
  simp -implicitDefEqProofs only [go_sem,Int.reduceNegSucc]
  have c1:IntKind.u64.wrap 50=50:=rfl
  have c2:IntKind.u64.wrap (10000*2 ^ min 50 64)=11258999068426240000:=rfl
  have c3:(11258999068426240000:Int).fdiv (2 ^ min 32 64)=2621440000:=rfl
  have c4:(11258999068426240000:Int) % 4294967296=0:=rfl
  have c5:IntKind.u64.wrap (64 - 50)=14:=rfl
  have c6:IntKind.u64.wrap ((hi:Int)*2 ^ min 50 64)=(hi:Int)*1125899906842624:=wrap_u64 (by show 0≤(hi:Int)*1125899906842624;omega) (by show (hi:Int)*1125899906842624<_;omega)
  have c7:(lo:Int).fdiv (2 ^ min 14 64)=((lo / 16384:Nat):Int):=by rw [Int.fdiv_eq_ediv_of_nonneg _ (by decide)];rfl
  have c8:=RX hi (lo / 16384) (by omega) (by omega)
  have aS:=hz;repeat' (first | (simp -implicitDefEqProofs only [go_sem,Int.reduceNegSucc,g1,g2,g3,c1,c2,c3,CS,c4,c5,c6,c7,c8]) | (with_reducible refine aA ?_) | (with_reducible first | refine ag aS ?_ | refine ah aS ?_) | ((first | refine ai (fun hg=>?_) (fun hg=>?_) | refine ay (fun hg=>?_) (fun hg=>?_) | refine az (fun hg=>?_) (fun hg=>?_)) <;> try simp -implicitDefEqProofs only [hg,Bool.not_true,Bool.not_false]) | ((with_reducible apply And.intro);focus (first | trivial | omega | decide | (simp -implicitDefEqProofs only [maxLen];omega) | (simp [maxLen,af,ak,an,ax,aj,av,au] <;> omega))) | fail)
  have hV:(hi:Int)*18446744073709551616+lo=((hi:Int)*1125899906842624+((lo / 16384:Nat):Int))*16384+(lo:Int) % 16384:=by omega
  have Mz:0≤(hi:Int)*1125899906842624+((lo / 16384:Nat):Int):=by omega
  have VC:(hi:Int)*1125899906842624+((lo / 16384:Nat):Int)<1152921504606846976:=by omega
  rw [hV] at hK
  have d4:IntKind.u64.wrap ((lo:Int)*2 ^ min 50 64)=(lo:Int) % 16384*1125899906842624:=by rw [show (2:Int) ^ min 50 64=1125899906842624 from rfl,zH];omega
  have yF:0≤(lo:Int) % 16384:=by omega
  have EX:(lo:Int) % 16384<16384:=by omega
  generalize (hi:Int)*1125899906842624+((lo / 16384:Nat):Int)=U at *
  generalize (lo:Int) % 16384=r at *
  have d5:(r*1125899906842624).fdiv (2 ^ min 32 64)=r*262144:=by rw [show (2:Int) ^ min 32 64=4294967296 from rfl,Int.fdiv_eq_ediv_of_nonneg _ (by decide)];omega
  have d6:r*1125899906842624 % 4294967296=0:=by omega
  have d1:IntKind.u64.wrap (U.tdiv 2621440000)=U / 2621440000:=by rw [Int.tdiv_eq_ediv_of_nonneg Mz];exact wrap_u64 (by omega) (by omega)
  have d2:IntKind.u64.wrap (U / 2621440000*2621440000)=U / 2621440000*2621440000:=wrap_u64 (by omega) (by omega)
  have d3:IntKind.u64.wrap (U - U / 2621440000*2621440000)=U % 2621440000:=by rw [wrap_u64 (by omega) (by omega)];omega
  have e0:decide (U / 2621440000≥4294967296)=false:=decide_eq_false (by omega)
  have e1:IntKind.u64.wrap 0=0:=rfl
  have e2:IntKind.u64.wrap (4294967296*(U % 2621440000))=4294967296*(U % 2621440000):=wrap_u64 (by omega) (by omega)
  have e3:IntKind.u64.wrap (4294967296*(U % 2621440000)+r*262144)=4294967296*(U % 2621440000)+r*262144:=wrap_u64 (by omega) (by omega)
  have e4:decide (0>4294967296*(U % 2621440000)+r*262144)=false:=decide_eq_false (by omega)
  have d10:IntKind.u64.wrap (IntKind.u64.wrap (IntKind.u64.wrap (U*4294967296)+r*262144) - IntKind.u64.wrap (U / 2621440000*11258999068426240000))=U % 2621440000*4294967296+r*262144:=by
   simp -implicitDefEqProofs only [zH];omega
  obtain ⟨X,hX⟩:∃ X,X=U % 2621440000*4294967296+r*262144:=⟨_,rfl⟩
  rw [← hX] at d10
  have f0:IntKind.u64.wrap (X.tdiv 2621440000)=X / 2621440000:=by rw [Int.tdiv_eq_ediv_of_nonneg (by omega)];exact wrap_u64 (by omega) (by omega)
  have f1:IntKind.u64.wrap (X / 2621440000*2621440000)=X / 2621440000*2621440000:=wrap_u64 (by omega) (by omega)
  have f2:IntKind.u64.wrap (X - X / 2621440000*2621440000)=X % 2621440000:=by rw [wrap_u64 (by omega) (by omega)];omega
  have f3:decide (X / 2621440000≥4294967296)=false:=decide_eq_false (by omega)
  have f4:IntKind.u64.wrap (4294967296*(X % 2621440000))=4294967296*(X % 2621440000):=wrap_u64 (by omega) (by omega)
  have f6:decide (0>4294967296*(X % 2621440000))=false:=decide_eq_false (by omega)
  have f7:IntKind.u64.wrap (IntKind.u64.wrap (U / 2621440000*4294967296)+X / 2621440000)=(U*16384+r) / 10000:=by
   rw [wrap_u64 (n:=U / 2621440000*4294967296) (by omega) (by omega),wrap_u64 (by omega) (by omega)];omega
  have f8:IntKind.u64.wrap (IntKind.u64.wrap (X*4294967296) - IntKind.u64.wrap (X / 2621440000*11258999068426240000))=(U*16384+r) % 10000*1125899906842624:=by
   simp -implicitDefEqProofs only [zH];omega
  have f9:IntKind.u64.wrap (IntKind.u64.wrap (X*4294967296))=IntKind.u64.wrap (X*4294967296):=by simp -implicitDefEqProofs only [zH];omega
  have f10:((U*16384+r) % 10000*1125899906842624).fdiv (2 ^ min 50 64)=(U*16384+r) % 10000:=by rw [show (2:Int) ^ min 50 64=1125899906842624 from rfl,Int.fdiv_eq_ediv_of_nonneg _ (by decide)];omega
  simp -implicitDefEqProofs only [d1,d2,d3,d4,d5,d6]
  refine jV 2 ?_
  repeat' (first | (simp -implicitDefEqProofs only [go_sem,Int.reduceNegSucc,ke,kf,kg,ki,kj,kk,jR,Int.reduceLT,decide_true,decide_false,Int.reduceToNat,Nat.reduceMul,e0,Int.mul_zero,e1,e2,e3,e4]) | (with_reducible refine aA ?_) | (with_reducible show G _ _ (It.l _ _::_) _ _ _;refine jU ?_) | ((first | refine ai (fun hg=>?_) (fun hg=>?_) | refine ay (fun hg=>?_) (fun hg=>?_) | refine az (fun hg=>?_) (fun hg=>?_)) <;> try simp -implicitDefEqProofs only [hg,Bool.not_true,Bool.not_false]) | ((with_reducible apply And.intro);focus (first | trivial | omega | decide | (simp -implicitDefEqProofs only [maxLen];omega) | (simp [maxLen,af,ak,an,ax,aj,av,au] <;> omega))) | fail)
  repeat' (first | (simp -implicitDefEqProofs only [go_sem,Int.reduceNegSucc,d10,f0,f1,f2]) | (with_reducible refine aA ?_) | ((first | refine ai (fun hg=>?_) (fun hg=>?_) | refine ay (fun hg=>?_) (fun hg=>?_) | refine az (fun hg=>?_) (fun hg=>?_)) <;> try simp -implicitDefEqProofs only [hg,Bool.not_true,Bool.not_false]) | ((with_reducible apply And.intro);focus (first | trivial | omega | decide | (simp -implicitDefEqProofs only [maxLen];omega) | (simp [maxLen,af,ak,an,ax,aj,av,au] <;> omega))) | fail)
  refine jV 2 ?_
  repeat' (first | (simp -implicitDefEqProofs only [go_sem,Int.reduceNegSucc,ke,kf,kg,ki,kj,kk,jR,Int.reduceLT,decide_true,decide_false,Int.reduceToNat,Nat.reduceMul,f3,Int.mul_zero,e1,f4,Int.add_zero,f6,f7,f9,f8,f10]) | (with_reducible refine aA ?_) | (with_reducible show G _ _ (It.l _ _::_) _ _ _;refine jU ?_) | ((first | refine ai (fun hg=>?_) (fun hg=>?_) | refine ay (fun hg=>?_) (fun hg=>?_) | refine az (fun hg=>?_) (fun hg=>?_)) <;> try simp -implicitDefEqProofs only [hg,Bool.not_true,Bool.not_false]) | ((with_reducible apply And.intro);focus (first | trivial | omega | decide | (simp -implicitDefEqProofs only [maxLen];omega) | (simp [maxLen,af,ak,an,ax,aj,av,au] <;> omega))) | fail)
  exact (hK _ _ (gI (by simp -implicitDefEqProofs only [lk,↓reduceIte,Nat.reduceEqDiff]) (by simp -implicitDefEqProofs only [lk,↓reduceIte,Nat.reduceEqDiff]))).2
end Go.aJ

namespace Go.aJ
open Go
theorem wK (a:Int):a.tdiv 10000=if 0≤a∨a % 10000=0 then a / 10000 else a / 10000+1:=by
 rw [Int.tdiv_eq_ediv]
 have:(10000:Int) ∣ a↔a % 10000=0:=Int.dvd_iff_emod_eq_zero
 simp -implicitDefEqProofs only [this]
 split <;> simp
theorem US (a:Int):a.tmod 10000=if 0≤a∨a % 10000=0 then a % 10000 else a % 10000 - 10000:=by
 rw [Int.tmod_eq_emod]
 have:(10000:Int) ∣ a↔a % 10000=0:=Int.dvd_iff_emod_eq_zero
 simp -implicitDefEqProofs only [this]
 split <;> simp
theorem TL (a:Int) (h : -100000000000≤a) (h2:a≤100000000000):aG Go.Proofs.Tryz.prog 111 [.rv (.int .i64 a),.rv (.int .i64 10000)] [] [] (.rv (.int .i64 (a / 10000))):=by
 refine bt Py [.rv (.int .i64 a),.rv (.int .i64 10000)] _ (by simp) (by simp [aO,aW,bl,aQ,aY,aC.sv,Ln.sv,Nd.sv]) (fun K hK=>?_)
 have e1:IntKind.i64.wrap (a.tdiv 10000)=a.tdiv 10000:=wrap_i64 (by rw [wK];split <;> omega) (by rw [wK];split <;> omega)
 have e2:IntKind.i64.wrap (a.tdiv 10000 - 1)=a.tdiv 10000 - 1:=wrap_i64 (by rw [wK];split <;> omega) (by rw [wK];split <;> omega)
 conv in fc _ _ _ _=>reduce
 simp -implicitDefEqProofs only [go_sem,Int.reduceNegSucc]
 repeat' (first | (simp -implicitDefEqProofs only [go_sem,Int.reduceNegSucc,e1,e2]) | (with_reducible refine aA ?_) | ((first | refine ai (fun hg=>?_) (fun hg=>?_) | refine ay (fun hg=>?_) (fun hg=>?_) | refine az (fun hg=>?_) (fun hg=>?_)) <;> try simp -implicitDefEqProofs only [hg,Bool.not_true,Bool.not_false]) | ((with_reducible apply And.intro);focus (first | trivial | omega | decide | (simp -implicitDefEqProofs only [maxLen];omega) | (simp [maxLen,af,ak,an,ax,aj,av,au] <;> omega))) | fail)
 all_goals (refine (hK _ _ (bO ?_)).2;clear hK;simp -implicitDefEqProofs only [decide_eq_true_eq,decide_eq_false_iff_not,US] at hg;simp [lk,wK];split at hg <;>(try intros) <;>(try split) <;> omega)
theorem Sa {b p:Int}:b / 10000*p+b % 10000*p / 10000=b*p / 10000:=by
 have h:b*p=b % 10000*p+10000*(b / 10000*p):=by
  conv=>lhs;rw [← Int.emod_add_mul_ediv b 10000]
  rw [Int.add_mul,Int.mul_assoc]
 rw [h,Int.add_mul_ediv_left _ _ (by decide)];omega
theorem Gq {a b A B:Int} (h0:0≤a) (h:a≤A) (h1 : -B≤b) (h2:b≤B) : -(A*B)≤a*b∧a*b≤A*B:=by
 have hB:0≤B:=by omega
 have e1:=Int.mul_le_mul_of_nonneg_left h2 h0
 have e2:=Int.mul_le_mul_of_nonneg_right h hB
 have e3:=Int.mul_le_mul_of_nonneg_left h1 h0
 rw [Int.mul_neg] at e3
 omega
theorem TJ (b p:Int):aG Go.Proofs.Tryz.prog 91 [.rv (.int .i64 b),.rv (.int .i64 p)] [] [] (.aP [.rv (.int .i64 (lD b p)),.rv (.bool (kS b p))]):=by
 refine bt Pw [.rv (.int .i64 b),.rv (.int .i64 p)] _ (by simp) (by simp [aO,aW,bl,aQ,aY,aC.sv,Ln.sv,Nd.sv]) (fun K hK=>?_)
 conv in fc _ _ _ _=>reduce
 simp -implicitDefEqProofs only [go_sem,Int.reduceNegSucc]
 by_cases h:0≤b∧b≤1125899906842624∧-1000000≤p∧p≤1000000
 ·have g1:decide (b<0)=false:=decide_eq_false (by omega)
  have g2:decide (b>1125899906842624)=false:=decide_eq_false (by omega)
  have g3:decide (p < -1000000)=false:=decide_eq_false (by omega)
  have g4:decide (p>1000000)=false:=decide_eq_false (by omega)
  have q1:b.tdiv 10000=b / 10000:=Int.tdiv_eq_ediv_of_nonneg h.1
  have q2:b.tmod 10000=b % 10000:=Int.tmod_eq_emod_of_nonneg h.1
  have m1:=Gq (a:=b % 10000) (b:=p) (A:=9999) (B:=1000000) (by omega) (by omega) h.2.2.1 h.2.2.2
  have m2:=Gq (a:=b / 10000) (b:=p) (A:=112589990684) (B:=1000000) (by omega) (by omega) h.2.2.1 h.2.2.2
  have w1:IntKind.i64.wrap (b / 10000)=b / 10000:=wrap_i64 (by omega) (by omega)
  have w2:IntKind.i64.wrap (b % 10000*p)=b % 10000*p:=wrap_i64 (by omega) (by omega)
  have w3:IntKind.i64.wrap (b / 10000*p)=b / 10000*p:=wrap_i64 (by omega) (by omega)
  have w4:IntKind.i64.wrap (b / 10000*p+b % 10000*p / 10000)=b*p / 10000:=by rw [wrap_i64 (by omega) (by omega),Sa]
  have hd:=TL (b % 10000*p) (by omega) (by omega)
  have hf:=lR (b*p / 10000)
  have e:kS b p=bN (b*p / 10000):=by simp [kS,h]
  have aS:=hd;have y_2:=hf;repeat' (first | (simp -implicitDefEqProofs only [go_sem,Int.reduceNegSucc,g1,g2,g3,g4,q1,q2,w1,w2,w3,w4]) | (with_reducible refine aA ?_) | (with_reducible first | refine ag aS ?_ | refine ah aS ?_) | (with_reducible first | refine ag y_2 ?_ | refine ah y_2 ?_) | ((first | refine ai (fun hg=>?_) (fun hg=>?_) | refine ay (fun hg=>?_) (fun hg=>?_) | refine az (fun hg=>?_) (fun hg=>?_)) <;> try simp -implicitDefEqProofs only [hg,Bool.not_true,Bool.not_false]) | ((with_reducible apply And.intro);focus (first | trivial | omega | decide | (simp -implicitDefEqProofs only [maxLen];omega) | (simp [maxLen,af,ak,an,ax,aj,av,au] <;> omega))) | fail)
  all_goals (refine (hK _ _ (gI ?_ ?_)).2 <;> clear hK <;> simp_all [lk,lD])
 ·have e:kS b p=false:=by simp [kS];intro a1 a2 a3 a4;exact absurd ⟨a1,a2,a3,a4⟩ h
  repeat' (first | (simp -implicitDefEqProofs only [go_sem,Int.reduceNegSucc]) | (with_reducible refine aA ?_) | ((first | refine ai (fun hg=>?_) (fun hg=>?_) | refine ay (fun hg=>?_) (fun hg=>?_) | refine az (fun hg=>?_) (fun hg=>?_)) <;> try simp -implicitDefEqProofs only [hg,Bool.not_true,Bool.not_false]) | ((with_reducible apply And.intro);focus (first | trivial | omega | decide | (simp -implicitDefEqProofs only [maxLen];omega) | (simp [maxLen,af,ak,an,ax,aj,av,au] <;> omega))) | fail)
  all_goals (first | (refine (hK _ _ (gI ?_ ?_)).2 <;> clear hK <;> simp [lk,lD,e];done) | (exfalso;simp at *;omega))
theorem ry (x:Ln) (b:Int) (has:Bool):aG Go.Proofs.Tryz.prog 63 [x.sv,.rv (.int .i64 b),.rv (.bool has)] [] [] (.aP [(fR x b has).sv,.rv (.bool (gQ x b has))]):=by
 refine bt Qa [x.sv,.rv (.int .i64 b),.rv (.bool has)] _ (by simp) (by simp [aO,aW,bl,aQ,aY,aC.sv,Ln.sv,Nd.sv]) (fun K hK=>?_)
 have hf:=lR x.n
 have hp:=TJ b x.n
 conv in fc _ _ _ _=>reduce
 simp -implicitDefEqProofs only [Ln.sv,Ln.cells,Sz.sv,Sz.cells,go_sem,Int.reduceNegSucc]
 have bA:=hf;have bF:=hp;repeat' (first | (simp -implicitDefEqProofs only [go_sem,Int.reduceNegSucc]) | (with_reducible refine aA ?_) | (with_reducible first | refine ag bA ?_ | refine ah bA ?_) | (with_reducible first | refine ag bF ?_ | refine ah bF ?_) | ((first | refine ai (fun hg=>?_) (fun hg=>?_) | refine ay (fun hg=>?_) (fun hg=>?_) | refine az (fun hg=>?_) (fun hg=>?_)) <;> try simp -implicitDefEqProofs only [hg,Bool.not_true,Bool.not_false]) | ((with_reducible apply And.intro);focus (first | trivial | omega | decide | (simp -implicitDefEqProofs only [maxLen];omega) | (simp [maxLen,af,ak,an,ax,aj,av,au] <;> omega))) | fail)
 all_goals (refine (hK _ _ ?_).2;clear hK;simp -implicitDefEqProofs only [go_sem,Int.reduceNegSucc,aX,bg,bp,bq,aM,aK,aI,Sz.sv,Sz.cells,fR,gQ] <;>(try simp_all [-Int.not_lt,-Int.not_le,aM,aK,aI,bG,Sz.sv,Sz.cells,fR,gQ]) <;> try omega)
theorem HV (x:Ln) (b:Int) (has:Bool):aG Go.Proofs.Tryz.prog 64 [x.sv,.rv (.int .i64 b),.rv (.bool has)] [] [] (.aP [.rv (.int .i64 (bf (fR x b has) 0)),.rv (.bool (gQ x b has))]):=by
 refine bt PY [x.sv,.rv (.int .i64 b),.rv (.bool has)] _ (by simp) (by simp [aO,aW,bl,aQ,aY,aC.sv,Ln.sv,Nd.sv]) (fun K hK=>?_)
 have hf:=ry x b has
 have ho:=mU (fR x b has) 0
 conv in fc _ _ _ _=>reduce
 simp -implicitDefEqProofs only [Ln.sv,Ln.cells,Sz.sv,Sz.cells,go_sem,Int.reduceNegSucc] at *
 have bJ:=hf;have bL:=ho;repeat' (first | (simp -implicitDefEqProofs only [go_sem,Int.reduceNegSucc]) | (with_reducible refine aA ?_) | (with_reducible first | refine ag bJ ?_ | refine ah bJ ?_) | (with_reducible first | refine ag bL ?_ | refine ah bL ?_) | ((first | refine ai (fun hg=>?_) (fun hg=>?_) | refine ay (fun hg=>?_) (fun hg=>?_) | refine az (fun hg=>?_) (fun hg=>?_)) <;> try simp -implicitDefEqProofs only [hg,Bool.not_true,Bool.not_false]) | ((with_reducible apply And.intro);focus (first | trivial | omega | decide | (simp -implicitDefEqProofs only [maxLen];omega) | (simp [maxLen,af,ak,an,ax,aj,av,au] <;> omega))) | fail)
 exact (hK _ _ (gI rfl rfl)).2
theorem HW (x:Ln) (b:Int) (has:Bool):aG Go.Proofs.Tryz.prog 65 [x.sv,.rv (.int .i64 b),.rv (.bool has)] [] [] (.aP [.rv (.int .i64 (bf (fR x b has) 1125899906842624)),.rv (.bool (gQ x b has))]):=by
 refine bt PZ [x.sv,.rv (.int .i64 b),.rv (.bool has)] _ (by simp) (by simp [aO,aW,bl,aQ,aY,aC.sv,Ln.sv,Nd.sv]) (fun K hK=>?_)
 have hf:=ry x b has
 have ho:=mU (fR x b has) 1125899906842624
 conv in fc _ _ _ _=>reduce
 simp -implicitDefEqProofs only [Ln.sv,Ln.cells,Sz.sv,Sz.cells,go_sem,Int.reduceNegSucc] at *
 have bP:=hf;have bT:=ho;repeat' (first | (simp -implicitDefEqProofs only [go_sem,Int.reduceNegSucc]) | (with_reducible refine aA ?_) | (with_reducible first | refine ag bP ?_ | refine ah bP ?_) | (with_reducible first | refine ag bT ?_ | refine ah bT ?_) | ((first | refine ai (fun hg=>?_) (fun hg=>?_) | refine ay (fun hg=>?_) (fun hg=>?_) | refine az (fun hg=>?_) (fun hg=>?_)) <;> try simp -implicitDefEqProofs only [hg,Bool.not_true,Bool.not_false]) | ((with_reducible apply And.intro);focus (first | trivial | omega | decide | (simp -implicitDefEqProofs only [maxLen];omega) | (simp [maxLen,af,ak,an,ax,aj,av,au] <;> omega))) | fail)
 exact (hK _ _ (gI rfl rfl)).2
end Go.aJ

namespace Go.aJ
open Go
theorem OM:aT Go.Proofs.Tryz.prog 99 15 (fc Go.Proofs.Tryz.prog 99 15 [(.t 2)]) [(.t 2)]:=bn (by kernel_rfl)
theorem BJ:aT Go.Proofs.Tryz.prog 70 62 (fc Go.Proofs.Tryz.prog 70 62 [(.t 4),(.t 5)]) [(.t 4),(.t 5)]:=bn (by kernel_rfl)
theorem Pc:aT Go.Proofs.Tryz.prog 35 48 (fc Go.Proofs.Tryz.prog 35 48 [(.c 6 2 true),(.t 7)]) [(.c 6 2 true),(.t 7)]:=bn (by kernel_rfl)
theorem Pd:aT Go.Proofs.Tryz.prog 39 11 (fc Go.Proofs.Tryz.prog 39 11 [(.t 4)]) [(.t 4)]:=bn (by kernel_rfl)
theorem Pb:aT Go.Proofs.Tryz.prog 36 37 (fc Go.Proofs.Tryz.prog 36 37 [(.t 8),(.t 9),(.t 10)]) [(.t 8),(.t 9),(.t 10)]:=bn (by kernel_rfl)
theorem Pg:aT Go.Proofs.Tryz.prog 72 16 (fc Go.Proofs.Tryz.prog 72 16 [(.c 4 2 true)]) [(.c 4 2 true)]:=bn (by kernel_rfl)
theorem Ph:aT Go.Proofs.Tryz.prog 46 12 (fc Go.Proofs.Tryz.prog 46 12 [(.t 2),(.t 3)]) [(.t 2),(.t 3)]:=bn (by kernel_rfl)
theorem Pr:aT Go.Proofs.Tryz.prog 32 25 (fc Go.Proofs.Tryz.prog 32 25 [(.t 4)]) [(.t 4)]:=bn (by kernel_rfl)
theorem Ue (x:Int) (h : -9223372036854775807≤x) (h2:x<9223372036854775808):aG Go.Proofs.Tryz.prog 99 [.rv (.int .i64 x)] [] [] (.rv (.int .i64 (x / 2))):=by
 refine bt OM [.rv (.int .i64 x)] _ (by simp) (by simp [aO,aW,bl,aQ,aY,aC.sv,Ln.sv,Nd.sv]) (fun K hK=>?_)
 have t1:x.tdiv 2=if 0≤x∨x % 2=0 then x / 2 else x / 2+1:=by
  rw [Int.tdiv_eq_ediv]
  have:(2:Int) ∣ x↔x % 2=0:=Int.dvd_iff_emod_eq_zero
  simp -implicitDefEqProofs only [this];split <;> simp
 have t2:x.tmod 2=if 0≤x∨x % 2=0 then x % 2 else x % 2 - 2:=by
  rw [Int.tmod_eq_emod]
  have:(2:Int) ∣ x↔x % 2=0:=Int.dvd_iff_emod_eq_zero
  simp -implicitDefEqProofs only [this];split <;> simp
 have w1:IntKind.i64.wrap (x.tdiv 2)=x.tdiv 2:=wrap_i64 (by rw [t1];split <;> omega) (by rw [t1];split <;> omega)
 have w2:IntKind.i64.wrap (x.tdiv 2 - 1)=x.tdiv 2 - 1:=wrap_i64 (by rw [t1];split <;> omega) (by rw [t1];split <;> omega)
 conv in fc _ _ _ _=>reduce
 simp -implicitDefEqProofs only [go_sem,Int.reduceNegSucc]
 repeat' (first | (simp -implicitDefEqProofs only [go_sem,Int.reduceNegSucc,w1,w2]) | (with_reducible refine aA ?_) | ((first | refine ai (fun hg=>?_) (fun hg=>?_) | refine ay (fun hg=>?_) (fun hg=>?_) | refine az (fun hg=>?_) (fun hg=>?_)) <;> try simp -implicitDefEqProofs only [hg,Bool.not_true,Bool.not_false]) | ((with_reducible apply And.intro);focus (first | trivial | omega | decide | (simp -implicitDefEqProofs only [maxLen];omega) | (simp [maxLen,af,ak,an,ax,aj,av,au] <;> omega))) | fail)
 all_goals (refine (hK _ _ (bO ?_)).2;clear hK;simp -implicitDefEqProofs only [lk,↓reduceIte,Nat.reduceEqDiff,SV.rv.injEq,RV.int.injEq,true_and,t1,t2,decide_eq_true_eq,decide_eq_false_iff_not,bne_iff_ne,ne_eq,bne_eq_false_iff_eq,Bool.not_true,Bool.not_false] at *;clear w1 w2;(try split at hg) <;>(try split) <;> omega)
theorem oI (x:Sz) (d:Int):aG Go.Proofs.Tryz.prog 39 [x.sv,.rv (.int .i64 d)] [] [] (.rv (.int .i64 (bf x d))):=by
 refine bt Pd [x.sv,.rv (.int .i64 d)] _ (by simp) (by simp [aO,aW,bl,aQ,aY,aC.sv,Ln.sv,Nd.sv]) (fun K hK=>?_)
 conv in fc _ _ _ _=>reduce
 simp -implicitDefEqProofs only [Sz.sv,Sz.cells,go_sem,Int.reduceNegSucc]
 repeat' (first | (simp -implicitDefEqProofs only [go_sem,Int.reduceNegSucc]) | (with_reducible refine aA ?_) | ((first | refine ai (fun hg=>?_) (fun hg=>?_) | refine ay (fun hg=>?_) (fun hg=>?_) | refine az (fun hg=>?_) (fun hg=>?_)) <;> try simp -implicitDefEqProofs only [hg,Bool.not_true,Bool.not_false]) | ((with_reducible apply And.intro);focus (first | trivial | omega | decide | (simp -implicitDefEqProofs only [maxLen];omega) | (simp [maxLen,af,ak,an,ax,aj,av,au] <;> omega))) | fail)
 all_goals (refine (hK _ _ ?_).2;clear hK;simp -implicitDefEqProofs only [go_sem,Int.reduceNegSucc,aX,bg,bp,bq,aM,aK,aI,bf] <;>(try simp_all [-Int.not_lt,-Int.not_le,aM,aK,aI,bG,bf]) <;> try omega)
theorem uy (a b:Su):aG Go.Proofs.Tryz.prog 72 [a.sv,b.sv] [] [] (fL a b).sv:=by
 refine bt Pg [a.sv,b.sv] _ (by simp) (by simp [aO,aW,bl,aQ,aY,aC.sv,Ln.sv,Nd.sv]) (fun K hK=>?_)
 conv in fc _ _ _ _=>reduce
 simp -implicitDefEqProofs only [Su.sv,Su.cells,go_sem,Int.reduceNegSucc]
 repeat' (first | (simp -implicitDefEqProofs only [go_sem,Int.reduceNegSucc]) | (with_reducible refine aA ?_) | ((first | refine ai (fun hg=>?_) (fun hg=>?_) | refine ay (fun hg=>?_) (fun hg=>?_) | refine az (fun hg=>?_) (fun hg=>?_)) <;> try simp -implicitDefEqProofs only [hg,Bool.not_true,Bool.not_false]) | ((with_reducible apply And.intro);focus (first | trivial | omega | decide | (simp -implicitDefEqProofs only [maxLen];omega) | (simp [maxLen,af,ak,an,ax,aj,av,au] <;> omega))) | fail)
 all_goals (refine (hK _ _ ?_).2;clear hK;simp -implicitDefEqProofs only [go_sem,Int.reduceNegSucc,aX,bg,bp,bq,aM,aK,aI,Su.sv,Su.cells,fL] <;>(try simp_all [-Int.not_lt,-Int.not_le,aM,aK,aI,bG,Su.sv,Su.cells,fL]) <;> try omega)
theorem ux (id:Nat) (xs:List Int) (hb:xs.length≤1000):aG Go.Proofs.Tryz.prog 34 [.row id 0 xs.length] [(id,.row 1 0 (lK xs))] [] (.aP [.rv (.int .i64 (ct xs)),.rv (.bool (fT xs))]):=by
 have:=FY (id:=id) (v:=0) (n:=xs.length) (bs:=[]) (rs:=[.int .i64 (ct xs),.bool (fT xs)]) (Ui xs hb) (by simp;exact ⟨.int _ _,.bool _⟩) (by rw [aj]) (kF _)
 rw [Bw];exact this
theorem Cv (a:Su):aG Go.Proofs.Tryz.prog 46 [a.sv] [] [] (.aP [.rv (.int .i64 (iN a)),.rv (.bool (nL a))]):=by
 refine bt Ph [a.sv] _ (by simp) (by simp [aO,aW,bl,aQ,aY,aC.sv,Ln.sv,Nd.sv]) (fun K hK=>?_)
 have hs:=fun id=>ux id [a.p,a.n] (by simp)
 conv in fc _ _ _ _=>reduce
 simp -implicitDefEqProofs only [Su.sv,Su.cells,go_sem,Int.reduceNegSucc]
 simp [lK] at hs
 have aS:=hs;repeat' (first | (simp -implicitDefEqProofs only [go_sem,Int.reduceNegSucc]) | (with_reducible refine aA ?_) | ((first | refine bR (aS _) ?_ ?_ ?_ | refine cg (aS _) ?_ ?_ ?_ | fail);(focus (simp [aU,aB] <;> fail));(focus (simp [bh,aR] <;> fail))) | ((first | refine ai (fun hg=>?_) (fun hg=>?_) | refine ay (fun hg=>?_) (fun hg=>?_) | refine az (fun hg=>?_) (fun hg=>?_)) <;> try simp -implicitDefEqProofs only [hg,Bool.not_true,Bool.not_false]) | ((with_reducible apply And.intro);focus (first | trivial | omega | decide | (simp -implicitDefEqProofs only [maxLen];omega) | (simp [maxLen,af,ak,an,ax,aj,av,au] <;> omega))) | fail)
 all_goals (refine (hK _ _ ?_).2;clear hK;simp -implicitDefEqProofs only [go_sem,Int.reduceNegSucc,aX,bg,bp,bq,aM,aK,aI,iN,nL] <;>(try simp_all [-Int.not_lt,-Int.not_le,aM,aK,aI,bG,iN,nL]) <;> try omega)
theorem HT (w:Int) (h:Sz):aG Go.Proofs.Tryz.prog 32 [.rv (.int .i64 w),h.sv] [] [] (.rv (.bool (jn w h))):=by
 refine bt Pr [.rv (.int .i64 w),h.sv] _ (by simp) (by simp [aO,aW,bl,aQ,aY,aC.sv,Ln.sv,Nd.sv]) (fun K hK=>?_)
 conv in fc _ _ _ _=>reduce
 simp -implicitDefEqProofs only [Sz.sv,Sz.cells,go_sem,Int.reduceNegSucc]
 repeat' (first | (simp -implicitDefEqProofs only [go_sem,Int.reduceNegSucc]) | (with_reducible refine aA ?_) | ((first | refine ai (fun hg=>?_) (fun hg=>?_) | refine ay (fun hg=>?_) (fun hg=>?_) | refine az (fun hg=>?_) (fun hg=>?_)) <;> try simp -implicitDefEqProofs only [hg,Bool.not_true,Bool.not_false]) | ((with_reducible apply And.intro);focus (first | trivial | omega | decide | (simp -implicitDefEqProofs only [maxLen];omega) | (simp [maxLen,af,ak,an,ax,aj,av,au] <;> omega))) | fail)
 all_goals (refine (hK _ _ ?_).2;clear hK;simp -implicitDefEqProofs only [go_sem,Int.reduceNegSucc,aX,bg,bp,bq,aM,aK,aI,jn] <;>(try simp_all [-Int.not_lt,-Int.not_le,aM,aK,aI,bG,jn]) <;> try omega)
end Go.aJ

namespace Go.aJ
open Go
theorem Gr (b N:Int) (b0:0≤b) (b1:b≤1125899906842624) (h0:0≤N) (h1:N≤1000000):∃ (hi lo:Nat) (W:Int),b*N=W∧0≤W∧W≤1125899906842624000000∧
 b*N / 18446744073709551616=(hi:Int)∧b*N % 18446744073709551616=(lo:Int)∧hi<1024∧lo<18446744073709551616∧(hi:Int)*18446744073709551616+(lo:Int)=W:=by
 have m:=BP (a:=b) (b:=N) (A:=1125899906842624) (B:=1000000) b0 b1 h0 h1
 generalize b*N=W at *
 exact ⟨(W / 18446744073709551616).toNat,(W % 18446744073709551616).toNat,W,rfl,m.1,by omega,by omega,by omega,by omega,by omega,by omega⟩
theorem GM {W:Int} (h0:0≤W) (h1:W≤1125899906842624000000):0≤W / 10000∧W / 10000≤112589990684262400∧0≤W % 10000∧W % 10000<10000:=by omega
theorem Sb {W:Int}:(W % 10000>0→-W / 10000 = -(W / 10000+1))∧(¬ W % 10000>0→-W / 10000 = -(W / 10000)):=by omega
theorem Ug (b p:Int) (b0:0≤b) (b1:b≤1125899906842624) (p0 : -1000000≤p) (p1:p≤1000000) (hp:p<0):aG Go.Proofs.Tryz.prog 70 [.rv (.int .i64 b),.rv (.int .i64 p)] [] [] (.aP [.rv (.int .i64 (lD b p)),.rv (.bool (kS b p))]):=by
 refine bt BJ [.rv (.int .i64 b),.rv (.int .i64 p)] _ (by simp) (by simp [aO,aW,bl,aQ,aY,aC.sv,Ln.sv,Nd.sv]) (fun K hK=>?_)
 have sn:kS b p=bN (b*p / 10000):=by simp [kS,b0,b1,p0,p1]
 have g1:decide (b<0)=false:=decide_eq_false (by omega)
 have g2:decide (b>1125899906842624)=false:=decide_eq_false (by omega)
 have g3:decide (p < -1000000)=false:=decide_eq_false (by omega)
 have g4:decide (p>1000000)=false:=decide_eq_false (by omega)
 have wb:IntKind.u64.wrap b=b:=wrap_u64 b0 (by omega)
 have g5:decide (p<0)=true:=decide_eq_true hp
 have w1:IntKind.i64.wrap (0 - p) = -p:=by rw [wrap_i64 (by omega) (by omega)] <;> try omega
 have w2:IntKind.u64.wrap (-p) = -p:=wrap_u64 (by omega) (by omega)
 have hm:=HH b (-p) b0 b1 (by omega) (by omega)
 obtain ⟨hi,lo,W,e0,e1,e2,e3,e4,e5,e6,e7⟩:=Gr b (-p) b0 b1 (by omega) (by omega)
 have hd:=HE hi lo e5 e6
 rw [e3,e4] at hm
 rw [e7] at hd
 have e8:b*p = -W:=by rw [Int.mul_neg] at e0;omega
 have vh:lD b p=if bN (-W / 10000)=true then -W / 10000 else 0:=by simp -implicitDefEqProofs only [lD,sn,e8]
 rw [sn,vh,e8] at hK
 clear e0 e3 e4 e5 e6 e7 e8 sn vh
 conv in fc _ _ _ _=>reduce
 simp -implicitDefEqProofs only [go_sem,Int.reduceNegSucc]
 generalize (hi:Int)=H at *
 generalize (lo:Int)=L at *
 obtain ⟨q1,q2,q3,q4⟩:=GM e1 e2
 obtain ⟨r1,r2⟩:=Sb (W:=W)
 generalize -W / 10000=X at *
 generalize W / 10000=Q at *
 generalize W % 10000=R at *
 clear e1 e2
 have w3:IntKind.u64.wrap (Q+1)=Q+1:=wrap_u64 (by omega) (by omega)
 have w4:IntKind.i64.wrap (Q+1)=Q+1:=by rw [wrap_i64 (by omega) (by omega)] <;> try omega
 have w5:IntKind.i64.wrap Q=Q:=by rw [wrap_i64 (by omega) (by omega)] <;> try omega
 have w6:IntKind.i64.wrap (0 - (Q+1)) = -(Q+1):=by rw [wrap_i64 (by omega) (by omega)] <;> try omega
 have w7:IntKind.i64.wrap (0 - Q) = -Q:=by rw [wrap_i64 (by omega) (by omega)] <;> try omega
 by_cases hr:R>0
 ·have g6:decide (R>0)=true:=decide_eq_true hr
  rw [r1 hr] at hK
  by_cases hq:Q+1>1125899906842624
  ·have g7:decide (Q+1>1125899906842624)=true:=decide_eq_true hq
   have hF:bN (-(Q+1))=false:=by rw [Bool.eq_false_iff,ne_eq,iZ];omega
   rw [hF] at hK
   have aS:=hm;have y_2:=hd;repeat' (first | (simp -implicitDefEqProofs only [go_sem,Int.reduceNegSucc,g1,g2,g3,g4,g5,wb,w1,w2,w3,g6,g7]) | (with_reducible refine aA ?_) | (with_reducible first | refine ag aS ?_ | refine ah aS ?_) | (with_reducible first | refine ag y_2 ?_ | refine ah y_2 ?_) | ((first | refine ai (fun hg=>?_) (fun hg=>?_) | refine ay (fun hg=>?_) (fun hg=>?_) | refine az (fun hg=>?_) (fun hg=>?_)) <;> try simp -implicitDefEqProofs only [hg,Bool.not_true,Bool.not_false]) | ((with_reducible apply And.intro);focus (first | trivial | omega | decide | (simp -implicitDefEqProofs only [maxLen];omega) | (simp [maxLen,af,ak,an,ax,aj,av,au] <;> omega))) | fail)
   refine (hK _ _ (gI ?_ ?_)).2 <;> rfl
  ·have g7:decide (Q+1>1125899906842624)=false:=decide_eq_false hq
   have hF:bN (-(Q+1))=true:=by rw [iZ];omega
   rw [hF] at hK
   have bA:=hm;have bF:=hd;repeat' (first | (simp -implicitDefEqProofs only [go_sem,Int.reduceNegSucc,g1,g2,g3,g4,g5,wb,w1,w2,w3,g6,g7,w4,w6]) | (with_reducible refine aA ?_) | (with_reducible first | refine ag bA ?_ | refine ah bA ?_) | (with_reducible first | refine ag bF ?_ | refine ah bF ?_) | ((first | refine ai (fun hg=>?_) (fun hg=>?_) | refine ay (fun hg=>?_) (fun hg=>?_) | refine az (fun hg=>?_) (fun hg=>?_)) <;> try simp -implicitDefEqProofs only [hg,Bool.not_true,Bool.not_false]) | ((with_reducible apply And.intro);focus (first | trivial | omega | decide | (simp -implicitDefEqProofs only [maxLen];omega) | (simp [maxLen,af,ak,an,ax,aj,av,au] <;> omega))) | fail)
   refine (hK _ _ (gI ?_ ?_)).2 <;> rfl
 ·have g6:decide (R>0)=false:=decide_eq_false hr
  rw [r2 hr] at hK
  by_cases hq:Q>1125899906842624
  ·have g7:decide (Q>1125899906842624)=true:=decide_eq_true hq
   have hF:bN (-Q)=false:=by rw [Bool.eq_false_iff,ne_eq,iZ];omega
   rw [hF] at hK
   have bJ:=hm;have bL:=hd;repeat' (first | (simp -implicitDefEqProofs only [go_sem,Int.reduceNegSucc,g1,g2,g3,g4,g5,wb,w1,w2,w3,g6,g7]) | (with_reducible refine aA ?_) | (with_reducible first | refine ag bJ ?_ | refine ah bJ ?_) | (with_reducible first | refine ag bL ?_ | refine ah bL ?_) | ((first | refine ai (fun hg=>?_) (fun hg=>?_) | refine ay (fun hg=>?_) (fun hg=>?_) | refine az (fun hg=>?_) (fun hg=>?_)) <;> try simp -implicitDefEqProofs only [hg,Bool.not_true,Bool.not_false]) | ((with_reducible apply And.intro);focus (first | trivial | omega | decide | (simp -implicitDefEqProofs only [maxLen];omega) | (simp [maxLen,af,ak,an,ax,aj,av,au] <;> omega))) | fail)
   refine (hK _ _ (gI ?_ ?_)).2 <;> rfl
  ·have g7:decide (Q>1125899906842624)=false:=decide_eq_false hq
   have hF:bN (-Q)=true:=by rw [iZ];omega
   rw [hF] at hK
   have bP:=hm;have bT:=hd;repeat' (first | (simp -implicitDefEqProofs only [go_sem,Int.reduceNegSucc,g1,g2,g3,g4,g5,wb,w1,w2,w3,g6,g7,w5,w7]) | (with_reducible refine aA ?_) | (with_reducible first | refine ag bP ?_ | refine ah bP ?_) | (with_reducible first | refine ag bT ?_ | refine ah bT ?_) | ((first | refine ai (fun hg=>?_) (fun hg=>?_) | refine ay (fun hg=>?_) (fun hg=>?_) | refine az (fun hg=>?_) (fun hg=>?_)) <;> try simp -implicitDefEqProofs only [hg,Bool.not_true,Bool.not_false]) | ((with_reducible apply And.intro);focus (first | trivial | omega | decide | (simp -implicitDefEqProofs only [maxLen];omega) | (simp [maxLen,af,ak,an,ax,aj,av,au] <;> omega))) | fail)
   refine (hK _ _ (gI ?_ ?_)).2 <;> rfl
theorem Uh (b p:Int) (b0:0≤b) (b1:b≤1125899906842624) (p0 : -1000000≤p) (p1:p≤1000000) (hp:¬ p<0):aG Go.Proofs.Tryz.prog 70 [.rv (.int .i64 b),.rv (.int .i64 p)] [] [] (.aP [.rv (.int .i64 (lD b p)),.rv (.bool (kS b p))]):=by
 refine bt BJ [.rv (.int .i64 b),.rv (.int .i64 p)] _ (by simp) (by simp [aO,aW,bl,aQ,aY,aC.sv,Ln.sv,Nd.sv]) (fun K hK=>?_)
 have sn:kS b p=bN (b*p / 10000):=by simp [kS,b0,b1,p0,p1]
 have g1:decide (b<0)=false:=decide_eq_false (by omega)
 have g2:decide (b>1125899906842624)=false:=decide_eq_false (by omega)
 have g3:decide (p < -1000000)=false:=decide_eq_false (by omega)
 have g4:decide (p>1000000)=false:=decide_eq_false (by omega)
 have wb:IntKind.u64.wrap b=b:=wrap_u64 b0 (by omega)
 have g5:decide (p<0)=false:=decide_eq_false hp
 have w2:IntKind.u64.wrap p=p:=wrap_u64 (by omega) (by omega)
 have hm:=HH b p b0 b1 (by omega) (by omega)
 obtain ⟨hi,lo,W,e0,e1,e2,e3,e4,e5,e6,e7⟩:=Gr b p b0 b1 (by omega) (by omega)
 have hd:=HE hi lo e5 e6
 rw [e3,e4] at hm
 rw [e7] at hd
 have vh:lD b p=if bN (W / 10000)=true then W / 10000 else 0:=by simp -implicitDefEqProofs only [lD,sn,e0]
 rw [sn,vh,e0] at hK
 clear e0 e3 e4 e5 e6 e7 sn vh
 conv in fc _ _ _ _=>reduce
 simp -implicitDefEqProofs only [go_sem,Int.reduceNegSucc]
 generalize (hi:Int)=H at *
 generalize (lo:Int)=L at *
 obtain ⟨q1,q2,q3,q4⟩:=GM e1 e2
 generalize W / 10000=Q at *
 generalize W % 10000=R at *
 clear e1 e2
 have w5:IntKind.i64.wrap Q=Q:=by rw [wrap_i64 (by omega) (by omega)] <;> try omega
 by_cases hq:Q>1125899906842624
 ·have g7:decide (Q>1125899906842624)=true:=decide_eq_true hq
  have hF:bN Q=false:=by rw [Bool.eq_false_iff,ne_eq,iZ];omega
  rw [hF] at hK
  have cq:=hm;have cu:=hd;repeat' (first | (simp -implicitDefEqProofs only [go_sem,Int.reduceNegSucc,g1,g2,g3,g4,g5,wb,w2,g7]) | (with_reducible refine aA ?_) | (with_reducible first | refine ag cq ?_ | refine ah cq ?_) | (with_reducible first | refine ag cu ?_ | refine ah cu ?_) | ((first | refine ai (fun hg=>?_) (fun hg=>?_) | refine ay (fun hg=>?_) (fun hg=>?_) | refine az (fun hg=>?_) (fun hg=>?_)) <;> try simp -implicitDefEqProofs only [hg,Bool.not_true,Bool.not_false]) | ((with_reducible apply And.intro);focus (first | trivial | omega | decide | (simp -implicitDefEqProofs only [maxLen];omega) | (simp [maxLen,af,ak,an,ax,aj,av,au] <;> omega))) | fail)
  refine (hK _ _ (gI ?_ ?_)).2 <;> rfl
 ·have g7:decide (Q>1125899906842624)=false:=decide_eq_false hq
  have hF:bN Q=true:=by rw [iZ];omega
  rw [hF] at hK
  have gf:=hm;have gN:=hd;repeat' (first | (simp -implicitDefEqProofs only [go_sem,Int.reduceNegSucc,g1,g2,g3,g4,g5,wb,w2,w5,g7]) | (with_reducible refine aA ?_) | (with_reducible first | refine ag gf ?_ | refine ah gf ?_) | (with_reducible first | refine ag gN ?_ | refine ah gN ?_) | ((first | refine ai (fun hg=>?_) (fun hg=>?_) | refine ay (fun hg=>?_) (fun hg=>?_) | refine az (fun hg=>?_) (fun hg=>?_)) <;> try simp -implicitDefEqProofs only [hg,Bool.not_true,Bool.not_false]) | ((with_reducible apply And.intro);focus (first | trivial | omega | decide | (simp -implicitDefEqProofs only [maxLen];omega) | (simp [maxLen,af,ak,an,ax,aj,av,au] <;> omega))) | fail)
  refine (hK _ _ (gI ?_ ?_)).2 <;> rfl
theorem Uf (b p:Int):aG Go.Proofs.Tryz.prog 70 [.rv (.int .i64 b),.rv (.int .i64 p)] [] [] (.aP [.rv (.int .i64 (lD b p)),.rv (.bool (kS b p))]):=by
 by_cases h:0≤b∧b≤1125899906842624∧-1000000≤p∧p≤1000000
 ·obtain ⟨b0,b1,p0,p1⟩:=h
  by_cases hp:p<0
  ·exact Ug b p b0 b1 p0 p1 hp
  ·exact Uh b p b0 b1 p0 p1 hp
 ·refine bt BJ [.rv (.int .i64 b),.rv (.int .i64 p)] _ (by simp) (by simp [aO,aW,bl,aQ,aY,aC.sv,Ln.sv,Nd.sv]) (fun K hK=>?_)
  have e:kS b p=false:=by simp [kS];intro a1 a2 a3 a4;exact absurd ⟨a1,a2,a3,a4⟩ h
  have e2:lD b p=0:=by simp [lD,e]
  rw [e,e2] at hK
  by_cases g1:b<0
  ·have si:decide (b<0)=true:=decide_eq_true g1
   conv in fc _ _ _ _=>reduce
   simp -implicitDefEqProofs only [go_sem,Int.reduceNegSucc]
   repeat' (first | (simp -implicitDefEqProofs only [go_sem,Int.reduceNegSucc,si]) | (with_reducible refine aA ?_) | ((first | refine ai (fun hg=>?_) (fun hg=>?_) | refine ay (fun hg=>?_) (fun hg=>?_) | refine az (fun hg=>?_) (fun hg=>?_)) <;> try simp -implicitDefEqProofs only [hg,Bool.not_true,Bool.not_false]) | ((with_reducible apply And.intro);focus (first | trivial | omega | decide | (simp -implicitDefEqProofs only [maxLen];omega) | (simp [maxLen,af,ak,an,ax,aj,av,au] <;> omega))) | fail)
   refine (hK _ _ (gI ?_ ?_)).2 <;> rfl
  by_cases g2:b>1125899906842624
  ·have si:decide (b<0)=false:=decide_eq_false g1
   have vf:decide (b>1125899906842624)=true:=decide_eq_true g2
   conv in fc _ _ _ _=>reduce
   simp -implicitDefEqProofs only [go_sem,Int.reduceNegSucc]
   repeat' (first | (simp -implicitDefEqProofs only [go_sem,Int.reduceNegSucc,si,vf]) | (with_reducible refine aA ?_) | ((first | refine ai (fun hg=>?_) (fun hg=>?_) | refine ay (fun hg=>?_) (fun hg=>?_) | refine az (fun hg=>?_) (fun hg=>?_)) <;> try simp -implicitDefEqProofs only [hg,Bool.not_true,Bool.not_false]) | ((with_reducible apply And.intro);focus (first | trivial | omega | decide | (simp -implicitDefEqProofs only [maxLen];omega) | (simp [maxLen,af,ak,an,ax,aj,av,au] <;> omega))) | fail)
   refine (hK _ _ (gI ?_ ?_)).2 <;> rfl
  by_cases g3:p < -1000000
  ·have si:decide (b<0)=false:=decide_eq_false g1
   have vf:decide (b>1125899906842624)=false:=decide_eq_false g2
   have AF:decide (p < -1000000)=true:=decide_eq_true g3
   conv in fc _ _ _ _=>reduce
   simp -implicitDefEqProofs only [go_sem,Int.reduceNegSucc]
   repeat' (first | (simp -implicitDefEqProofs only [go_sem,Int.reduceNegSucc,si,vf,AF]) | (with_reducible refine aA ?_) | ((first | refine ai (fun hg=>?_) (fun hg=>?_) | refine ay (fun hg=>?_) (fun hg=>?_) | refine az (fun hg=>?_) (fun hg=>?_)) <;> try simp -implicitDefEqProofs only [hg,Bool.not_true,Bool.not_false]) | ((with_reducible apply And.intro);focus (first | trivial | omega | decide | (simp -implicitDefEqProofs only [maxLen];omega) | (simp [maxLen,af,ak,an,ax,aj,av,au] <;> omega))) | fail)
   refine (hK _ _ (gI ?_ ?_)).2 <;> rfl
  ·have si:decide (b<0)=false:=decide_eq_false g1
   have vf:decide (b>1125899906842624)=false:=decide_eq_false g2
   have AF:decide (p < -1000000)=false:=decide_eq_false g3
   have Lw:decide (p>1000000)=true:=decide_eq_true (by omega)
   conv in fc _ _ _ _=>reduce
   simp -implicitDefEqProofs only [go_sem,Int.reduceNegSucc]
   repeat' (first | (simp -implicitDefEqProofs only [go_sem,Int.reduceNegSucc,si,vf,AF,Lw]) | (with_reducible refine aA ?_) | ((first | refine ai (fun hg=>?_) (fun hg=>?_) | refine ay (fun hg=>?_) (fun hg=>?_) | refine az (fun hg=>?_) (fun hg=>?_)) <;> try simp -implicitDefEqProofs only [hg,Bool.not_true,Bool.not_false]) | ((with_reducible apply And.intro);focus (first | trivial | omega | decide | (simp -implicitDefEqProofs only [maxLen];omega) | (simp [maxLen,af,ak,an,ax,aj,av,au] <;> omega))) | fail)
   refine (hK _ _ (gI ?_ ?_)).2 <;> rfl
end Go.aJ

namespace Go.aJ
open Go
theorem Qc:aT Go.Proofs.Tryz.prog 89 30 (fc Go.Proofs.Tryz.prog 89 30 [(.c 4 8 true),(.t 5)]) [(.c 4 8 true),(.t 5)]:=bn (by kernel_rfl)
theorem Qf:aT Go.Proofs.Tryz.prog 90 9 (fc Go.Proofs.Tryz.prog 90 9 [(.t 4)]) [(.t 4)]:=bn (by kernel_rfl)
theorem Qj:aT Go.Proofs.Tryz.prog 110 19 (fc Go.Proofs.Tryz.prog 110 19 [(.t 4)]) [(.t 4)]:=bn (by kernel_rfl)
theorem PB:aT Go.Proofs.Tryz.prog 61 137 (fc Go.Proofs.Tryz.prog 61 137 [(.c 8 28 true),(.t 9)]) [(.c 8 28 true),(.t 9)]:=bn (by kernel_rfl)
theorem FJ:aT Go.Proofs.Tryz.prog 62 30 (fc Go.Proofs.Tryz.prog 62 30 [(.t 6),(.t 7)]) [(.t 6),(.t 7)]:=bn (by kernel_rfl)
theorem Ow:aT Go.Proofs.Tryz.prog 113 24 (fc Go.Proofs.Tryz.prog 113 24 [(.t 4)]) [(.t 4)]:=bn (by kernel_rfl)
theorem Ox:aT Go.Proofs.Tryz.prog 114 76 (fc Go.Proofs.Tryz.prog 114 76 [(.t 4),(.t 5)]) [(.t 4),(.t 5)]:=bn (by kernel_rfl)
def Q4.ie (q:Q4 Sz):List RV:=[.bool q.a.auto,.int .i64 q.a.n,.bool q.b.auto,.int .i64 q.b.n,.bool q.c.auto,.int .i64 q.c.n,.bool q.d.auto,.int .i64 q.d.n]
def wG (q:Q4 Ln) (b:Int):Q4 Sz:=⟨fR q.a b true,fR q.b b true,fR q.c b true,fR q.d b true⟩
def oH (q:Q4 Ln) (b:Int):Bool:=gQ q.a b true && gQ q.b b true && gQ q.c b true && gQ q.d b true
def mz (q:Q4 Ln) (b:Int):Q4 Sz:=if oH q b=true then wG q b else ⟨⟨false,0⟩,⟨false,0⟩,⟨false,0⟩,⟨false,0⟩⟩
theorem HX (q:Q4 Ln) (b:Int):aG Go.Proofs.Tryz.prog 89 [.agg (q.pI.map .rv),.rv (.int .i64 b)] [] [] (.aP [.agg ((mz q b).ie.map .rv),.rv (.bool (oH q b))]):=by
 refine bt Qc [.agg (q.pI.map .rv),.rv (.int .i64 b)] _ (by simp) (by simp [aO,aW,bl,aQ,aY,aC.sv,Ln.sv,Nd.sv]) (fun K hK=>?_)
 have ha:=ry q.a b true
 have hb:=ry q.b b true
 have hc:=ry q.c b true
 have hd:=ry q.d b true
 conv in fc _ _ _ _=>reduce
 simp -implicitDefEqProofs only [Q4.pI,Ln.sv,Ln.cells,Sz.sv,Sz.cells,go_sem,Int.reduceNegSucc] at *
 repeat' (first | (simp -implicitDefEqProofs only [go_sem,Int.reduceNegSucc]) | (with_reducible refine aA ?_) | ((first | refine ai (fun hg=>?_) (fun hg=>?_) | refine ay (fun hg=>?_) (fun hg=>?_) | refine az (fun hg=>?_) (fun hg=>?_)) <;> try simp -implicitDefEqProofs only [hg,Bool.not_true,Bool.not_false]) | ((with_reducible apply And.intro);focus (first | trivial | omega | decide | (simp -implicitDefEqProofs only [maxLen];omega) | (simp [maxLen,af,ak,an,ax,aj,av,au] <;> omega))) | fail)
 refine jV 5 ?_
 have aS:=ha;have y_2:=hb;have bA:=hc;have bF:=hd;repeat' (first | (simp -implicitDefEqProofs only [go_sem,Int.reduceNegSucc,ke,kf,kg,ki,kj,kk,jR,Int.reduceLT,decide_true,decide_false,Int.reduceToNat,Nat.reduceMul]) | (with_reducible refine aA ?_) | (with_reducible show G _ _ (It.l _ _::_) _ _ _;refine jU ?_) | (with_reducible first | refine ag aS ?_ | refine ah aS ?_) | (with_reducible first | refine ag y_2 ?_ | refine ah y_2 ?_) | (with_reducible first | refine ag bA ?_ | refine ah bA ?_) | (with_reducible first | refine ag bF ?_ | refine ah bF ?_) | ((first | refine ai (fun hg=>?_) (fun hg=>?_) | refine ay (fun hg=>?_) (fun hg=>?_) | refine az (fun hg=>?_) (fun hg=>?_)) <;> try simp -implicitDefEqProofs only [hg,Bool.not_true,Bool.not_false]) | ((with_reducible apply And.intro);focus (first | trivial | omega | decide | (simp -implicitDefEqProofs only [maxLen];omega) | (simp [maxLen,af,ak,an,ax,aj,av,au] <;> omega))) | fail)
 all_goals (refine (hK _ _ ?_).2;clear hK;simp -implicitDefEqProofs only [go_sem,Int.reduceNegSucc,aX,bg,bp,bq,aM,aK,aI,mz,oH,wG,Q4.ie] <;>(try simp_all [-Int.not_lt,-Int.not_le,aM,aK,aI,bG,mz,oH,wG,Q4.ie]) <;> try omega)
def Bz (a b c d e:Bool):Int:=if a=false then 0 else if b=false then 1 else if c=false then 2 else if d=false then 3 else if e=false then 4 else -1
theorem Tm (a b c d e:Bool):aG Go.Proofs.Tryz.prog 110 [.rv (.sl 1 [[.bool a],[.bool b],[.bool c],[.bool d],[.bool e]]),.rv (.bool false)] [] [] (.rv (.int .i64 (Bz a b c d e))):=by
 refine bt Qj [.rv (.sl 1 [[.bool a],[.bool b],[.bool c],[.bool d],[.bool e]]),.rv (.bool false)] _ (by simp) (by simp [aO,aW,bl,aQ,aY,aC.sv,Ln.sv,Nd.sv]) (fun K hK=>?_)
 conv in fc _ _ _ _=>reduce
 simp -implicitDefEqProofs only [go_sem,Int.reduceNegSucc]
 repeat' (first | (simp -implicitDefEqProofs only [go_sem,Int.reduceNegSucc]) | (with_reducible refine aA ?_) | ((first | refine ai (fun hg=>?_) (fun hg=>?_) | refine ay (fun hg=>?_) (fun hg=>?_) | refine az (fun hg=>?_) (fun hg=>?_)) <;> try simp -implicitDefEqProofs only [hg,Bool.not_true,Bool.not_false]) | ((with_reducible apply And.intro);focus (first | trivial | omega | decide | (simp -implicitDefEqProofs only [maxLen];omega) | (simp [maxLen,af,ak,an,ax,aj,av,au] <;> omega))) | fail)
 refine jV 6 ?_
 repeat' (first | (simp -implicitDefEqProofs only [go_sem,Int.reduceNegSucc,ke,kf,kg,ki,kj,kk,jR,Int.reduceLT,decide_true,decide_false,Int.reduceToNat,Nat.reduceMul]) | (with_reducible refine aA ?_) | (with_reducible show G _ _ (It.l _ _::_) _ _ _;refine jU ?_) | ((first | refine ai (fun hg=>?_) (fun hg=>?_) | refine ay (fun hg=>?_) (fun hg=>?_) | refine az (fun hg=>?_) (fun hg=>?_)) <;> try simp -implicitDefEqProofs only [hg,Bool.not_true,Bool.not_false]) | ((with_reducible apply And.intro);focus (first | trivial | omega | decide | (simp -implicitDefEqProofs only [maxLen];omega) | (simp [maxLen,af,ak,an,ax,aj,av,au] <;> omega))) | fail)
 all_goals (refine (hK _ _ (bO ?_)).2;clear hK;simp_all [lk,Bz])
theorem Tf (a b c d e:Bool):aG Go.Proofs.Tryz.prog 90 [.rv (.sl 1 [[.bool a],[.bool b],[.bool c],[.bool d],[.bool e]]),.rv (.bool false)] [] [] (.rv (.bool !(a && b && c && d && e))):=by
 refine bt Qf [.rv (.sl 1 [[.bool a],[.bool b],[.bool c],[.bool d],[.bool e]]),.rv (.bool false)] _ (by simp) (by simp [aO,aW,bl,aQ,aY,aC.sv,Ln.sv,Nd.sv]) (fun K hK=>?_)
 have hi:=Tm a b c d e
 have h5:decide (Bz a b c d e≥0) = !(a && b && c && d && e):=by cases a <;> cases b <;> cases c <;> cases d <;> cases e <;> rfl
 conv in fc _ _ _ _=>reduce
 simp -implicitDefEqProofs only [go_sem,Int.reduceNegSucc]
 have bJ:=hi;repeat' (first | (simp -implicitDefEqProofs only [go_sem,Int.reduceNegSucc,h5]) | (with_reducible refine aA ?_) | (with_reducible first | refine ag bJ ?_ | refine ah bJ ?_) | ((first | refine ai (fun hg=>?_) (fun hg=>?_) | refine ay (fun hg=>?_) (fun hg=>?_) | refine az (fun hg=>?_) (fun hg=>?_)) <;> try simp -implicitDefEqProofs only [hg,Bool.not_true,Bool.not_false]) | ((with_reducible apply And.intro);focus (first | trivial | omega | decide | (simp -implicitDefEqProofs only [maxLen];omega) | (simp [maxLen,af,ak,an,ax,aj,av,au] <;> omega))) | fail)
 exact (hK _ _ (bO rfl)).2
theorem Tg (j v:Nat) (a b c d e:Bool):aG Go.Proofs.Tryz.prog 90 [.win j v 0 5,.rv (.bool false)] [(j,.var [.rv (.bool a),.rv (.bool b),.rv (.bool c),.rv (.bool d),.rv (.bool e)])] [] (.rv (.bool !(a && b && c && d && e))):=by
 refine xF (rs:=[.sl 1 [[.bool a],[.bool b],[.bool c],[.bool d],[.bool e]],.bool false]) (Tf a b c d e) (fun hp hpre=>⟨?_,.rv _,trivial⟩) rfl (.rv _ (.bool _)) (by simp)
 refine .win j v 0 1 5 [.rv (.bool a),.rv (.bool b),.rv (.bool c),.rv (.bool d),.rv (.bool e)] _ rfl (hpre _ (.head _)) rfl (by simp) (by simp) (fun i r k q hi hk=>?_) (fun i r k y q hi hy hk=>?_)
 ·match i,k with
  | 0,0 | 1,0 | 2,0 | 3,0 | 4,0=>cases hi;cases hk;rfl
  | 0,k+1 | 1,k+1 | 2,k+1 | 3,k+1 | 4,k+1=>cases hi;simp at hk
  | i+5,k=>simp at hi
 ·match i,k with
  | 0,0 | 1,0 | 2,0 | 3,0 | 4,0=>cases hi;cases hk;cases hy;exact .rv _
  | 0,k+1 | 1,k+1 | 2,k+1 | 3,k+1 | 4,k+1=>cases hi;simp at hk
  | i+5,k=>simp at hi
structure Ed where
 bB:Q4 Sz
 pad:Q4 Sz
 bw:Q4 Int
 high:Sz
 least:Int
 most:Int
 alone:Bool
 flat:Bool
 nE:Bool
 lC:Bool
def Ed.cells (e:Ed):List RV:=e.bB.ie++e.pad.ie++e.bw.ints++[.bool e.high.auto,.int .i64 e.high.n,.int .i64 e.least,.int .i64 e.most,.bool e.alone,.bool e.flat,.bool e.nE,.bool e.lC]
def rC (s:aC) (w:Int):Bool:=(s.bw.a == 0) && ((mz s.pad w).a.n == 0)
def qB (s:aC) (w:Int):Bool:=(s.bw.c == 0) && ((mz s.pad w).c.n == 0)
def vY (s:aC) (h:Sz):Int:=bf (fR s.jK h.n (!h.auto)) 0
def uW (s:aC) (w:Int) (h:Sz) (alone:Bool):Ed:=
 ⟨mz s.bB w,mz s.pad w,s.bw,fR s.height h.n (!h.auto),vY s h,bf (fR s.jJ h.n (!h.auto)) 1125899906842624,alone,
  !alone && rC s w && qB s w && (vY s h == 0),!alone && rC s w,!alone && qB s w && (fR s.height h.n (!h.auto)).auto && (vY s h == 0)⟩
def rV (s:aC) (w:Int) (h:Sz):Bool:=oH s.bB w && oH s.pad w && gQ s.height h.n (!h.auto) && gQ s.jK h.n (!h.auto) && gQ s.jJ h.n (!h.auto)
theorem TG (s:aC) (w:Int) (h:Sz) (alone:Bool):aG Go.Proofs.Tryz.prog 61 [s.sv,.rv (.int .i64 w),h.sv,.rv (.bool alone)] [] [] (.aP [.agg ((uW s w h alone).cells.map .rv),.rv (.bool (rV s w h))]):=by
 refine bt PB [s.sv,.rv (.int .i64 w),h.sv,.rv (.bool alone)] _ (by simp) (by simp [aO,aW,bl,aQ,aY,aC.sv,Ln.sv,Nd.sv]) (fun K hK=>?_)
 have h1:=HX s.bB w
 have h2:=HX s.pad w
 have h3:=ry s.height h.n (!h.auto)
 have h4:=HV s.jK h.n (!h.auto)
 have h5:=HW s.jJ h.n (!h.auto)
 have h6:=fun j=>Tg j 0 (oH s.bB w) (oH s.pad w) (gQ s.height h.n (!h.auto)) (gQ s.jK h.n (!h.auto)) (gQ s.jJ h.n (!h.auto))
 simp -implicitDefEqProofs only [uW,rC,qB,vY,rV] at hK
 simp -implicitDefEqProofs only [Q4.ie,Sz.sv,Sz.cells,List.map_cons,List.map_nil] at h1 h2 h3 h4 h5
 generalize mz s.bB w=M at *
 generalize mz s.pad w=D at *
 generalize fR s.height h.n (!h.auto)=H at *
 generalize bf (fR s.jK h.n (!h.auto)) 0=L at *
 generalize bf (fR s.jJ h.n (!h.auto)) 1125899906842624=X at *
 conv in fc _ _ _ _=>reduce
 simp -implicitDefEqProofs only [Sz.sv,Sz.cells,go_sem,Int.reduceNegSucc]
 cases alone <;>(have bL:=h1;have bP:=h2;have bT:=h3;have cq:=h4;have cu:=h5;have gf:=h6;repeat' (first | (simp -implicitDefEqProofs only [go_sem,Int.reduceNegSucc,cA,dV,cB,dW,cM,ew,cX,eJ,dr,eV,dF,fk,dG,fm,dH,fo,dI,fq,dJ,fu,cC,dX,cD,dY,cE,dZ,cF,ec,cG,ee,cH,eg,cI,ek,cJ,ep,cK,er,cL,eu,cN,ey,cO,ez,cP,eA,cQ,eC,cR,eD,cS,eE,cT,eF,cU,eG,cV,eH,cW,eI,cY,eK,cZ,eL,dc,eM,de,eN,dg,eO,dh,eP,di,eR,dj,eS,dm,eT,dn,eU,dw,eW,dx,eX,cw,eY,dy,eZ,dz,fe,dA,ff,dB,fh,dD,fj,dP,dK,dL,dM,dN,dO,dQ,dR,dS,dU,cz,cv,af,Q4.ints]) | (with_reducible refine aA ?_) | (with_reducible first | refine ag bL ?_ | refine ah bL ?_) | (with_reducible first | refine ag bP ?_ | refine ah bP ?_) | (with_reducible first | refine ag bT ?_ | refine ah bT ?_) | (with_reducible first | refine ag cq ?_ | refine ah cq ?_) | (with_reducible first | refine ag cu ?_ | refine ah cu ?_) | ((first | refine bR (gf _) ?_ ?_ ?_ | refine cg (gf _) ?_ ?_ ?_ | fail);(focus (simp [aU,aB] <;> fail));(focus (simp [bh,aR] <;> fail))) | ((first | refine ai (fun hg=>?_) (fun hg=>?_) | refine ay (fun hg=>?_) (fun hg=>?_) | refine az (fun hg=>?_) (fun hg=>?_)) <;> try simp -implicitDefEqProofs only [hg,Bool.not_true,Bool.not_false]) | ((with_reducible apply And.intro);focus (first | trivial | omega | decide | (simp -implicitDefEqProofs only [maxLen];omega) | (simp [maxLen,af,ak,an,ax,aj,av,au] <;> omega))) | fail))
 all_goals (refine (hK _ _ ?_).2;clear hK;simp -implicitDefEqProofs only [go_sem,Int.reduceNegSucc,aX,bg,bp,bq,aM,aK,aI,Ed.cells,Q4.ie,Q4.ints] <;>(try simp_all [-Int.not_lt,-Int.not_le,aM,aK,aI,bG,Ed.cells,Q4.ie,Q4.ints]) <;> try omega)
end Go.aJ

namespace Go.aJ
open Go
def We (i j m k:Nat):Option Nat:=if k=j then some i else if k=i then none else if k<m then some k else none
def Wd (i j k:Nat):Nat:=if k=i then j else k
end Go.aJ

namespace Go.aJ
open Go
theorem uQ {P:Program} {f:FuncId} {iO:List SV} {args:List SV} {pre us:List (Nat×HB)} {sv:SV} (H:aG P f iO [] us sv) (hl:args.length=iO.length)
 (hz:∀ hp,aU hp pre→∀ (j:Nat) (y x:SV),args[j]?=some y→iO[j]?=some x→Rn (fun _=>none) hp y x) (hfl:iH sv) (jX:∀ q∈us,oN q.2∧∀ p∈pre,p.1≠q.1):aG P f args pre us sv:=by
 refine ⟨H.1,fun C hp w aa vs hpre hnew R hvl hvs=>?_⟩
 let C2:Ctx:=⟨w,fun b=>aF C aa hp b∨∃ id,(hp id).isSome=true∧aa id=some b,fun _=>False,C.N,fun _=>none,fun _=>none⟩
 have sD:∀ b,C2.wo b→aF C2 (fun _=>none) (fun _=>none) b:=fun b hb=>⟨.inl hb,fun id hid=>by simp at hid⟩
 have R2:cl C2 (fun _=>none) w (fun _=>none):=⟨fun id hb h=>(by cases h),fun i j b h=>(by simp at h),fun i b h=>(by simp at h),⟨rfl,rfl,rfl,Nat.le_refl _,fun b _ _=>rfl⟩,fun id hb hb0 h=>(by cases h)⟩
 have qe:∀ id,id∈us.map (·.1)→hp id=none∧C.h0 id=none:=fun id hid=>by
  obtain ⟨q,hq,rfl⟩:=List.mem_map.1 hid
  rcases hnew q hq with ⟨hb,hm⟩ | h
  ·exact absurd rfl ((jX q hq).2 (q.1,hb) hm)
  ·exact h
 refine (H.2 C2 (fun _=>none) w (fun _=>none) vs (fun q hq=>by simp at hq) (fun q hq=>.inr ⟨rfl,rfl⟩) R2 (by simp [hvl,hl]) (fun j s hj=>?_)).mono ?_
 ·have hlt:=(List.getElem?_eq_some_iff.1 hj).1
  have hy:=List.getElem?_eq_getElem (l:=args) (i:=j) (by omega)
  exact Rp.leave (τ:=fun _=>none) (fun b hb=>sD b (.inl hb)) (fun i b _ hi hb=>sD b (.inr ⟨i,hi,hb⟩)) (fun i hb hi=>R.heap i hb hi) (fun j id h=>by cases h) (hvs j _ hy) (hz hp hpre j _ s hy hj)
 ·rintro e w' ⟨v,aH,rfl,S,hR⟩
  have R':=S.mem
  have iD:∀ b,b<w.heap.size→w'.heap[b]?=w.heap[b]?:=fun b hb=>R'.fr.block b hb (fun h=>h)
  have hsz:w.heap.size≤w'.heap.size:=R'.fr.size
  have qf:∀ id b,id∈us.map (·.1)→aH id=some b→w.heap.size≤b∧b<w'.heap.size:=fun id b hid hb=>by
   obtain ⟨h1,h2⟩:=R'.own id b (nK.2 hid) hb
   rcases h1 with ⟨a,_⟩ | a
   ·cases a
   ·exact ⟨a,h2⟩
  let gp:Nat→Option Nat:=fun id=>if id∈us.map (·.1) then aH id else aa id
  have rT:∀ id,id∈us.map (·.1)→gp id=aH id:=fun id h=>if_pos h
  have rN:∀ id,id∉us.map (·.1)→gp id=aa id:=fun id h=>if_neg h
  have hN:∀ id,id∉us.map (·.1)→bM hp us id=hp id:=fun id h=>zF h
  have hT:∀ id,id∈us.map (·.1)→bM hp us id=bM (fun _=>none) us id:=fun id h=>wO h
  have hs:∀ j,(bM (fun _=>none) us j).isSome=true→bM hp us j=bM (fun _=>none) us j∧gp j=aH j:=fun j hj=>⟨hT j (nK.1 hj),rT j (nK.1 hj)⟩
  have sK:∀ b,aF C aa hp b→b<w.heap.size→aF C gp (bM hp us) b∧w'.heap[b]?=w.heap[b]?:=fun b hb hlt=>by
   refine ⟨⟨hb.1,fun id hid he=>?_⟩,iD b hlt⟩
   by_cases hm:id∈us.map (·.1)
   ·rw [rT id hm] at he
    have:=(qf id b hm he).1;omega
   ·rw [hN id hm] at hid
    rw [rN id hm] at he
    exact hb.2 id hid he
  have E:iW w w' (aF C aa hp) (aF C gp (bM hp us)) aa gp hp (bM hp us):=iW.of sK (fun id hb hq=>by
   have hm:id∉us.map (·.1):=fun hm=>by rw [(qe id hm).1] at hq;cases hq
   refine ⟨hb,by rw [hN id hm];exact hq,?_⟩
   rw [rN id hm]
   cases hb with
   | var cs=>rfl
   | row e aq xs=>exact ⟨Nat.le_refl _,fun _=>⟨rfl,rfl,fun b hb cur t hc=>⟨cur,t,by rw [iD b (R.own id b (by rw [hq];rfl) hb).2];exact hc,rfl⟩⟩⟩)
  refine ⟨v,gp,rfl,⟨⟨fun id hb hq=>?_,fun i j b h1 h2 h3 h4=>?_,fun id b h1 h2=>?_,⟨R'.fr.os.trans R.fr.os,R'.fr.tape.trans R.fr.tape,R'.fr.output.trans R.fr.output,Nat.le_trans R.fr.size hsz,fun b h1 h2=>?_⟩,fun id hb hb0 h1 h2=>?_⟩,E⟩,hR.flat hs hfl⟩
  ·by_cases hm:id∈us.map (·.1)
   ·rw [hT id hm] at hq
    have AY:oN hb:=by
     rcases Iy hq with h | h
     ·cases h
     ·exact (jX _ h).1
    exact (R'.heap id hb hq).flat hs (nK.2 hm) AY
   ·rw [hN id hm] at hq
    rcases R.heap id hb hq with ⟨a1,a2⟩ | ⟨b,cur,t,a1,a2,a3⟩
    ·exact .inl ⟨(rN id hm).trans a1,a2⟩
    ·refine .inr ⟨b,cur,t,(rN id hm).trans a1,?_,a3.mono E⟩
     rw [iD b (R.own id b (by rw [hq];rfl) a1).2];exact a2
  ·by_cases hi:i∈us.map (·.1) <;> by_cases hj:j∈us.map (·.1)
   ·rw [rT i hi] at h3;rw [rT j hj] at h4
    exact R'.inj i j b (nK.2 hi) (nK.2 hj) h3 h4
   ·rw [rT i hi] at h3;rw [rN j hj] at h4;rw [hN j hj] at h2
    have h5:=qf i b hi h3;have h6:=R.own j b h2 h4;omega
   ·rw [rN i hi] at h3;rw [rT j hj] at h4;rw [hN i hi] at h1
    have h5:=qf j b hj h4;have h6:=R.own i b h1 h3;omega
   ·rw [rN i hi] at h3;rw [rN j hj] at h4;rw [hN i hi] at h1;rw [hN j hj] at h2
    exact R.inj i j b h1 h2 h3 h4
  ·by_cases hm:id∈us.map (·.1)
   ·rw [rT id hm] at h2
    obtain ⟨a1,a2⟩:=qf id b hm h2
    exact ⟨.inr (Nat.le_trans R.fr.size a1),a2⟩
   ·rw [hN id hm] at h1;rw [rN id hm] at h2
    obtain ⟨a1,a2⟩:=R.own id b h1 h2
    exact ⟨a1,by omega⟩
  ·rw [iD b (by have:=R.fr.size;omega)];exact R.fr.block b h1 h2
  ·by_cases hm:id∈us.map (·.1)
   ·rw [(qe id hm).2] at h2;cases h2
   ·rw [hN id hm] at h1
    have ev:=R.jF id hb hb0 h1 h2
    obtain ⟨hb',g1,g2⟩:∃ hb',bM hp us id=some hb'∧jt w w' (aa id) (gp id) hb hb':=by
     refine ⟨hb,by rw [hN id hm];exact h1,?_⟩
     rw [rN id hm]
     cases hb with
     | var cs=>rfl
     | row e aq xs=>exact ⟨Nat.le_refl _,fun _=>⟨rfl,rfl,fun b hb cur t hc=>⟨cur,t,by rw [iD b (R.own id b (by rw [h1];rfl) hb).2];exact hc,rfl⟩⟩⟩
    rw [hN id hm,h1] at g1;cases g1
    exact ev.trans g2
theorem tw {n0:Nat} {env:List (Nat×SV)} {h:List (Option HB)} (i0 e o:Nat) {cs:List SV} (hi:aB h i0=some (.var cs)) (ho:cs[o]?=some (.rv .cm)):fS n0 ⟨env,h⟩ ⟨env,aR (aR h (h.length,.row e 0 [])) (i0,.var (cs.set o (.row h.length 0 0)))⟩:=by
 intro C a w R
 obtain ⟨⟨aa,RF⟩,h1,h0⟩:=R
 have hnone:aB h h.length=none:=by unfold aB;rw [List.getElem?_eq_none (Nat.le_refl _)]
 have vg:C.h0 h.length=none:=h0 _ h1
 obtain ⟨aH,S⟩:=RF.mem.Em e hi ho hnone vg
 have kY:=RF.step S
 have hlt:i0<h.length:=by
  apply Classical.byContradiction
  intro hc
  unfold aB at hi
  rw [List.getElem?_eq_none (by omega)] at hi;cases hi
 have e1:=yq (h:=h) (q:=(h.length,.row e 0 [])) (Nat.le_refl _)
 have l1:=uD h (h.length,.row e 0 [])
 have e2:=yq (h:=aR h (h.length,.row e 0 [])) (q:=(i0,.var (cs.set o (.row h.length 0 0)))) (by show i0≤_;omega)
 have l2:=uD (aR h (h.length,.row e 0 [])) (i0,.var (cs.set o (.row h.length 0 0)))
 refine ⟨⟨aH,?_⟩,?_,h0⟩
 ·show jQ C (lk env) (aB (aR (aR h (h.length,.row e 0 [])) (i0,.var (cs.set o (.row h.length 0 0))))) a w aH
  rw [e2,e1];exact kY
 ·have Mm:n0≤h.length:=h1
  show n0≤(aR (aR h (h.length,.row e 0 [])) (i0,.var (cs.set o (.row h.length 0 0)))).length
  omega
end Go.aJ
