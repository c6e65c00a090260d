/- Part 3 of the proof: K3, K4, K5, K6, K7, K8, K9, K10, K11, K12, U1, P1, F1, FK, F2, F3, EngZe, EngZf, F4, F5, F6, F7, F8. -/
import Derived.Test.YtnaoehbodmiekaaFlowApart2
set_option linter.unusedSimpArgs false
set_option linter.unusedVariables false
set_option maxRecDepth 100000
set_option maxHeartbeats 16000000
namespace Go.aI
open Go
theorem Mx:aV Go.Proofs.Try.prog 57 94 (fc Go.Proofs.Try.prog 57 94 [(.t 2)]) [(.t 2)]:=bq (by kernel_rfl)
theorem My:aV Go.Proofs.Try.prog 38 63 (fc Go.Proofs.Try.prog 38 63 [(.t 2)]) [(.t 2)]:=bq (by kernel_rfl)
theorem DB (s:aq) {k:Nat} (h:k<18):∃ o,lI[k]?=some o∧((s.cells.map U.rv).drop o).take 2=((cn s)[k]'h).cells.map U.rv∧o+2≤48:=by
 have:k=0∨k=1∨k=2∨k=3∨k=4∨k=5∨k=6∨k=7∨k=8∨k=9∨k=10∨k=11∨k=12∨k=13∨k=14∨k=15∨k=16∨k=17:=by omega
 rcases this with rfl | rfl | rfl | rfl | rfl | rfl | rfl | rfl | rfl | rfl | rfl | rfl | rfl | rfl | rfl | rfl | rfl | rfl <;> exact ⟨_,rfl,rfl,by decide⟩
theorem Na (s:aq) {k o:Nat} (h:k<18) (ho:lI[k]?=some o):(s.cells.map U.rv)[o]?=some (.rv (.int .i64 ((cn s)[k]'h).kind))∧(s.cells.map U.rv)[o+1]?=some (.rv (.int .i64 ((cn s)[k]'h).n)):=by
 have:k=0∨k=1∨k=2∨k=3∨k=4∨k=5∨k=6∨k=7∨k=8∨k=9∨k=10∨k=11∨k=12∨k=13∨k=14∨k=15∨k=16∨k=17:=by omega
 rcases this with rfl | rfl | rfl | rfl | rfl | rfl | rfl | rfl | rfl | rfl | rfl | rfl | rfl | rfl | rfl | rfl | rfl | rfl <;>(cases ho;exact ⟨rfl,rfl⟩)
theorem Ez {k:Nat} {i o:Nat} (h:lI[k]?=some o):(de i lI)[k]?.getD []=[.ptr i o]:=by
 simp [de,List.getElem?_map,h]
def pT (s:aq):List Ln:=[s.width,s.height,s.fq,s.fo,s.fH,s.fG]
def pK (s:aq) (k:Nat):Bool:=(List.range k).all fun j=>gC (lO s.pad j) (lO s.bA j)
theorem On (s:aq) (k:Nat):pK s (k+1)=(pK s k && gC (lO s.pad k) (lO s.bA k)):=by simp [pK,List.range_succ]
theorem Om (s:aq):pK s 4=(gC s.pad.a s.bA.a && gC s.pad.b s.bA.b && gC s.pad.c s.bA.c && gC s.pad.d s.bA.d):=by
 simp [pK,List.range_succ,lO,Bool.and_assoc]
theorem Fw (s:aq):aK Go.Proofs.Try.prog 57 [s.sv] [] [] (.rv (.bool (ez s))):=by
 refine bG Mx [s.sv] _ (by simp) (by simp [aP,bh,bu,bg,bn,aq.sv,Ln.sv,Nd.sv]) (fun K hK=>?_)
 have bad:∀ e h,lk e 2 = .rv (.bool false)→ez s=false→K .ret ⟨e,h⟩:=fun e h l2 hf=>(hK _ _ (bP (by rw [l2,hf]))).2
 conv in fc _ _ _ _=>reduce
 simp -implicitDefEqProofs only [aq.sv,go_sem,Int.reduceNegSucc]
 refine cC (Fo 0 1 s (by decide)) (by simp [aW,ag]) (by simp [bk,aZ]) ?_
 simp -implicitDefEqProofs only [go_sem,Int.reduceNegSucc]
 refine cK (ι:=Nat) (fun k=>[(10,.rv (.int .i64 k)),(9,.rv (.int .i64 18)),(8,.row 1 13 18),(1,.ptr 0 0)]) (fun k=>[some (.var (s.cells.map .rv)),some (.row 1 13 (de 0 lI))]) (fun k=>k≤18∧((cn s).drop k).all mG=(cn s).all mG) (fun k=>18 - k) 0 (by simp) (bp (by simp [lk])) (fun k hk K' hN hX hR=>?_)
 obtain ⟨cz,hk2⟩:=hk
 simp -implicitDefEqProofs only [go_sem,Int.reduceNegSucc]
 refine ai (fun hg=>?_) (fun hg=>?_)
 ·have av:k<18:=by simp at hg;omega
  obtain ⟨o,ho,tP,JW⟩:=DB s av
  have dF:=Ez (i:=0) ho
  have qE:(de 0 lI).length=18:=rfl
  have br:=Qq ((cn s)[k]'av);repeat' (first | (simp -implicitDefEqProofs only [go_sem,Int.reduceNegSucc,dF,qE,tP]) | (with_reducible refine aA ?_) | (with_reducible first | refine aF br ?_ | refine aG br ?_) | ((first | refine ai (fun hg=>?_) (fun hg=>?_) | refine aB (fun hg=>?_) (fun hg=>?_) | refine aC (fun hg=>?_) (fun hg=>?_)) <;> try simp -implicitDefEqProofs only [hg,Bool.not_true,Bool.not_false]) | ((with_reducible apply And.intro);focus (first | trivial | omega | decide | (simp -implicitDefEqProofs only [maxLen];omega) | (simp [maxLen,an,ak,au,az,aj,ay,ax] <;> omega))) | fail)
  ·refine hR _ _ (bad _ _ rfl ?_)
   simp -implicitDefEqProofs only [ez,mX av hk2 (by simpa using hg),Bool.false_and]
  ·rw [ct (by omega)]
   exact hN (k+1) _ _ ⟨by omega,mY av hk2 (by simpa using hg)⟩ (by omega) (bp (by simp [lk]))
 ·have av:k=18:=by simp at hg;omega
  subst av
  have hall:=mW (by rw [ax];omega) hk2
  simp -implicitDefEqProofs only [go_sem,Int.reduceNegSucc]
  refine hX _ _ _ ?_
  repeat' (first | (simp -implicitDefEqProofs only [go_sem,Int.reduceNegSucc,gH,iY,gI,iZ,gT,jm,ic,jy,iB,jJ,iJ,jS,iK,jT,iL,jU,iM,jV,iN,jW,gJ,ja,gK,jb,gL,jc,gM,jd,gN,je,gO,jf,gP,jg,gQ,jh,gR,ji,gS,jk,gU,jn,gV,jo,gW,jq,gX,jr,gY,js,gZ,jt,hD,ju,hJ,jv,hU,jw,ia,jx,ie,jz,ig,jA,ij,jB,iq,jC,ir,jD,iu,jE,iw,jF,iy,jG,iz,jH,iA,jI,iC,jK,iD,jL,gl,jM,iE,jN,iF,jO,iG,jP,iH,jQ,iI,jR,iT,iO,iP,iQ,iR,iS,iU,iV,iW,iX,gG,gk,an,Ln.cells]) | (with_reducible refine aA ?_) | ((first | refine ai (fun hg=>?_) (fun hg=>?_) | refine aB (fun hg=>?_) (fun hg=>?_) | refine aC (fun hg=>?_) (fun hg=>?_)) <;> try simp -implicitDefEqProofs only [hg,Bool.not_true,Bool.not_false]) | ((with_reducible apply And.intro);focus (first | trivial | omega | decide | (simp -implicitDefEqProofs only [maxLen];omega) | (simp [maxLen,an,ak,au,az,aj,ay,ax] <;> omega))) | fail)
  refine cK (ι:=Nat) (fun k=>[(34,.rv (.int .i64 k)),(33,.rv (.int .i64 6)),(32,.row 2 0 6),(1,.ptr 0 0)]) (fun k=>[some (.var (s.cells.map .rv)),some (.row 1 13 (de 0 lI)),some (.row 2 0 (aH (gA (pT s))))]) (fun k=>k≤6∧((pT s).drop k).all (fun x=>decide (0≤x.n))=(pT s).all (fun x=>decide (0≤x.n))) (fun k=>6 - k) 0 (by simp) (bp (by simp [lk])) (fun k hk K' hN hX hR=>?_)
  obtain ⟨cz,hk2⟩:=hk
  simp -implicitDefEqProofs only [go_sem,Int.reduceNegSucc]
  refine ai (fun hg=>?_) (fun hg=>?_)
  ·have av:k<6:=by simp at hg;omega
   have hx:=zT (l:=pT s) av
   have JR:(gA (pT s)).length=6:=rfl
   repeat' (first | (simp -implicitDefEqProofs only [go_sem,Int.reduceNegSucc,hx,JR,Ln.cells]) | (with_reducible refine aA ?_) | ((first | refine ai (fun hg=>?_) (fun hg=>?_) | refine aB (fun hg=>?_) (fun hg=>?_) | refine aC (fun hg=>?_) (fun hg=>?_)) <;> try simp -implicitDefEqProofs only [hg,Bool.not_true,Bool.not_false]) | ((with_reducible apply And.intro);focus (first | trivial | omega | decide | (simp -implicitDefEqProofs only [maxLen];omega) | (simp [maxLen,an,ak,au,az,aj,ay,ax] <;> omega))) | fail)
   ·refine hR _ _ (bad _ _ rfl ?_)
    simp -implicitDefEqProofs only [ez]
    rw [show [s.width,s.height,s.fq,s.fo,s.fH,s.fG]=pT s from rfl,mX av hk2 (by simp at hg ⊢;omega)]
    simp
   ·rw [ct (by omega)]
    exact hN (k+1) _ _ ⟨by omega,mY av hk2 (by simp at hg ⊢;omega)⟩ (by omega) (rH _ (by simp) (by simp [oq,ag,cO,cR,xC,dH,dA]) (by simp [lk,aS,dI,dg,dA]))
  ·have av:k=6:=by simp at hg;omega
   subst av
   have Jp:=mW (by simp [pT]) hk2
   simp -implicitDefEqProofs only [go_sem,Int.reduceNegSucc]
   refine hX _ _ _ ?_
   repeat' (first | (simp -implicitDefEqProofs only [go_sem,Int.reduceNegSucc]) | (with_reducible refine aA ?_) | ((first | refine ai (fun hg=>?_) (fun hg=>?_) | refine aB (fun hg=>?_) (fun hg=>?_) | refine aC (fun hg=>?_) (fun hg=>?_)) <;> try simp -implicitDefEqProofs only [hg,Bool.not_true,Bool.not_false]) | ((with_reducible apply And.intro);focus (first | trivial | omega | decide | (simp -implicitDefEqProofs only [maxLen];omega) | (simp [maxLen,an,ak,au,az,aj,ay,ax] <;> omega))) | fail)
   refine cK (ι:=Nat) (fun k=>[(42,.rv (.int .i64 k)),(1,.ptr 0 0)]) (fun k=>[some (.var (s.cells.map .rv))]) (fun k=>k≤4∧pK s k=true) (fun k=>4 - k) 0 (by simp [pK]) (rH _ (by simp) (by simp [oq,ag,cO,cR,dA]) (by simp [lk,aS,dI,dg,dA])) (fun k hk K' hN hX hR=>?_)
   obtain ⟨cz,hk2⟩:=hk
   simp -implicitDefEqProofs only [go_sem,Int.reduceNegSucc]
   refine ai (fun hg=>?_) (fun hg=>?_)
   ·have av:k<4:=by simp at hg;omega
    have hn:gC (lO s.pad k) (lO s.bA k)=true→pK s (k+1)=true:=fun h=>by rw [On,hk2,h];rfl
    have hb:gC (lO s.pad k) (lO s.bA k)=false→ez s=false:=fun h=>by
     have:k=0∨k=1∨k=2∨k=3:=by omega
     rcases this with rfl | rfl | rfl | rfl <;> simp_all [ez,lO]
    have:k=0∨k=1∨k=2∨k=3:=by omega
    rcases this with rfl | rfl | rfl | rfl
    all_goals
     repeat' (first | (simp -implicitDefEqProofs only [go_sem,Int.reduceNegSucc,gH,iY,gI,iZ,gT,jm,ic,jy,iB,jJ,iJ,jS,iK,jT,iL,jU,iM,jV,iN,jW,gJ,ja,gK,jb,gL,jc,gM,jd,gN,je,gO,jf,gP,jg,gQ,jh,gR,ji,gS,jk,gU,jn,gV,jo,gW,jq,gX,jr,gY,js,gZ,jt,hD,ju,hJ,jv,hU,jw,ia,jx,ie,jz,ig,jA,ij,jB,iq,jC,ir,jD,iu,jE,iw,jF,iy,jG,iz,jH,iA,jI,iC,jK,iD,jL,gl,jM,iE,jN,iF,jO,iG,jP,iH,jQ,iI,jR,iT,iO,iP,iQ,iR,iS,iU,iV,iW,iX,gG,gk,an]) | (with_reducible refine aA ?_) | ((first | refine ai (fun hg=>?_) (fun hg=>?_) | refine aB (fun hg=>?_) (fun hg=>?_) | refine aC (fun hg=>?_) (fun hg=>?_)) <;> try simp -implicitDefEqProofs only [hg,Bool.not_true,Bool.not_false]) | ((with_reducible apply And.intro);focus (first | trivial | omega | decide | (simp -implicitDefEqProofs only [maxLen];omega) | (simp [maxLen,an,ak,au,az,aj,ay,ax] <;> omega))) | fail)
    all_goals first
     | (refine hR _ _ (bad _ _ rfl (hb ?_));clear hN hX hR hb hn bad hK;simp_all [gC,lO,cj];done)
     | (rw [ct (by omega)];refine hN _ _ _ ⟨by omega,hn ?_⟩ (by omega) (bp (by simp [lk]));clear hN hX hR hb hn bad hK;simp_all [gC,lO,cj];done)
   ·have av:k=4:=by simp at hg;omega
    subst av
    rw [Om] at hk2
    simp -implicitDefEqProofs only [go_sem,Int.reduceNegSucc]
    refine hX _ _ _ ?_
    have fin:∀ e h,lk e 2 = .rv (.bool (ri s))→K .ret ⟨e,h⟩:=fun e h l2=>(hK _ _ (bP (by rw [l2,ez,hall,hk2];rw [show [s.width,s.height,s.fq,s.fo,s.fH,s.fG]=pT s from rfl,Jp];rfl))).2
    clear hK hN hX hR bad
    repeat' (first | (simp -implicitDefEqProofs only [go_sem,Int.reduceNegSucc,gH,iY,gI,iZ,gT,jm,ic,jy,iB,jJ,iJ,jS,iK,jT,iL,jU,iM,jV,iN,jW,gJ,ja,gK,jb,gL,jc,gM,jd,gN,je,gO,jf,gP,jg,gQ,jh,gR,ji,gS,jk,gU,jn,gV,jo,gW,jq,gX,jr,gY,js,gZ,jt,hD,ju,hJ,jv,hU,jw,ia,jx,ie,jz,ig,jA,ij,jB,iq,jC,ir,jD,iu,jE,iw,jF,iy,jG,iz,jH,iA,jI,iC,jK,iD,jL,gl,jM,iE,jN,iF,jO,iG,jP,iH,jQ,iI,jR,iT,iO,iP,iQ,iR,iS,iU,iV,iW,iX,gG,gk,an]) | (with_reducible refine aA ?_) | ((first | refine ai (fun hg=>?_) (fun hg=>?_) | refine aB (fun hg=>?_) (fun hg=>?_) | refine aC (fun hg=>?_) (fun hg=>?_)) <;> try simp -implicitDefEqProofs only [hg,Bool.not_true,Bool.not_false]) | ((with_reducible apply And.intro);focus (first | trivial | omega | decide | (simp -implicitDefEqProofs only [maxLen];omega) | (simp [maxLen,an,ak,au,az,aj,ay,ax] <;> omega))) | fail)
    all_goals (refine fin _ _ ?_;(simp_all [lk,ri,cj]) <;>(try (intros;omega)))
theorem Qp (s:aq):aK Go.Proofs.Try.prog 38 [s.sv] [] [] (.rv (.bool (fI s))):=by
 refine bG My [s.sv] _ (by simp) (by simp [aP,bh,bu,bg,bn,aq.sv,Ln.sv,Nd.sv]) (fun K hK=>?_)
 have bad:∀ e h,lk e 2 = .rv (.bool false)→fI s=false→K .ret ⟨e,h⟩:=fun e h l2 hf=>(hK _ _ (bP (by rw [l2,hf]))).2
 conv in fc _ _ _ _=>reduce
 simp -implicitDefEqProofs only [aq.sv,go_sem,Int.reduceNegSucc]
 refine cC (Fo 0 1 s (by decide)) (by simp [aW,ag]) (by simp [bk,aZ]) ?_
 simp -implicitDefEqProofs only [go_sem,Int.reduceNegSucc]
 refine cK (ι:=Nat) (fun k=>[(9,.rv (.int .i64 k)),(8,.rv (.int .i64 18)),(7,.row 1 13 18),(1,.ptr 0 0)]) (fun k=>[some (.var (s.cells.map .rv)),some (.row 1 13 (de 0 lI))]) (fun k=>k≤18∧((cn s).drop k).all nF=(cn s).all nF) (fun k=>18 - k) 0 (by simp) (bp (by simp [lk])) (fun k hk K' hN hX hR=>?_)
 obtain ⟨cz,hk2⟩:=hk
 simp -implicitDefEqProofs only [go_sem,Int.reduceNegSucc]
 refine ai (fun hg=>?_) (fun hg=>?_)
 ·have av:k<18:=by simp at hg;omega
  obtain ⟨o,ho,tP,JW⟩:=DB s av
  have dF:=Ez (i:=0) ho
  have qE:(de 0 lI).length=18:=rfl
  obtain ⟨hc0,oT⟩:=Na s av ho
  have zm:o<48:=by omega
  have JX:o+1<48:=by omega
  have fM:∀ e h,lk e 2 = .rv (.bool false)→nF ((cn s)[k]'av)=false→K .ret ⟨e,h⟩:=fun e h l2 hf=>bad e h l2 (by simp -implicitDefEqProofs only [fI,mX av hk2 hf,Bool.false_and])
  have nx:∀ e h,nF ((cn s)[k]'av)=true→cI 0 ⟨e,h⟩ ⟨[(9,.rv (.int .i64 (k+1:Nat))),(8,.rv (.int .i64 18)),(7,.row 1 13 18),(1,.ptr 0 0)],[some (.var (s.cells.map .rv)),some (.row 1 13 (de 0 lI))]⟩→K' .normal ⟨e,h⟩:=fun e h hf he=>hN (k+1) _ _ ⟨by omega,mY av hk2 hf⟩ (by omega) he
  have wu:=ct (k:=k) (by omega)
  generalize (cn s)[k]'av=x at *
  have y_2:=AH x.n 1099511627776 (by decide) (by decide);have bS:=AH x.n 1000000 (by decide) (by decide);repeat' (first | (simp -implicitDefEqProofs only [go_sem,Int.reduceNegSucc,dF,qE,hc0,oT,wu]) | (with_reducible refine aA ?_) | (with_reducible first | refine aF y_2 ?_ | refine aG y_2 ?_) | (with_reducible first | refine aF bS ?_ | refine aG bS ?_) | ((first | refine ai (fun hg=>?_) (fun hg=>?_) | refine aB (fun hg=>?_) (fun hg=>?_) | refine aC (fun hg=>?_) (fun hg=>?_)) <;> try simp -implicitDefEqProofs only [hg,Bool.not_true,Bool.not_false]) | ((with_reducible apply And.intro);focus (first | trivial | omega | decide | (simp -implicitDefEqProofs only [maxLen];omega) | (simp [maxLen,an,ak,au,az,aj,ay,ax] <;> omega))) | fail)
  all_goals first
   | (refine hR _ _ (fM _ _ rfl ?_);clear hN hX hR bad fM nx hK;simp_all [nF,cj];done)
   | (refine nx _ _ ?_ (bp (by simp [lk]));clear hN hX hR bad fM nx hK;simp_all [nF,cj];done)
 ·have av:k=18:=by simp at hg;omega
  subst av
  have hall:=mW (by rw [ax];omega) hk2
  simp -implicitDefEqProofs only [go_sem,Int.reduceNegSucc]
  refine hX _ _ _ ?_
  repeat' (first | (simp -implicitDefEqProofs only [go_sem,Int.reduceNegSucc,gH,iY,gI,iZ,gT,jm,ic,jy,iB,jJ,iJ,jS,iK,jT,iL,jU,iM,jV,iN,jW,gJ,ja,gK,jb,gL,jc,gM,jd,gN,je,gO,jf,gP,jg,gQ,jh,gR,ji,gS,jk,gU,jn,gV,jo,gW,jq,gX,jr,gY,js,gZ,jt,hD,ju,hJ,jv,hU,jw,ia,jx,ie,jz,ig,jA,ij,jB,iq,jC,ir,jD,iu,jE,iw,jF,iy,jG,iz,jH,iA,jI,iC,jK,iD,jL,gl,jM,iE,jN,iF,jO,iG,jP,iH,jQ,iI,jR,iT,iO,iP,iQ,iR,iS,iU,iV,iW,iX,gG,gk,an]) | (with_reducible refine aA ?_) | ((first | refine ai (fun hg=>?_) (fun hg=>?_) | refine aB (fun hg=>?_) (fun hg=>?_) | refine aC (fun hg=>?_) (fun hg=>?_)) <;> try simp -implicitDefEqProofs only [hg,Bool.not_true,Bool.not_false]) | ((with_reducible apply And.intro);focus (first | trivial | omega | decide | (simp -implicitDefEqProofs only [maxLen];omega) | (simp [maxLen,an,ak,au,az,aj,ay,ax] <;> omega))) | fail)
  refine cK (ι:=Nat) (fun k=>[(44,.rv (.int .i64 k)),(43,.agg (s.bA.ints.map .rv)),(1,.ptr 0 0)]) (fun k=>[some (.var (s.cells.map .rv))]) (fun k=>k≤4∧(s.bA.list.drop k).all (fun n=>decide (n≤1099511627776))=s.bA.list.all (fun n=>decide (n≤1099511627776))) (fun k=>4 - k) 0 (by simp) (rH _ (by simp) (by simp [oq,ag,cO,cR,dA]) (by simp [lk,aS,dI,dg,aY,cR,dA])) (fun k hk K' hN hX hR=>?_)
  obtain ⟨cz,hk2⟩:=hk
  simp -implicitDefEqProofs only [go_sem,Int.reduceNegSucc]
  refine ai (fun hg=>?_) (fun hg=>?_)
  ·have av:k<4:=by simp at hg;omega
   have hx:(s.bA.ints.map U.rv)[k*1]?.getD .dead = .rv (.int .i64 (s.bA.list[k]'av)):=by
    have:k=0∨k=1∨k=2∨k=3:=by omega
    rcases this with rfl | rfl | rfl | rfl <;> rfl
   have JQ:s.bA.ints.length=4:=rfl
   repeat' (first | (simp -implicitDefEqProofs only [go_sem,Int.reduceNegSucc,hx,JQ]) | (with_reducible refine aA ?_) | ((first | refine ai (fun hg=>?_) (fun hg=>?_) | refine aB (fun hg=>?_) (fun hg=>?_) | refine aC (fun hg=>?_) (fun hg=>?_)) <;> try simp -implicitDefEqProofs only [hg,Bool.not_true,Bool.not_false]) | ((with_reducible apply And.intro);focus (first | trivial | omega | decide | (simp -implicitDefEqProofs only [maxLen];omega) | (simp [maxLen,an,ak,au,az,aj,ay,ax] <;> omega))) | fail)
   ·refine hR _ _ (bad _ _ rfl ?_)
    simp -implicitDefEqProofs only [fI]
    rw [mX (l:=s.bA.list) av hk2 (by simp at hg ⊢;omega)]
    simp
   ·rw [ct (by omega)]
    exact hN (k+1) _ _ ⟨by omega,mY (l:=s.bA.list) av hk2 (by simp at hg ⊢;omega)⟩ (by omega) (bp (by simp [lk]))
  ·have av:k=4:=by simp at hg;omega
   subst av
   have hb:=mW (l:=s.bA.list) (by simp [Q4.list]) hk2
   simp -implicitDefEqProofs only [go_sem,Int.reduceNegSucc]
   refine hX _ _ _ ?_
   have fin:∀ e h,lk e 2 = .rv (.bool (pn s.z 1073741824 && decide (s.back≤16777216) && decide (s.line≤16777216)))→K .ret ⟨e,h⟩:=fun e h l2=>(hK _ _ (bP (by rw [l2,fI,hall,hb];rfl))).2
   clear hK hN hX hR bad
   have bY:=AH s.z 1073741824 (by decide) (by decide);repeat' (first | (simp -implicitDefEqProofs only [go_sem,Int.reduceNegSucc,gH,iY,gI,iZ,gT,jm,ic,jy,iB,jJ,iJ,jS,iK,jT,iL,jU,iM,jV,iN,jW,gJ,ja,gK,jb,gL,jc,gM,jd,gN,je,gO,jf,gP,jg,gQ,jh,gR,ji,gS,jk,gU,jn,gV,jo,gW,jq,gX,jr,gY,js,gZ,jt,hD,ju,hJ,jv,hU,jw,ia,jx,ie,jz,ig,jA,ij,jB,iq,jC,ir,jD,iu,jE,iw,jF,iy,jG,iz,jH,iA,jI,iC,jK,iD,jL,gl,jM,iE,jN,iF,jO,iG,jP,iH,jQ,iI,jR,iT,iO,iP,iQ,iR,iS,iU,iV,iW,iX,gG,gk,an]) | (with_reducible refine aA ?_) | (with_reducible first | refine aF bY ?_ | refine aG bY ?_) | ((first | refine ai (fun hg=>?_) (fun hg=>?_) | refine aB (fun hg=>?_) (fun hg=>?_) | refine aC (fun hg=>?_) (fun hg=>?_)) <;> try simp -implicitDefEqProofs only [hg,Bool.not_true,Bool.not_false]) | ((with_reducible apply And.intro);focus (first | trivial | omega | decide | (simp -implicitDefEqProofs only [maxLen];omega) | (simp [maxLen,an,ak,au,az,aj,ay,ax] <;> omega))) | fail)
   all_goals (refine fin _ _ ?_;(simp_all [lk,cj]) <;>(try (intros;omega)))
end Go.aI

namespace Go.aI
open Go
theorem Ly:aV Go.Proofs.Try.prog 33 31 (fc Go.Proofs.Try.prog 33 31 [(.t 2)]) [(.t 2)]:=bq (by kernel_rfl)
theorem Lx:aV Go.Proofs.Try.prog 32 110 (fc Go.Proofs.Try.prog 32 110 [(.t 2)]) [(.t 2)]:=bq (by kernel_rfl)
theorem LA:aV Go.Proofs.Try.prog 20 89 (fc Go.Proofs.Try.prog 20 89 [(.t 2)]) [(.t 2)]:=bq (by kernel_rfl)
theorem Nt (l:List Ln):∀ x∈gA l,∀ r∈x,r.one=true:=by
 intro x hx r hr
 obtain ⟨n,_,rfl⟩:=List.mem_map.1 hx
 simp [Ln.cells] at hr
 rcases hr with rfl | rfl <;> rfl
theorem Fp (s:aq):aK Go.Proofs.Try.prog 33 [s.sv] [] [] (.rv (.sl 2 (gA (cn s)))):=by
 refine bG Ly [s.sv] _ (by simp) (by simp [aP,bh,bu,bg,bn,aq.sv,Ln.sv,Nd.sv]) (fun K hK=>?_)
 conv in fc _ _ _ _=>reduce
 simp -implicitDefEqProofs only [aq.sv,go_sem,Int.reduceNegSucc]
 repeat' (first | (simp -implicitDefEqProofs only [go_sem,Int.reduceNegSucc,an]) | (with_reducible refine aA ?_) | ((first | refine ai (fun hg=>?_) (fun hg=>?_) | refine aB (fun hg=>?_) (fun hg=>?_) | refine aC (fun hg=>?_) (fun hg=>?_)) <;> try simp -implicitDefEqProofs only [hg,Bool.not_true,Bool.not_false]) | ((with_reducible apply And.intro);focus (first | trivial | omega | decide | (simp -implicitDefEqProofs only [maxLen];omega) | (simp [maxLen,an,ak,au,az,aj,ay,ax] <;> omega))) | fail)
 exact (hK _ _ ⟨trivial,Au (xs:=gA (cn s)) rfl rfl rfl (Nt _)⟩).2
def cT (k:Nat) (x:Ln):Bool:=!(decide (x.kind<0) || decide (x.kind>2) || (decide (x.kind=0) && !decide (x.n=0))) && !((decide (x.n<0) && ((decide (4≤k) && decide (k<10)) || decide (14≤k))) || (decide (14≤k) && decide (x.kind=0)))
def ox (s:aq) (k:Nat):Bool:=(List.range k).all fun j=>cT j ((cn s).getD j default)
theorem NX {s:aq} {k:Nat} (h:k<18):ox s (k+1)=(ox s k && cT k ((cn s)[k]'h)):=by
 have:(cn s).getD k default=(cn s)[k]'h:=by rw [List.getD_eq_getElem?_getD,List.getElem?_eq_getElem h];rfl
 simp -implicitDefEqProofs only [ox,List.range_succ,List.all_append,List.all_cons,List.all_nil,Bool.and_true,this]
theorem NW {s:aq} {k:Nat} (h:k<18) (hf:cT k ((cn s)[k]'h)=false):ox s 18=false:=by
 have:(cn s).getD k default=(cn s)[k]'h:=by rw [List.getD_eq_getElem?_getD,List.getElem?_eq_getElem h];rfl
 rw [Bool.eq_false_iff]
 intro ht
 have:=List.all_eq_true.1 ht k (by simp;omega)
 simp_all
theorem AI (s:aq):ez s=(ox s 18 && (s.bA.list.all fun n=>!decide (n<0)) && ri s):=by
 have:ox s 18=(cT 0 s.off.a && cT 1 s.off.b && cT 2 s.off.c && cT 3 s.off.d && cT 4 s.width && cT 5 s.height && cT 6 s.fq && cT 7 s.fo && cT 8 s.fH && cT 9 s.fG && cT 10 s.bB.a && cT 11 s.bB.b && cT 12 s.bB.c && cT 13 s.bB.d && cT 14 s.pad.a && cT 15 s.pad.b && cT 16 s.pad.c && cT 17 s.pad.d):=by
  simp [ox,List.range_succ,cn,Q4.list,Bool.and_assoc]
 rw [this]
 have e1:∀ k x,(k<4∨(10≤k∧k<14))→cT k x=mG x:=fun k x hk=>by
  have h1:decide (14≤k)=false:=decide_eq_false (by omega)
  have h2:(decide (4≤k) && decide (k<10))=false:=by simp;omega
  simp -implicitDefEqProofs only [cT,mG,h1,h2]
  rw [Bool.eq_iff_iff];simp;omega
 have e2:∀ k x,(4≤k∧k<10)→cT k x=(mG x && decide (0≤x.n)):=fun k x hk=>by
  have h1:decide (14≤k)=false:=decide_eq_false (by omega)
  have h2:(decide (4≤k) && decide (k<10))=true:=by simp;omega
  simp -implicitDefEqProofs only [cT,mG,h1,h2]
  rw [Bool.eq_iff_iff];simp;omega
 have e3:∀ k x,14≤k→cT k x=(mG x && !(decide (x.kind=0) || decide (x.n<0))):=fun k x hk=>by
  have h1:decide (14≤k)=true:=decide_eq_true (by omega)
  simp -implicitDefEqProofs only [cT,mG,h1]
  rw [Bool.eq_iff_iff];simp;omega
 rw [e1 0 _ (by omega),e1 1 _ (by omega),e1 2 _ (by omega),e1 3 _ (by omega),e2 4 _ (by omega),e2 5 _ (by omega),e2 6 _ (by omega),e2 7 _ (by omega),e2 8 _ (by omega),e2 9 _ (by omega),e1 10 _ (by omega),e1 11 _ (by omega),e1 12 _ (by omega),e1 13 _ (by omega),e3 14 _ (by omega),e3 15 _ (by omega),e3 16 _ (by omega),e3 17 _ (by omega)]
 rw [Bool.eq_iff_iff]
 simp -implicitDefEqProofs only [ez,cn,Q4.list,gC,List.all_append,List.all_cons,List.all_nil,Bool.and_true,Bool.and_eq_true,Bool.not_eq_true',Bool.or_eq_false_iff,decide_eq_true_eq,decide_eq_false_iff_not]
 constructor <;>(intro h;simp -implicitDefEqProofs only [h,not_false_eq_true,and_self])
theorem Qg (s:aq):aK Go.Proofs.Try.prog 32 [s.sv] [] [] (.rv (.bool (ez s))):=by
 refine bG Lx [s.sv] _ (by simp) (by simp [aP,bh,bu,bg,bn,aq.sv,Ln.sv,Nd.sv]) (fun K hK=>?_)
 have bad:∀ e h,lk e 2 = .rv (.bool false)→ez s=false→K .ret ⟨e,h⟩:=fun e h l2 hf=>(hK _ _ (bP (by rw [l2,hf]))).2
 conv in fc _ _ _ _=>reduce
 simp -implicitDefEqProofs only [aq.sv,go_sem,Int.reduceNegSucc]
 have br:=Fp s;repeat' (first | (simp -implicitDefEqProofs only [go_sem,Int.reduceNegSucc,gH,iY,gI,iZ,gT,jm,ic,jy,iB,jJ,iJ,jS,iK,jT,iL,jU,iM,jV,iN,jW,gJ,ja,gK,jb,gL,jc,gM,jd,gN,je,gO,jf,gP,jg,gQ,jh,gR,ji,gS,jk,gU,jn,gV,jo,gW,jq,gX,jr,gY,js,gZ,jt,hD,ju,hJ,jv,hU,jw,ia,jx,ie,jz,ig,jA,ij,jB,iq,jC,ir,jD,iu,jE,iw,jF,iy,jG,iz,jH,iA,jI,iC,jK,iD,jL,gl,jM,iE,jN,iF,jO,iG,jP,iH,jQ,iI,jR,iT,iO,iP,iQ,iR,iS,iU,iV,iW,iX,gG,gk,an,az,ax]) | (with_reducible refine aA ?_) | (with_reducible first | refine aF br ?_ | refine aG br ?_) | ((first | refine ai (fun hg=>?_) (fun hg=>?_) | refine aB (fun hg=>?_) (fun hg=>?_) | refine aC (fun hg=>?_) (fun hg=>?_)) <;> try simp -implicitDefEqProofs only [hg,Bool.not_true,Bool.not_false]) | ((with_reducible apply And.intro);focus (first | trivial | omega | decide | (simp -implicitDefEqProofs only [maxLen];omega) | (simp [maxLen,an,ak,au,az,aj,ay,ax] <;> omega))) | fail)
 refine cK (ι:=Nat) (fun k=>[(10,.rv (.int .i64 k)),(9,.rv (.int .i64 18)),(3,.rv (.sl 2 (gA (cn s)))),(1,.ptr 0 0)]) (fun k=>[some (.var (s.cells.map .rv))]) (fun k=>k≤18∧ox s k=true) (fun k=>18 - k) 0 (by simp [ox]) (bp (by simp [lk])) (fun k hk K' hN hX hR=>?_)
 obtain ⟨cz,hk2⟩:=hk
 simp -implicitDefEqProofs only [go_sem,Int.reduceNegSucc]
 refine ai (fun hg=>?_) (fun hg=>?_)
 ·have av:k<18:=by simp at hg;omega
  have hx:=zT (l:=cn s) av
  have fM:∀ e h,lk e 2 = .rv (.bool false)→cT k ((cn s)[k]'av)=false→K .ret ⟨e,h⟩:=fun e h l2 hf=>bad e h l2 (by rw [AI,NW av hf];rfl)
  have nx:∀ e h,cT k ((cn s)[k]'av)=true→cI 0 ⟨e,h⟩ ⟨[(10,.rv (.int .i64 (k+1:Nat))),(9,.rv (.int .i64 18)),(3,.rv (.sl 2 (gA (cn s)))),(1,.ptr 0 0)],[some (.var (s.cells.map .rv))]⟩→K' .normal ⟨e,h⟩:=fun e h hf he=>hN (k+1) _ _ ⟨by omega,by rw [NX av,hk2,hf];rfl⟩ (by omega) he
  have wu:=ct (k:=k) (by omega)
  have rR:(gA (cn s)).length=18:=rfl
  clear hN hX hK bad
  generalize Ku:(cn s)[k]'av=x at *
  repeat' (first | (simp -implicitDefEqProofs only [go_sem,Int.reduceNegSucc,hx,rR,Ln.cells,wu]) | (with_reducible refine aA ?_) | ((first | refine ai (fun hg=>?_) (fun hg=>?_) | refine aB (fun hg=>?_) (fun hg=>?_) | refine aC (fun hg=>?_) (fun hg=>?_)) <;> try simp -implicitDefEqProofs only [hg,Bool.not_true,Bool.not_false]) | ((with_reducible apply And.intro);focus (first | trivial | omega | decide | (simp -implicitDefEqProofs only [maxLen];omega) | (simp [maxLen,an,ak,au,az,aj,ay,ax] <;> omega))) | fail)
  all_goals first
   | (refine hR _ _ (fM _ _ rfl ?_);clear hR fM nx;simp_all [cT,cj];done)
   | (refine nx _ _ ?_ (bp (by simp [lk]));clear hR fM nx;simp_all [cT,cj];done)
   | (refine hR _ _ (fM _ _ rfl ?_);clear hR fM nx;simp_all [cT,cj];omega)
   | (refine nx _ _ ?_ (bp (by simp [lk]));clear hR fM nx;simp_all [cT,cj];omega)
 ·have av:k=18:=by simp at hg;omega
  subst av
  simp -implicitDefEqProofs only [go_sem,Int.reduceNegSucc]
  refine hX _ _ _ ?_
  repeat' (first | (simp -implicitDefEqProofs only [go_sem,Int.reduceNegSucc,gH,iY,gI,iZ,gT,jm,ic,jy,iB,jJ,iJ,jS,iK,jT,iL,jU,iM,jV,iN,jW,gJ,ja,gK,jb,gL,jc,gM,jd,gN,je,gO,jf,gP,jg,gQ,jh,gR,ji,gS,jk,gU,jn,gV,jo,gW,jq,gX,jr,gY,js,gZ,jt,hD,ju,hJ,jv,hU,jw,ia,jx,ie,jz,ig,jA,ij,jB,iq,jC,ir,jD,iu,jE,iw,jF,iy,jG,iz,jH,iA,jI,iC,jK,iD,jL,gl,jM,iE,jN,iF,jO,iG,jP,iH,jQ,iI,jR,iT,iO,iP,iQ,iR,iS,iU,iV,iW,iX,gG,gk,an]) | (with_reducible refine aA ?_) | ((first | refine ai (fun hg=>?_) (fun hg=>?_) | refine aB (fun hg=>?_) (fun hg=>?_) | refine aC (fun hg=>?_) (fun hg=>?_)) <;> try simp -implicitDefEqProofs only [hg,Bool.not_true,Bool.not_false]) | ((with_reducible apply And.intro);focus (first | trivial | omega | decide | (simp -implicitDefEqProofs only [maxLen];omega) | (simp [maxLen,an,ak,au,az,aj,ay,ax] <;> omega))) | fail)
  refine cK (ι:=Nat) (fun k=>[(74,.rv (.int .i64 k)),(1,.ptr 0 0)]) (fun k=>[some (.var (s.cells.map .rv))]) (fun k=>k≤4∧(s.bA.list.drop k).all (fun n=>!decide (n<0))=s.bA.list.all (fun n=>!decide (n<0))) (fun k=>4 - k) 0 (by simp) (bp (by simp [lk])) (fun k hk K' hN hX hR=>?_)
  obtain ⟨cz,dc⟩:=hk
  simp -implicitDefEqProofs only [go_sem,Int.reduceNegSucc]
  refine ai (fun hg=>?_) (fun hg=>?_)
  ·have av:k<4:=by simp at hg;omega
   have hx:(s.cells.map U.rv)[38+k*1]?=some (.rv (.int .i64 (s.bA.list[k]'av))):=by
    have:k=0∨k=1∨k=2∨k=3:=by omega
    rcases this with rfl | rfl | rfl | rfl <;> rfl
   repeat' (first | (simp -implicitDefEqProofs only [go_sem,Int.reduceNegSucc,hx,an]) | (with_reducible refine aA ?_) | ((first | refine ai (fun hg=>?_) (fun hg=>?_) | refine aB (fun hg=>?_) (fun hg=>?_) | refine aC (fun hg=>?_) (fun hg=>?_)) <;> try simp -implicitDefEqProofs only [hg,Bool.not_true,Bool.not_false]) | ((with_reducible apply And.intro);focus (first | trivial | omega | decide | (simp -implicitDefEqProofs only [maxLen];omega) | (simp [maxLen,an,ak,au,az,aj,ay,ax] <;> omega))) | fail)
   ·refine hR _ _ (bad _ _ rfl ?_)
    rw [AI,mX (l:=s.bA.list) av dc (by simp at hg ⊢;omega)]
    simp
   ·rw [ct (by omega)]
    exact hN (k+1) _ _ ⟨by omega,mY (l:=s.bA.list) av dc (by simp at hg ⊢;omega)⟩ (by omega) (bp (by simp [lk]))
  ·have av:k=4:=by simp at hg;omega
   subst av
   have hb:=mW (l:=s.bA.list) (by simp [Q4.list]) dc
   simp -implicitDefEqProofs only [go_sem,Int.reduceNegSucc]
   refine hX _ _ _ ?_
   have fin:∀ e h,lk e 2 = .rv (.bool (ri s))→K .ret ⟨e,h⟩:=fun e h l2=>(hK _ _ (bP (by rw [l2,AI,hk2,hb];rfl))).2
   clear hK hN hX hR bad
   repeat' (first | (simp -implicitDefEqProofs only [go_sem,Int.reduceNegSucc,gH,iY,gI,iZ,gT,jm,ic,jy,iB,jJ,iJ,jS,iK,jT,iL,jU,iM,jV,iN,jW,gJ,ja,gK,jb,gL,jc,gM,jd,gN,je,gO,jf,gP,jg,gQ,jh,gR,ji,gS,jk,gU,jn,gV,jo,gW,jq,gX,jr,gY,js,gZ,jt,hD,ju,hJ,jv,hU,jw,ia,jx,ie,jz,ig,jA,ij,jB,iq,jC,ir,jD,iu,jE,iw,jF,iy,jG,iz,jH,iA,jI,iC,jK,iD,jL,gl,jM,iE,jN,iF,jO,iG,jP,iH,jQ,iI,jR,iT,iO,iP,iQ,iR,iS,iU,iV,iW,iX,gG,gk,an]) | (with_reducible refine aA ?_) | ((first | refine ai (fun hg=>?_) (fun hg=>?_) | refine aB (fun hg=>?_) (fun hg=>?_) | refine aC (fun hg=>?_) (fun hg=>?_)) <;> try simp -implicitDefEqProofs only [hg,Bool.not_true,Bool.not_false]) | ((with_reducible apply And.intro);focus (first | trivial | omega | decide | (simp -implicitDefEqProofs only [maxLen];omega) | (simp [maxLen,an,ak,au,az,aj,ay,ax] <;> omega))) | fail)
   all_goals (refine fin _ _ ?_;(simp_all [lk,ri,cj]) <;>(try (intros;omega)))
def lJ (x:Ln):Bool:=!(((!decide (x.kind=0) && decide (x.kind<3)) && decide (x.kind>0)) && (decide (x.n>if x.kind=2 then 1000000 else 1099511627776) || decide (x.n < - if x.kind=2 then 1000000 else 1099511627776)))
theorem Ns (x:Ln):nF x=lJ x:=by
 rw [Bool.eq_iff_iff]
 unfold nF lJ pn
 by_cases h2:x.kind=2
 ·simp [h2];omega
 ·by_cases h1:x.kind=1
  ·simp [h1];omega
  ·simp [h1,h2];omega
theorem FF (s:aq):fI s=((cn s).all lJ && (s.bA.list.all fun n=>decide (n≤1099511627776)) && (decide (s.z≤1073741824) && decide (s.z≥-1073741824) && decide (s.back≤16777216) && decide (s.line≤16777216))):=by
 unfold fI
 rw [show nF=lJ from funext Ns]
 rw [Bool.eq_iff_iff]
 simp [pn];omega
theorem Qh (s:aq):aK Go.Proofs.Try.prog 20 [s.sv] [] [] (.rv (.bool (fI s))):=by
 refine bG LA [s.sv] _ (by simp) (by simp [aP,bh,bu,bg,bn,aq.sv,Ln.sv,Nd.sv]) (fun K hK=>?_)
 have bad:∀ e h,lk e 2 = .rv (.bool false)→fI s=false→K .ret ⟨e,h⟩:=fun e h l2 hf=>(hK _ _ (bP (by rw [l2,hf]))).2
 conv in fc _ _ _ _=>reduce
 simp -implicitDefEqProofs only [aq.sv,go_sem,Int.reduceNegSucc]
 have y_2:=Fp s;repeat' (first | (simp -implicitDefEqProofs only [go_sem,Int.reduceNegSucc,gH,iY,gI,iZ,gT,jm,ic,jy,iB,jJ,iJ,jS,iK,jT,iL,jU,iM,jV,iN,jW,gJ,ja,gK,jb,gL,jc,gM,jd,gN,je,gO,jf,gP,jg,gQ,jh,gR,ji,gS,jk,gU,jn,gV,jo,gW,jq,gX,jr,gY,js,gZ,jt,hD,ju,hJ,jv,hU,jw,ia,jx,ie,jz,ig,jA,ij,jB,iq,jC,ir,jD,iu,jE,iw,jF,iy,jG,iz,jH,iA,jI,iC,jK,iD,jL,gl,jM,iE,jN,iF,jO,iG,jP,iH,jQ,iI,jR,iT,iO,iP,iQ,iR,iS,iU,iV,iW,iX,gG,gk,an,az,ax]) | (with_reducible refine aA ?_) | (with_reducible first | refine aF y_2 ?_ | refine aG y_2 ?_) | ((first | refine ai (fun hg=>?_) (fun hg=>?_) | refine aB (fun hg=>?_) (fun hg=>?_) | refine aC (fun hg=>?_) (fun hg=>?_)) <;> try simp -implicitDefEqProofs only [hg,Bool.not_true,Bool.not_false]) | ((with_reducible apply And.intro);focus (first | trivial | omega | decide | (simp -implicitDefEqProofs only [maxLen];omega) | (simp [maxLen,an,ak,au,az,aj,ay,ax] <;> omega))) | fail)
 refine cK (ι:=Nat) (fun k=>[(11,.rv (.int .i64 k)),(10,.rv (.int .i64 18)),(3,.rv (.sl 2 (gA (cn s)))),(1,.ptr 0 0)]) (fun k=>[some (.var (s.cells.map .rv))]) (fun k=>k≤18∧((cn s).drop k).all lJ=(cn s).all lJ) (fun k=>18 - k) 0 (by simp) (bp (by simp [lk])) (fun k hk K' hN hX hR=>?_)
 obtain ⟨cz,hk2⟩:=hk
 simp -implicitDefEqProofs only [go_sem,Int.reduceNegSucc]
 refine ai (fun hg=>?_) (fun hg=>?_)
 ·have av:k<18:=by simp at hg;omega
  have hx:=zT (l:=cn s) av
  have fM:∀ e h,lk e 2 = .rv (.bool false)→lJ ((cn s)[k]'av)=false→K .ret ⟨e,h⟩:=fun e h l2 hf=>bad e h l2 (by rw [FF,mX av hk2 hf];rfl)
  have nx:∀ e h,lJ ((cn s)[k]'av)=true→cI 0 ⟨e,h⟩ ⟨[(11,.rv (.int .i64 (k+1:Nat))),(10,.rv (.int .i64 18)),(3,.rv (.sl 2 (gA (cn s)))),(1,.ptr 0 0)],[some (.var (s.cells.map .rv))]⟩→K' .normal ⟨e,h⟩:=fun e h hf he=>hN (k+1) _ _ ⟨by omega,mY av hk2 hf⟩ (by omega) he
  have wu:=ct (k:=k) (by omega)
  have rR:(gA (cn s)).length=18:=rfl
  have w1:=FW (m:=1000000) (by decide) (by decide)
  have w2:=FW (m:=1099511627776) (by decide) (by decide)
  clear hN hX hK bad
  generalize Ku:(cn s)[k]'av=x at *
  repeat' (first | (simp -implicitDefEqProofs only [go_sem,Int.reduceNegSucc,hx,rR,Ln.cells,wu,w1,w2]) | (with_reducible refine aA ?_) | ((first | refine ai (fun hg=>?_) (fun hg=>?_) | refine aB (fun hg=>?_) (fun hg=>?_) | refine aC (fun hg=>?_) (fun hg=>?_)) <;> try simp -implicitDefEqProofs only [hg,Bool.not_true,Bool.not_false]) | ((with_reducible apply And.intro);focus (first | trivial | omega | decide | (simp -implicitDefEqProofs only [maxLen];omega) | (simp [maxLen,an,ak,au,az,aj,ay,ax] <;> omega))) | fail)
  all_goals first
   | (refine hR _ _ (fM _ _ rfl ?_);clear hR fM nx;simp_all [lJ,cj];done)
   | (refine nx _ _ ?_ (bp (by simp [lk]));clear hR fM nx;simp_all [lJ,cj];done)
   | (refine hR _ _ (fM _ _ rfl ?_);clear hR fM nx;simp_all [lJ,cj];omega)
   | (refine nx _ _ ?_ (bp (by simp [lk]));clear hR fM nx;simp_all [lJ,cj];omega)
 ·have av:k=18:=by simp at hg;omega
  subst av
  have hall:=mW (by rw [ax];omega) hk2
  simp -implicitDefEqProofs only [go_sem,Int.reduceNegSucc]
  refine hX _ _ _ ?_
  repeat' (first | (simp -implicitDefEqProofs only [go_sem,Int.reduceNegSucc,gH,iY,gI,iZ,gT,jm,ic,jy,iB,jJ,iJ,jS,iK,jT,iL,jU,iM,jV,iN,jW,gJ,ja,gK,jb,gL,jc,gM,jd,gN,je,gO,jf,gP,jg,gQ,jh,gR,ji,gS,jk,gU,jn,gV,jo,gW,jq,gX,jr,gY,js,gZ,jt,hD,ju,hJ,jv,hU,jw,ia,jx,ie,jz,ig,jA,ij,jB,iq,jC,ir,jD,iu,jE,iw,jF,iy,jG,iz,jH,iA,jI,iC,jK,iD,jL,gl,jM,iE,jN,iF,jO,iG,jP,iH,jQ,iI,jR,iT,iO,iP,iQ,iR,iS,iU,iV,iW,iX,gG,gk,an]) | (with_reducible refine aA ?_) | ((first | refine ai (fun hg=>?_) (fun hg=>?_) | refine aB (fun hg=>?_) (fun hg=>?_) | refine aC (fun hg=>?_) (fun hg=>?_)) <;> try simp -implicitDefEqProofs only [hg,Bool.not_true,Bool.not_false]) | ((with_reducible apply And.intro);focus (first | trivial | omega | decide | (simp -implicitDefEqProofs only [maxLen];omega) | (simp [maxLen,an,ak,au,az,aj,ay,ax] <;> omega))) | fail)
  refine cK (ι:=Nat) (fun k=>[(62,.rv (.int .i64 k)),(1,.ptr 0 0)]) (fun k=>[some (.var (s.cells.map .rv))]) (fun k=>k≤4∧(s.bA.list.drop k).all (fun n=>decide (n≤1099511627776))=s.bA.list.all (fun n=>decide (n≤1099511627776))) (fun k=>4 - k) 0 (by simp) (bp (by simp [lk])) (fun k hk K' hN hX hR=>?_)
  obtain ⟨cz,dc⟩:=hk
  simp -implicitDefEqProofs only [go_sem,Int.reduceNegSucc]
  refine ai (fun hg=>?_) (fun hg=>?_)
  ·have av:k<4:=by simp at hg;omega
   have hx:(s.cells.map U.rv)[38+k*1]?=some (.rv (.int .i64 (s.bA.list[k]'av))):=by
    have:k=0∨k=1∨k=2∨k=3:=by omega
    rcases this with rfl | rfl | rfl | rfl <;> rfl
   repeat' (first | (simp -implicitDefEqProofs only [go_sem,Int.reduceNegSucc,hx,an]) | (with_reducible refine aA ?_) | ((first | refine ai (fun hg=>?_) (fun hg=>?_) | refine aB (fun hg=>?_) (fun hg=>?_) | refine aC (fun hg=>?_) (fun hg=>?_)) <;> try simp -implicitDefEqProofs only [hg,Bool.not_true,Bool.not_false]) | ((with_reducible apply And.intro);focus (first | trivial | omega | decide | (simp -implicitDefEqProofs only [maxLen];omega) | (simp [maxLen,an,ak,au,az,aj,ay,ax] <;> omega))) | fail)
   ·refine hR _ _ (bad _ _ rfl ?_)
    simp -implicitDefEqProofs only [fI]
    rw [mX (l:=s.bA.list) av dc (by simp at hg ⊢;omega)]
    simp
   ·rw [ct (by omega)]
    exact hN (k+1) _ _ ⟨by omega,mY (l:=s.bA.list) av dc (by simp at hg ⊢;omega)⟩ (by omega) (bp (by simp [lk]))
  ·have av:k=4:=by simp at hg;omega
   subst av
   have hb:=mW (l:=s.bA.list) (by simp [Q4.list]) dc
   simp -implicitDefEqProofs only [go_sem,Int.reduceNegSucc]
   refine hX _ _ _ ?_
   have fin:∀ e h,lk e 2 = .rv (.bool (decide (s.z≤1073741824) && decide (s.z≥-1073741824) && decide (s.back≤16777216) && decide (s.line≤16777216)))→K .ret ⟨e,h⟩:=fun e h l2=>(hK _ _ (bP (by rw [l2,FF,hall,hb];rfl))).2
   clear hK hN hX hR bad
   repeat' (first | (simp -implicitDefEqProofs only [go_sem,Int.reduceNegSucc,gH,iY,gI,iZ,gT,jm,ic,jy,iB,jJ,iJ,jS,iK,jT,iL,jU,iM,jV,iN,jW,gJ,ja,gK,jb,gL,jc,gM,jd,gN,je,gO,jf,gP,jg,gQ,jh,gR,ji,gS,jk,gU,jn,gV,jo,gW,jq,gX,jr,gY,js,gZ,jt,hD,ju,hJ,jv,hU,jw,ia,jx,ie,jz,ig,jA,ij,jB,iq,jC,ir,jD,iu,jE,iw,jF,iy,jG,iz,jH,iA,jI,iC,jK,iD,jL,gl,jM,iE,jN,iF,jO,iG,jP,iH,jQ,iI,jR,iT,iO,iP,iQ,iR,iS,iU,iV,iW,iX,gG,gk,an]) | (with_reducible refine aA ?_) | ((first | refine ai (fun hg=>?_) (fun hg=>?_) | refine aB (fun hg=>?_) (fun hg=>?_) | refine aC (fun hg=>?_) (fun hg=>?_)) <;> try simp -implicitDefEqProofs only [hg,Bool.not_true,Bool.not_false]) | ((with_reducible apply And.intro);focus (first | trivial | omega | decide | (simp -implicitDefEqProofs only [maxLen];omega) | (simp [maxLen,an,ak,au,az,aj,ay,ax] <;> omega))) | fail)
   all_goals (refine fin _ _ ?_;(simp_all [lk,cj]) <;>(try (intros;omega)))
end Go.aI

namespace Go.aI
open Go
theorem MH:aV Go.Proofs.Try.prog 56 27 (fc Go.Proofs.Try.prog 56 27 [(.t 4),(.t 5)]) [(.t 4),(.t 5)]:=bq (by kernel_rfl)
theorem MF:aV Go.Proofs.Try.prog 34 39 (fc Go.Proofs.Try.prog 34 39 [(.t 2)]) [(.t 2)]:=bq (by kernel_rfl)
theorem lM (x:Nd):(x.cells.drop 48)[0]?=some (.int .i64 x.parent):=rfl
theorem uB (x:Nd):(x.cells.take 48).map U.rv=x.s.cells.map U.rv:=rfl
theorem Qu (l:List Nd) (k:Nat) (h0:0<k) (hk:k<l.length) (hw:WF l k) (hb:l.length≤8589934592) :
 aK Go.Proofs.Try.prog 56 [.rv (.sl 49 (aQ l)),.rv (.int .i64 k)] [] [] (.aM [.rv (.int .i64 ((kY l k).getD 0:Nat)),.rv (.bool (kY l k).isSome)]):=by
 refine bG MH [.rv (.sl 49 (aQ l)),.rv (.int .i64 k)] _ (by simp) (by simp [aP,bh,bu,bg,bn,aq.sv,Ln.sv,Nd.sv]) (fun K hK=>?_)
 have wd:=sQ h0 (by omega)
 have Ks:=eX hk
 have hlen:=au l
 have hpk:=kz hk
 conv in fc _ _ _ _=>reduce
 simp -implicitDefEqProofs only [wd,go_sem,Int.reduceNegSucc]
 refine cK (ι:=Nat) (fun i=>[(7,.rv (.int .i64 (fC (aN l (k - 1)) i))),(6,.rv (.int .i64 i)),(0,.rv (.sl 49 (aQ l))),(1,.rv (.int .i64 k))]) (fun _=>[]) (fun i=>i≤(aN l (k - 1)).length∧∀ j,(h:j<(aN l (k - 1)).length)→j<i→(((aN l (k - 1))[j]'h:Nat):Int)≠aO l k) (fun i=>(aN l (k - 1)).length - i) 0 (by simp) (by rw [sX];exact bp (by simp [lk])) (fun i hi K' hN hX hR=>?_)
 obtain ⟨hi1,hi2⟩:=hi
 have dF:=sn (l:=l) (k - 1)
 simp -implicitDefEqProofs only [go_sem,Int.reduceNegSucc]
 refine ai (fun hg=>?_) (fun hg=>?_)
 ·have cV:i<(aN l (k - 1)).length:=oI.1 (by simpa using hg)
  have gu:=sW cV
  have hlt:(aN l (k - 1))[i]<k:=xu (by omega) cV
  have hx:=eX (l:=l) (i:=(aN l (k - 1))[i]) (by omega)
  have hpar:=kz (l:=l) (n:=(aN l (k - 1))[i]) (by omega)
  have mq:=xm hw (k - 1) (by omega) i cV
  repeat' (first | (simp -implicitDefEqProofs only [go_sem,Int.reduceNegSucc,Ks,hlen,ak,lM,hpk,gu,hx,hpar,mq]) | (with_reducible refine aA ?_) | ((first | refine ai (fun hg=>?_) (fun hg=>?_) | refine aB (fun hg=>?_) (fun hg=>?_) | refine aC (fun hg=>?_) (fun hg=>?_)) <;> try simp -implicitDefEqProofs only [hg,Bool.not_true,Bool.not_false]) | ((with_reducible apply And.intro);focus (first | trivial | omega | decide | (simp -implicitDefEqProofs only [maxLen];omega) | (simp [maxLen,an,ak,au,az,aj,ay,ax] <;> omega))) | fail)
  ·refine hR _ _ (hK _ _ ?_).2
   rw [QO cV (by simpa using hg) hi2]
   exact kC rfl rfl
  ·rw [ct (by omega)]
   refine hN (i+1) _ _ ⟨by omega,fun j hj hji=>?_⟩ (by omega) (bp (by simp [lk]))
   rcases Nat.lt_or_ge j i with h | h
   ·exact hi2 j hj h
   ·obtain rfl:j=i:=by omega
    simpa using hg
 ·simp -implicitDefEqProofs only [go_sem,Int.reduceNegSucc]
  refine hX _ _ _ ?_
  repeat' (first | (simp -implicitDefEqProofs only [go_sem,Int.reduceNegSucc]) | (with_reducible refine aA ?_) | ((first | refine ai (fun hg=>?_) (fun hg=>?_) | refine aB (fun hg=>?_) (fun hg=>?_) | refine aC (fun hg=>?_) (fun hg=>?_)) <;> try simp -implicitDefEqProofs only [hg,Bool.not_true,Bool.not_false]) | ((with_reducible apply And.intro);focus (first | trivial | omega | decide | (simp -implicitDefEqProofs only [maxLen];omega) | (simp [maxLen,an,ak,au,az,aj,ay,ax] <;> omega))) | fail)
  refine (hK _ _ ?_).2
  have cV:¬ i<(aN l (k - 1)).length:=fun h=>by have:=oI.2 h;simp at hg;omega
  rw [QS fun j hj=>hi2 j hj (by omega)]
  exact kC rfl rfl
theorem Fy (l:List Nd) (hb:l.length≤8589934592):aK Go.Proofs.Try.prog 34 [.rv (.sl 49 (aQ l))] [] [] (.rv (.bool (cN l))):=by
 refine bG MF [.rv (.sl 49 (aQ l))] _ (by simp) (by simp [aP,bh,bu,bg,bn,aq.sv,Ln.sv,Nd.sv]) (fun K hK=>?_)
 have bad:∀ e h,lk e 2 = .rv (.bool false)→cN l=false→K .ret ⟨e,h⟩:=fun e h l2 hf=>(hK _ _ (bP (by rw [l2,hf]))).2
 have hlen:=au l
 conv in fc _ _ _ _=>reduce
 simp -implicitDefEqProofs only [hlen,go_sem,Int.reduceNegSucc]
 by_cases nw:l.length=0
 ·have e0:(((l.length:Nat):Int) == 0)=true:=by simp [nw]
  repeat' (first | (simp -implicitDefEqProofs only [go_sem,Int.reduceNegSucc,e0,hlen]) | (with_reducible refine aA ?_) | ((first | refine ai (fun hg=>?_) (fun hg=>?_) | refine aB (fun hg=>?_) (fun hg=>?_) | refine aC (fun hg=>?_) (fun hg=>?_)) <;> try simp -implicitDefEqProofs only [hg,Bool.not_true,Bool.not_false]) | ((with_reducible apply And.intro);focus (first | trivial | omega | decide | (simp -implicitDefEqProofs only [maxLen];omega) | (simp [maxLen,an,ak,au,az,aj,ay,ax] <;> omega))) | fail)
  exact bad _ _ rfl (by simp [cN,fU,nw])
 ·have e0:(((l.length:Nat):Int) == 0)=false:=by simp [nw]
  have hx0:=eX (l:=l) (i:=0) (by omega)
  have fk:=kz (l:=l) (n:=0) (by omega)
  repeat' (first | (simp -implicitDefEqProofs only [go_sem,Int.reduceNegSucc,e0,hlen,hx0,ak,lM,fk]) | (with_reducible refine aA ?_) | ((first | refine ai (fun hg=>?_) (fun hg=>?_) | refine aB (fun hg=>?_) (fun hg=>?_) | refine aC (fun hg=>?_) (fun hg=>?_)) <;> try simp -implicitDefEqProofs only [hg,Bool.not_true,Bool.not_false]) | ((with_reducible apply And.intro);focus (first | trivial | omega | decide | (simp -implicitDefEqProofs only [maxLen];omega) | (simp [maxLen,an,ak,au,az,aj,ay,ax] <;> omega))) | fail)
  ·exact bad _ _ rfl (by simp [cN,fU];intro _ h;simp at hg;exact absurd h hg)
  ·have tV:aO l 0 = -1:=by simpa using hg
   refine cK (ι:=Nat) (fun k=>[(18,.rv (.int .i64 k)),(17,.rv (.int .i64 l.length)),(0,.rv (.sl 49 (aQ l)))]) (fun _=>[]) (fun k=>k≤l.length∧(∀ j,j<k→eM l j=true)∧((l.drop k).all fun x=>ez x.s)=l.all fun x=>ez x.s) (fun k=>l.length - k) 0 (by simp) (bp (by simp [lk])) (fun k hk K' hN hX hR=>?_)
   obtain ⟨cz,hk2,dc⟩:=hk
   have hw:=FU tV hk2
   simp -implicitDefEqProofs only [go_sem,Int.reduceNegSucc]
   refine ai (fun hg=>?_) (fun hg=>?_)
   ·have av:k<l.length:=by simp at hg;omega
    have hx:=eX av
    have h48:(l[k]'av).cells.drop 0=(l[k]'av).cells:=rfl
    have sZ:eM l k=false→cN l=false:=fun h=>by
     simp -implicitDefEqProofs only [cN,Bool.and_eq_false_iff]
     left
     rw [Bool.eq_false_iff]
     intro ht
     simp -implicitDefEqProofs only [fU,Bool.and_eq_true,List.all_eq_true,List.mem_range] at ht
     have:=ht.2 k av
     rw [h] at this;cases this
    have Ba:ez (l[k]'av).s=false→cN l=false:=fun h=>by
     have:(l.all fun x=>ez x.s)=false:=mX av dc h
     simp -implicitDefEqProofs only [cN,this,Bool.and_false]
    have nx:∀ e h,eM l k=true→ez (l[k]'av).s=true→cI 0 ⟨e,h⟩ ⟨[(18,.rv (.int .i64 (k+1:Nat))),(17,.rv (.int .i64 l.length)),(0,.rv (.sl 49 (aQ l)))],[]⟩→K' .normal ⟨e,h⟩:=fun e h h1 h2 he=>hN (k+1) _ _ ⟨by omega,fun j hj=>by
     rcases Nat.lt_or_ge j k with h | h
     ·exact hk2 j h
     ·obtain rfl:j=k:=by omega
      exact h1,mY av dc h2⟩ (by omega) he
    have wu:=ct (k:=k) (by omega)
    clear hN hX hK
    by_cases cw:0<k
    ·have hn:eM l k=(kY l k).isSome:=by simp [eM];intro h;omega
     have hgt:decide ((k:Int)>0)=true:=decide_eq_true (by omega)
     have br:=Qu l k cw av hw hb;have y_2:=Fw (l[k]'av).s;repeat' (first | (simp -implicitDefEqProofs only [go_sem,Int.reduceNegSucc,hgt,hlen,hx,ak,lM,uB,wu]) | (with_reducible refine aA ?_) | (with_reducible first | refine aF br ?_ | refine aG br ?_) | (with_reducible first | refine aF y_2 ?_ | refine aG y_2 ?_) | ((first | refine ai (fun hg=>?_) (fun hg=>?_) | refine aB (fun hg=>?_) (fun hg=>?_) | refine aC (fun hg=>?_) (fun hg=>?_)) <;> try simp -implicitDefEqProofs only [hg,Bool.not_true,Bool.not_false]) | ((with_reducible apply And.intro);focus (first | trivial | omega | decide | (simp -implicitDefEqProofs only [maxLen];omega) | (simp [maxLen,an,ak,au,az,aj,ay,ax] <;> omega))) | fail)
     all_goals first
      | (refine hR _ _ (bad _ _ rfl (sZ ?_));rw [hn];simpa using hg;done)
      | (refine hR _ _ (bad _ _ rfl (Ba ?_));simpa using hg;done)
      | (refine nx _ _ ?_ ?_ (bp (by simp [lk])) <;> simp_all;done)
    ·obtain rfl:k=0:=by omega
     have hn:eM l 0=true:=by simp [eM]
     have hgt:decide (((0:Nat):Int)>0)=false:=rfl
     have bS:=Fw (l[0]'av).s;repeat' (first | (simp -implicitDefEqProofs only [go_sem,Int.reduceNegSucc,hgt,hlen,hx,ak,lM,uB,wu]) | (with_reducible refine aA ?_) | (with_reducible first | refine aF bS ?_ | refine aG bS ?_) | ((first | refine ai (fun hg=>?_) (fun hg=>?_) | refine aB (fun hg=>?_) (fun hg=>?_) | refine aC (fun hg=>?_) (fun hg=>?_)) <;> try simp -implicitDefEqProofs only [hg,Bool.not_true,Bool.not_false]) | ((with_reducible apply And.intro);focus (first | trivial | omega | decide | (simp -implicitDefEqProofs only [maxLen];omega) | (simp [maxLen,an,ak,au,az,aj,ay,ax] <;> omega))) | fail)
     all_goals first
      | (refine hR _ _ (bad _ _ rfl (Ba ?_));simpa using hg;done)
      | (refine nx _ _ hn ?_ (bp (by simp [lk]));simpa using hg)
   ·have av:k=l.length:=by simp at hg;omega
    subst av
    have hall:=mW (Nat.le_refl _) dc
    have hs:fU l=true:=by
     simp -implicitDefEqProofs only [fU,Bool.and_eq_true,decide_eq_true_eq,List.all_eq_true,List.mem_range]
     exact ⟨⟨by omega,tV⟩,hk2⟩
    simp -implicitDefEqProofs only [go_sem,Int.reduceNegSucc]
    refine hX _ _ _ ?_
    repeat' (first | (simp -implicitDefEqProofs only [go_sem,Int.reduceNegSucc]) | (with_reducible refine aA ?_) | ((first | refine ai (fun hg=>?_) (fun hg=>?_) | refine aB (fun hg=>?_) (fun hg=>?_) | refine aC (fun hg=>?_) (fun hg=>?_)) <;> try simp -implicitDefEqProofs only [hg,Bool.not_true,Bool.not_false]) | ((with_reducible apply And.intro);focus (first | trivial | omega | decide | (simp -implicitDefEqProofs only [maxLen];omega) | (simp [maxLen,an,ak,au,az,aj,ay,ax] <;> omega))) | fail)
    exact (hK _ _ (bP (by rw [cN,hs,hall];rfl))).2
end Go.aI

namespace Go.aI
open Go
theorem Mt:aV Go.Proofs.Try.prog 58 25 (fc Go.Proofs.Try.prog 58 25 [(.t 2)]) [(.t 2)]:=bq (by kernel_rfl)
theorem MG:aV Go.Proofs.Try.prog 35 33 (fc Go.Proofs.Try.prog 35 33 [(.t 2)]) [(.t 2)]:=bq (by kernel_rfl)
theorem ME:aV Go.Proofs.Try.prog 37 7 (fc Go.Proofs.Try.prog 37 7 [(.t 2)]) [(.t 2)]:=bq (by kernel_rfl)
theorem Mq:aV Go.Proofs.Try.prog 59 19 (fc Go.Proofs.Try.prog 59 19 [(.t 4)]) [(.t 4)]:=bq (by kernel_rfl)
theorem Mn:aV Go.Proofs.Try.prog 36 9 (fc Go.Proofs.Try.prog 36 9 [(.t 4)]) [(.t 4)]:=bq (by kernel_rfl)
theorem MD:aV Go.Proofs.Try.prog 22 18 (fc Go.Proofs.Try.prog 22 18 [(.t 2)]) [(.t 2)]:=bq (by kernel_rfl)
def mH (ys:List Int) (m:Int) (k:Nat):Int:=(ys.drop k).foldl (fun a b=>if b>a then b else a) m
theorem NJ {ys:List Int} {m:Int} {k:Nat} (h:k<ys.length):mH ys m k=mH ys (if ys[k]'h>m then ys[k]'h else m) (k+1):=by
 unfold mH;rw [List.drop_eq_getElem_cons h];rfl
theorem NH {ys:List Int} {m:Int} {k:Nat} (h:ys.length≤k):mH ys m k=m:=by
 unfold mH;rw [List.drop_of_length_le h];rfl
theorem PG (ys:List Int) (h0:0<ys.length) (hb:ys.length≤8589934592):aK Go.Proofs.Try.prog 58 [.rv (.sl 1 (aJ ys))] [] [] (.rv (.int .i64 (mH ys (ys[0]'h0) 1))):=by
 refine bG Mt [.rv (.sl 1 (aJ ys))] _ (by simp) (by simp [aP,bh,bu,bg,bn,aq.sv,Ln.sv,Nd.sv]) (fun K hK=>?_)
 have hlen:=aj ys
 have e0:decide (((ys.length:Nat):Int)<1)=false:=decide_eq_false (by omega)
 have hx0:=pz h0
 conv in fc _ _ _ _=>reduce
 simp -implicitDefEqProofs only [go_sem,Int.reduceNegSucc]
 repeat' (first | (simp -implicitDefEqProofs only [go_sem,Int.reduceNegSucc,hlen,e0,hx0]) | (with_reducible refine aA ?_) | ((first | refine ai (fun hg=>?_) (fun hg=>?_) | refine aB (fun hg=>?_) (fun hg=>?_) | refine aC (fun hg=>?_) (fun hg=>?_)) <;> try simp -implicitDefEqProofs only [hg,Bool.not_true,Bool.not_false]) | ((with_reducible apply And.intro);focus (first | trivial | omega | decide | (simp -implicitDefEqProofs only [maxLen];omega) | (simp [maxLen,an,ak,au,az,aj,ay,ax] <;> omega))) | fail)
 refine cK (ι:=Nat×Int) (fun i=>[(4,.rv (.int .i64 i.1)),(3,.rv (.int .i64 i.2)),(0,.rv (.sl 1 (aJ ys)))]) (fun _=>[]) (fun i=>i.1≤ys.length∧mH ys i.2 i.1=mH ys (ys[0]'h0) 1) (fun i=>ys.length - i.1) (1,ys[0]'h0) ⟨by dsimp only;omega,rfl⟩ (bp (by simp [lk])) (fun i hi K' hN hX hR=>?_)
 obtain ⟨k,m⟩:=i
 obtain ⟨cz,hk2⟩:=hi
 dsimp only at cz hk2 ⊢
 simp -implicitDefEqProofs only [hlen,go_sem,Int.reduceNegSucc]
 refine ai (fun hg=>?_) (fun hg=>?_)
 ·have av:k<ys.length:=by simp at hg;omega
  have hx:=pz av
  repeat' (first | (simp -implicitDefEqProofs only [go_sem,Int.reduceNegSucc,hlen,hx]) | (with_reducible refine aA ?_) | ((first | refine ai (fun hg=>?_) (fun hg=>?_) | refine aB (fun hg=>?_) (fun hg=>?_) | refine aC (fun hg=>?_) (fun hg=>?_)) <;> try simp -implicitDefEqProofs only [hg,Bool.not_true,Bool.not_false]) | ((with_reducible apply And.intro);focus (first | trivial | omega | decide | (simp -implicitDefEqProofs only [maxLen];omega) | (simp [maxLen,an,ak,au,az,aj,ay,ax] <;> omega))) | fail)
  rw [ct (by omega)]
  exact hN (k+1,if ys[k]'av>m then ys[k]'av else m) _ _ ⟨by dsimp only;omega,by rw [← hk2];exact (NJ av).symm⟩ (by dsimp only;omega) (bp (by simp [lk]))
 ·simp -implicitDefEqProofs only [go_sem,Int.reduceNegSucc]
  refine hX _ _ _ ?_
  repeat' (first | (simp -implicitDefEqProofs only [go_sem,Int.reduceNegSucc]) | (with_reducible refine aA ?_) | ((first | refine ai (fun hg=>?_) (fun hg=>?_) | refine aB (fun hg=>?_) (fun hg=>?_) | refine aC (fun hg=>?_) (fun hg=>?_)) <;> try simp -implicitDefEqProofs only [hg,Bool.not_true,Bool.not_false]) | ((with_reducible apply And.intro);focus (first | trivial | omega | decide | (simp -implicitDefEqProofs only [maxLen];omega) | (simp [maxLen,an,ak,au,az,aj,ay,ax] <;> omega))) | fail)
  refine (hK _ _ (bP ?_)).2
  rw [← hk2,NH (by simp at hg;omega)];rfl
def bI (l:List Nd) (k:Nat):List Int:=(List.range l.length).map fun j=>if j<k then (depth l j:Int) else 0
theorem rD (l:List Nd) (k:Nat):(bI l k).length=l.length:=by simp [bI]
theorem vK {l:List Nd} {k:Nat} (hk:k<l.length):(bI l k).set k (depth l k)=bI l (k+1):=by
 refine List.ext_getElem (by simp [bI]) (fun i h1 h2=>?_)
 simp -implicitDefEqProofs only [List.getElem_set,bI,List.getElem_map,List.getElem_range]
 by_cases h:k=i
 ·subst h;simp
 ·rw [if_neg h]
  by_cases hi:i<k
  ·rw [if_pos hi,if_pos (by omega)]
  ·rw [if_neg hi,if_neg (by omega)]
theorem yA (l:List Nd):bI l 0=List.replicate l.length 0:=by
 refine List.ext_getElem (by simp [bI]) (fun i h1 h2=>?_)
 simp [bI]
theorem yy {l:List Nd} {k j:Nat} (hj:j<k) (hl:j<l.length):((bI l k).set k 1).getD j 0=depth l j:=by
 rw [List.getD_eq_getElem?_getD,List.getElem?_set_ne (by omega)]
 simp [bI,hl,hj]
theorem yz {l:List Nd} {k:Nat} (hk:k<l.length):((bI l k).set k 1).set k (depth l k)=bI l (k+1):=by
 rw [List.set_set,vK hk]
def tj (l:List Nd):Int:=mH (bI l l.length) ((bI l l.length).getD 0 0) 1
theorem Qt (l:List Nd) (h0:0<l.length) (hw:WF l l.length) (hb:l.length≤8589934592):aK Go.Proofs.Try.prog 35 [.rv (.sl 49 (aQ l))] [] [] (.rv (.int .i64 (tj l))):=by
 refine bG MG [.rv (.sl 49 (aQ l))] _ (by simp) (by simp [aP,bh,bu,bg,bn,aq.sv,Ln.sv,Nd.sv]) (fun K hK=>?_)
 have hlen:=au l
 conv in fc _ _ _ _=>reduce
 simp -implicitDefEqProofs only [go_sem,Int.reduceNegSucc]
 repeat' (first | (simp -implicitDefEqProofs only [go_sem,Int.reduceNegSucc,hlen,uL]) | (with_reducible refine aA ?_) | ((first | refine ai (fun hg=>?_) (fun hg=>?_) | refine aB (fun hg=>?_) (fun hg=>?_) | refine aC (fun hg=>?_) (fun hg=>?_)) <;> try simp -implicitDefEqProofs only [hg,Bool.not_true,Bool.not_false]) | ((with_reducible apply And.intro);focus (first | trivial | omega | decide | (simp -implicitDefEqProofs only [maxLen];omega) | (simp [maxLen,an,ak,au,az,aj,ay,ax] <;> omega))) | fail)
 refine cK (ι:=Nat) (fun k=>[(11,.rv (.int .i64 k)),(10,.rv (.int .i64 l.length)),(9,.rv (.sl 49 (aQ l))),(3,.row 0 0 l.length)]) (fun k=>[some (.row 1 0 (aH (aJ (bI l k))))]) (fun k=>k≤l.length) (fun k=>l.length - k) 0 (by simp) (by rw [yA];exact bp (by simp [lk])) (fun k hk K' hN hX hR=>?_)
 simp -implicitDefEqProofs only [go_sem,Int.reduceNegSucc]
 refine ai (fun hg=>?_) (fun hg=>?_)
 ·have av:k<l.length:=by simp at hg;omega
  have hx:=eX av
  have hdl:=rD l k
  have nq:=fQ (l:=bI l k) (i:=k) (by omega)
  have gd:=aj (bI l k)
  have lE:((bI l k).set k 1).length=l.length:=by simp [hdl]
  have hpk:=kz av
  have wu:=ct (k:=k) (by omega)
  have nx:∀ e,cI 0 ⟨e,[some (.row 1 0 (aH (aJ (bI l (k+1))))),some (.var ((l[k]'av).cells.map .rv))]⟩ ⟨[(11,.rv (.int .i64 (k+1:Nat))),(10,.rv (.int .i64 l.length)),(9,.rv (.sl 49 (aQ l))),(3,.row 0 0 l.length)],[some (.row 1 0 (aH (aJ (bI l (k+1)))))]⟩→K' .normal ⟨e,_⟩:=fun e he=>hN (k+1) _ _ (by omega) (by omega) he
  have hds:=vK av
  have qx:=yz av
  by_cases cw:0<k
  ·have hgt:decide ((k:Int)>0)=true:=decide_eq_true (by omega)
   obtain ⟨p1,p2⟩:=hw.2 k cw av
   obtain ⟨p,hp⟩:∃ p:Nat,aO l k=p:=⟨(aO l k).toNat,by omega⟩
   have nr:=fQ (l:=(bI l k).set k 1) (i:=p) (by omega)
   have qw:=fQ (l:=(bI l k).set k 1) (i:=k) (by omega)
   rw [yy (by omega) (by omega)] at nr
   have qy:=aj ((bI l k).set k 1)
   have oU:=yB hw cw av
   rw [hp,Int.toNat_natCast] at oU
   have wd:=ct (k:=depth l p) (by have:=sn (l:=l) p;unfold depth;omega)
   rw [← oU] at wd
   repeat' (first | (simp -implicitDefEqProofs only [go_sem,Int.reduceNegSucc,hgt,hlen,hx,ak,qM,nG,wu,nq,hdl,gd,kU,hpk,hp,nr,qw,lE,qy,wd,qx]) | (with_reducible refine aA ?_) | ((first | refine ai (fun hg=>?_) (fun hg=>?_) | refine aB (fun hg=>?_) (fun hg=>?_) | refine aC (fun hg=>?_) (fun hg=>?_)) <;> try simp -implicitDefEqProofs only [hg,Bool.not_true,Bool.not_false]) | ((with_reducible apply And.intro);focus (first | trivial | omega | decide | (simp -implicitDefEqProofs only [maxLen];omega) | (simp [maxLen,an,ak,au,az,aj,ay,ax] <;> omega))) | fail)
   exact nx _ (rH _ (by simp) (by simp [oq,ag,cO,dH]) (by simp [lk,aS,dg,dA]))
  ·obtain rfl:k=0:=by omega
   have hgt:decide (((0:Nat):Int)>0)=false:=rfl
   rw [yC] at hds
   repeat' (first | (simp -implicitDefEqProofs only [go_sem,Int.reduceNegSucc,hgt,hlen,hx,ak,qM,nG,wu,nq,hdl,gd,kU]) | (with_reducible refine aA ?_) | ((first | refine ai (fun hg=>?_) (fun hg=>?_) | refine aB (fun hg=>?_) (fun hg=>?_) | refine aC (fun hg=>?_) (fun hg=>?_)) <;> try simp -implicitDefEqProofs only [hg,Bool.not_true,Bool.not_false]) | ((with_reducible apply And.intro);focus (first | trivial | omega | decide | (simp -implicitDefEqProofs only [maxLen];omega) | (simp [maxLen,an,ak,au,az,aj,ay,ax] <;> omega))) | fail)
   rw [show (1:Int)=((1:Nat):Int) from rfl,hds]
   exact nx _ (rH _ (by simp) (by simp [oq,ag,cO,dH]) (by simp [lk,aS,dg,dA]))
 ·have av:k=l.length:=by simp at hg;omega
  subst av
  have hpos:0<(bI l l.length).length:=by rw [rD];exact h0
  have hm:=PG (bI l l.length) hpos (by rw [rD];exact hb)
  have hml:=DD (id:=0) (v:=0) (n:=l.length) (bs:=[]) hm (.int _ _) (by simp [aJ,bI]) (mB _)
  simp -implicitDefEqProofs only [go_sem,Int.reduceNegSucc]
  refine hX _ _ _ ?_
  have br:=hml;repeat' (first | (simp -implicitDefEqProofs only [go_sem,Int.reduceNegSucc]) | (with_reducible refine aA ?_) | (refine cC br ?_ ?_ ?_;(focus (simp [aW,ag] <;> fail));(focus (simp [bk,aZ] <;> fail))) | (refine cZ br ?_ ?_ ?_;(focus (simp [aW,ag] <;> fail));(focus (simp [bk,aZ] <;> fail))) | ((first | refine ai (fun hg=>?_) (fun hg=>?_) | refine aB (fun hg=>?_) (fun hg=>?_) | refine aC (fun hg=>?_) (fun hg=>?_)) <;> try simp -implicitDefEqProofs only [hg,Bool.not_true,Bool.not_false]) | ((with_reducible apply And.intro);focus (first | trivial | omega | decide | (simp -implicitDefEqProofs only [maxLen];omega) | (simp [maxLen,an,ak,au,az,aj,ay,ax] <;> omega))) | fail)
  refine (hK _ _ (bP ?_)).2
  rw [tj,List.getD_eq_getElem?_getD,List.getElem?_eq_getElem hpos];rfl
theorem NI {ys:List Int} {m b:Int} {k:Nat}:mH ys m k≤b↔m≤b∧∀ x∈ys.drop k,x≤b:=by
 unfold mH
 induction ys.drop k generalizing m with
 | nil=>simp
 | cons a r ih=>
   rw [List.foldl_cons,ih]
   by_cases h:a>m
   ·rw [if_pos h];simp;intro _;omega
   ·rw [if_neg h];simp;intro _ _;omega
theorem Hy (l:List Nd) (h0:0<l.length):decide (tj l>256)=(List.range l.length).any (fun k=>decide (depth l k>256)):=by
 have hg:∀ k,k<l.length→(bI l l.length)[k]?=some (depth l k:Int):=fun k hk=>by simp [bI,hk]
 have:tj l≤256↔∀ k,k<l.length→depth l k≤256:=by
  rw [tj,NI]
  constructor
  ·rintro ⟨h1,h2⟩ k hk
   rcases Nat.eq_zero_or_pos k with rfl | cw
   ·rw [List.getD_eq_getElem?_getD,hg 0 hk] at h1;simp at h1;omega
   ·have:=h2 (depth l k) (List.mem_iff_getElem?.2 ⟨k - 1,by rw [List.getElem?_drop,show 1+(k - 1)=k by omega,hg k hk]⟩)
    omega
  ·intro h
   refine ⟨by rw [List.getD_eq_getElem?_getD,hg 0 h0];have:=h 0 h0;simp;omega,fun x hx=>?_⟩
   obtain ⟨i,hi⟩:=List.mem_iff_getElem?.1 hx
   rw [List.getElem?_drop] at hi
   have hlt:1+i<l.length:=by have:=(List.getElem?_eq_some_iff.1 hi).1;rwa [rD] at this
   rw [hg _ hlt] at hi
   have:=h _ hlt
   simp at hi;omega
 rw [Bool.eq_iff_iff]
 simp -implicitDefEqProofs only [decide_eq_true_eq,List.any_eq_true,List.mem_range]
 constructor
 ·intro h
  apply Classical.byContradiction
  intro hn
  have:=this.2 (fun k hk=>by apply Classical.byContradiction;intro h2;exact hn ⟨k,hk,by omega⟩)
  omega
 ·rintro ⟨k,hk,h⟩
  apply Classical.byContradiction
  intro hn
  have:=this.1 (by omega) k hk
  omega
theorem Qs (x:Nd):aK Go.Proofs.Try.prog 37 [x.sv] [] [] (.rv (.bool (!fI x.s))):=by
 refine bG ME [x.sv] _ (by simp) (by simp [aP,bh,bu,bg,bn,aq.sv,Ln.sv,Nd.sv]) (fun K hK=>?_)
 conv in fc _ _ _ _=>reduce
 simp -implicitDefEqProofs only [go_sem,Int.reduceNegSucc]
 have h48:(x.cells.map U.rv).take 48=x.s.cells.map U.rv:=rfl
 have y_2:=Qp x.s;repeat' (first | (simp -implicitDefEqProofs only [go_sem,Int.reduceNegSucc,ak,h48]) | (with_reducible refine aA ?_) | (with_reducible first | refine aF y_2 ?_ | refine aG y_2 ?_) | ((first | refine ai (fun hg=>?_) (fun hg=>?_) | refine aB (fun hg=>?_) (fun hg=>?_) | refine aC (fun hg=>?_) (fun hg=>?_)) <;> try simp -implicitDefEqProofs only [hg,Bool.not_true,Bool.not_false]) | ((with_reducible apply And.intro);focus (first | trivial | omega | decide | (simp -implicitDefEqProofs only [maxLen];omega) | (simp [maxLen,an,ak,au,az,aj,ay,ax] <;> omega))) | fail)
 exact (hK _ _ (bP rfl)).2
theorem PB (l:List Nd) (f:Nat) (p:Nd→Bool) (hf:∀ x:Nd,aK Go.Proofs.Try.prog f [x.sv] [] [] (.rv (.bool (p x)))) (hb:l.length≤8589934592) :
 aK Go.Proofs.Try.prog 59 [.rv (.sl 49 (aQ l)),.fn f []] [] [] (.rv (.int .i64 (match l.findIdx? p with | some i=>((i:Nat):Int) | none=>-1))):=by
 refine bG Mq [.rv (.sl 49 (aQ l)),.fn f []] _ (by simp) (by simp [aP,bh,bu,bg,bn,aq.sv,Ln.sv,Nd.sv]) (fun K hK=>?_)
 have hlen:=au l
 conv in fc _ _ _ _=>reduce
 simp -implicitDefEqProofs only [hlen,go_sem,Int.reduceNegSucc]
 refine cK (ι:=Nat) (fun k=>[(8,.rv (.int .i64 k)),(7,.rv (.int .i64 l.length)),(0,.rv (.sl 49 (aQ l))),(1,.fn f [])]) (fun _=>[]) (fun k=>k≤l.length∧∀ j,(h:j<l.length)→j<k→p (l[j]'h)=false) (fun k=>l.length - k) 0 (by simp) (bp (by simp [lk])) (fun k hk K' hN hX hR=>?_)
 obtain ⟨cz,hk2⟩:=hk
 simp -implicitDefEqProofs only [go_sem,Int.reduceNegSucc]
 refine ai (fun hg=>?_) (fun hg=>?_)
 ·have av:k<l.length:=by simp at hg;omega
  have hx:=eX av
  have bS:=hf (l[k]'av);repeat' (first | (simp -implicitDefEqProofs only [go_sem,Int.reduceNegSucc,hlen,hx,ak,nG]) | (with_reducible refine aA ?_) | (with_reducible first | refine aF bS ?_ | refine aG bS ?_) | ((first | refine ai (fun hg=>?_) (fun hg=>?_) | refine aB (fun hg=>?_) (fun hg=>?_) | refine aC (fun hg=>?_) (fun hg=>?_)) <;> try simp -implicitDefEqProofs only [hg,Bool.not_true,Bool.not_false]) | ((with_reducible apply And.intro);focus (first | trivial | omega | decide | (simp -implicitDefEqProofs only [maxLen];omega) | (simp [maxLen,an,ak,au,az,aj,ay,ax] <;> omega))) | fail)
  ·refine hR _ _ (hK _ _ (bP ?_)).2
   have:l.findIdx? p=some k:=by
    rw [List.findIdx?_eq_some_iff_getElem]
    exact ⟨av,by simpa using hg,fun j hj=>by rw [hk2 j (by omega) hj];simp⟩
   rw [this];rfl
  ·rw [ct (by omega)]
   refine hN (k+1) _ _ ⟨by omega,fun j hj hji=>?_⟩ (by omega) (bp (by simp [lk]))
   rcases Nat.lt_or_ge j k with h | h
   ·exact hk2 j hj h
   ·obtain rfl:j=k:=by omega
    simpa using hg
 ·have av:k=l.length:=by simp at hg;omega
  subst av
  simp -implicitDefEqProofs only [go_sem,Int.reduceNegSucc]
  refine hX _ _ _ ?_
  repeat' (first | (simp -implicitDefEqProofs only [go_sem,Int.reduceNegSucc]) | (with_reducible refine aA ?_) | ((first | refine ai (fun hg=>?_) (fun hg=>?_) | refine aB (fun hg=>?_) (fun hg=>?_) | refine aC (fun hg=>?_) (fun hg=>?_)) <;> try simp -implicitDefEqProofs only [hg,Bool.not_true,Bool.not_false]) | ((with_reducible apply And.intro);focus (first | trivial | omega | decide | (simp -implicitDefEqProofs only [maxLen];omega) | (simp [maxLen,an,ak,au,az,aj,ay,ax] <;> omega))) | fail)
  refine (hK _ _ (bP ?_)).2
  have:l.findIdx? p=none:=by
   rw [List.findIdx?_eq_none_iff]
   intro x hx
   obtain ⟨j,hj,rfl⟩:=List.getElem_of_mem hx
   exact hk2 j hj hj
  rw [this];rfl
theorem Pu (l:List Nd) (f:Nat) (p:Nd→Bool) (hf:∀ x:Nd,aK Go.Proofs.Try.prog f [x.sv] [] [] (.rv (.bool (p x)))) (hb:l.length≤8589934592) :
 aK Go.Proofs.Try.prog 36 [.rv (.sl 49 (aQ l)),.fn f []] [] [] (.rv (.bool (l.any p))):=by
 refine bG Mn [.rv (.sl 49 (aQ l)),.fn f []] _ (by simp) (by simp [aP,bh,bu,bg,bn,aq.sv,Ln.sv,Nd.sv]) (fun K hK=>?_)
 conv in fc _ _ _ _=>reduce
 simp -implicitDefEqProofs only [go_sem,Int.reduceNegSucc]
 have bY:=PB l f p hf hb;repeat' (first | (simp -implicitDefEqProofs only [go_sem,Int.reduceNegSucc]) | (with_reducible refine aA ?_) | (with_reducible first | refine aF bY ?_ | refine aG bY ?_) | ((first | refine ai (fun hg=>?_) (fun hg=>?_) | refine aB (fun hg=>?_) (fun hg=>?_) | refine aC (fun hg=>?_) (fun hg=>?_)) <;> try simp -implicitDefEqProofs only [hg,Bool.not_true,Bool.not_false]) | ((with_reducible apply And.intro);focus (first | trivial | omega | decide | (simp -implicitDefEqProofs only [maxLen];omega) | (simp [maxLen,an,ak,au,az,aj,ay,ax] <;> omega))) | fail)
 refine (hK _ _ (bP ?_)).2
 have:(l.findIdx? p).isSome=l.any p:=List.findIdx?_isSome
 rw [← this]
 cases l.findIdx? p <;> simp [lk]
theorem Fx (l:List Nd) (hb:l.length≤8589934592):aK Go.Proofs.Try.prog 22 [.rv (.sl 49 (aQ l))] [] [] (.rv (.int .i64 (eI l))):=by
 refine bG MD [.rv (.sl 49 (aQ l))] _ (by simp) (by simp [aP,bh,bu,bg,bn,aq.sv,Ln.sv,Nd.sv]) (fun K hK=>?_)
 have hlen:=au l
 conv in fc _ _ _ _=>reduce
 simp -implicitDefEqProofs only [go_sem,Int.reduceNegSucc]
 cases ht:cN l with
 | false=>
   have hc:=Fy l hb
   rw [ht] at hc
   have cu:=hc;repeat' (first | (simp -implicitDefEqProofs only [go_sem,Int.reduceNegSucc]) | (with_reducible refine aA ?_) | (with_reducible first | refine aF cu ?_ | refine aG cu ?_) | ((first | refine ai (fun hg=>?_) (fun hg=>?_) | refine aB (fun hg=>?_) (fun hg=>?_) | refine aC (fun hg=>?_) (fun hg=>?_)) <;> try simp -implicitDefEqProofs only [hg,Bool.not_true,Bool.not_false]) | ((with_reducible apply And.intro);focus (first | trivial | omega | decide | (simp -implicitDefEqProofs only [maxLen];omega) | (simp [maxLen,an,ak,au,az,aj,ay,ax] <;> omega))) | fail)
   exact (hK _ _ (bP (by simp [eI,ht,lk]))).2
 | true=>
   have hc:=Fy l hb
   rw [ht] at hc
   have hs:cA l:=sD.1 (by unfold cN at ht;simp -implicitDefEqProofs only [Bool.and_eq_true] at ht;exact ht.1)
   have hd:=Hy l hs.pos
   have cm:=hc;have cG:=Qt l hs.pos hs.wf hb;have cH:=Pu l 37 (fun x=>!fI x.s) Qs hb;repeat' (first | (simp -implicitDefEqProofs only [go_sem,Int.reduceNegSucc,hlen]) | (with_reducible refine aA ?_) | (with_reducible first | refine aF cm ?_ | refine aG cm ?_) | (with_reducible first | refine aF cG ?_ | refine aG cG ?_) | (with_reducible first | refine aF cH ?_ | refine aG cH ?_) | ((first | refine ai (fun hg=>?_) (fun hg=>?_) | refine aB (fun hg=>?_) (fun hg=>?_) | refine aC (fun hg=>?_) (fun hg=>?_)) <;> try simp -implicitDefEqProofs only [hg,Bool.not_true,Bool.not_false]) | ((with_reducible apply And.intro);focus (first | trivial | omega | decide | (simp -implicitDefEqProofs only [maxLen];omega) | (simp [maxLen,an,ak,au,az,aj,ay,ax] <;> omega))) | fail)
   all_goals (refine (hK _ _ (bP ?_)).2;clear hK;(simp_all [eI,lk]) <;>(try (intros;omega)))
end Go.aI

namespace Go.aI
open Go
theorem LB:aV Go.Proofs.Try.prog 55 17 (fc Go.Proofs.Try.prog 55 17 [(.t 6)]) [(.t 6)]:=bq (by kernel_rfl)
theorem LG:aV Go.Proofs.Try.prog 31 41 (fc Go.Proofs.Try.prog 31 41 [(.t 2)]) [(.t 2)]:=bq (by kernel_rfl)
theorem LF:aV Go.Proofs.Try.prog 19 20 (fc Go.Proofs.Try.prog 19 20 [(.t 2)]) [(.t 2)]:=bq (by kernel_rfl)
theorem LD:aV Go.Proofs.Try.prog 21 16 (fc Go.Proofs.Try.prog 21 16 [(.t 4)]) [(.t 4)]:=bq (by kernel_rfl)
theorem LC:aV Go.Proofs.Try.prog 8 29 (fc Go.Proofs.Try.prog 8 29 [(.t 2)]) [(.t 2)]:=bq (by kernel_rfl)
def nM (l:List Nd) (a:Int) (n:Nat):Bool:=(aN l n).any fun (j:Nat)=>decide ((j:Int)=a)
theorem Gd {l:List Nd} {a:Int} {n i:Nat} (h:i<(aN l n).length) (hp:(((aN l n)[i]'h:Nat):Int)=a):nM l a n=true:=by
 unfold nM;rw [List.any_eq_true];exact ⟨_,List.getElem_mem h,by simpa using hp⟩
theorem Ge {l:List Nd} {a:Int} {n:Nat} (hn:∀ j,(h:j<(aN l n).length)→(((aN l n)[j]'h:Nat):Int)≠a):nM l a n=false:=by
 unfold nM;rw [List.any_eq_false]
 intro x hx
 obtain ⟨j,hj,rfl⟩:=List.getElem_of_mem hx
 simpa using hn j hj
theorem Qi (l:List Nd) (a:Int) (n:Nat) (hw:WF l (n+1)) (hn:n<l.length) (hb:l.length≤8589934592) :
 aK Go.Proofs.Try.prog 55 [.rv (.sl 49 (aQ l)),.rv (.int .i64 a),.rv (.int .i64 n)] [] [] (.rv (.bool (nM l a n))):=by
 refine bG LB [.rv (.sl 49 (aQ l)),.rv (.int .i64 a),.rv (.int .i64 n)] _ (by simp) (by simp [aP,bh,bu,bg,bn,aq.sv,Ln.sv,Nd.sv]) (fun K hK=>?_)
 have hlen:=au l
 conv in fc _ _ _ _=>reduce
 simp -implicitDefEqProofs only [go_sem,Int.reduceNegSucc]
 refine cK (ι:=Nat) (fun i=>[(2,.rv (.int .i64 (fC (aN l n) i))),(0,.rv (.sl 49 (aQ l))),(1,.rv (.int .i64 a))]) (fun _=>[]) (fun i=>i≤(aN l n).length∧∀ j,(h:j<(aN l n).length)→j<i→(((aN l n)[j]'h:Nat):Int)≠a) (fun i=>(aN l n).length - i) 0 (by simp) (by rw [sX];exact bp (by simp [lk])) (fun i hi K' hN hX hR=>?_)
 obtain ⟨hi1,hi2⟩:=hi
 have dF:=sn (l:=l) n
 simp -implicitDefEqProofs only [go_sem,Int.reduceNegSucc]
 refine ai (fun hg=>?_) (fun hg=>?_)
 ·have cV:i<(aN l n).length:=oI.1 (by simpa using hg)
  have gu:=sW cV
  have hlt:(aN l n)[i]<n+1:=xu (by omega) cV
  have hx:=eX (l:=l) (i:=(aN l n)[i]) (by omega)
  have hpar:=kz (l:=l) (n:=(aN l n)[i]) (by omega)
  have mq:=xm hw n (by omega) i cV
  repeat' (first | (simp -implicitDefEqProofs only [go_sem,Int.reduceNegSucc,hlen,ak,lM,gu,hx,hpar,mq]) | (with_reducible refine aA ?_) | ((first | refine ai (fun hg=>?_) (fun hg=>?_) | refine aB (fun hg=>?_) (fun hg=>?_) | refine aC (fun hg=>?_) (fun hg=>?_)) <;> try simp -implicitDefEqProofs only [hg,Bool.not_true,Bool.not_false]) | ((with_reducible apply And.intro);focus (first | trivial | omega | decide | (simp -implicitDefEqProofs only [maxLen];omega) | (simp [maxLen,an,ak,au,az,aj,ay,ax] <;> omega))) | fail)
  ·exact hR _ _ (hK _ _ (bP (by rw [Gd cV (by simpa using hg)];rfl))).2
  ·refine hN (i+1) _ _ ⟨by omega,fun j hj hji=>?_⟩ (by omega) (bp (by simp [lk]))
   rcases Nat.lt_or_ge j i with h | h
   ·exact hi2 j hj h
   ·obtain rfl:j=i:=by omega
    simpa using hg
 ·have cV:¬ i<(aN l n).length:=fun h=>by have:=oI.2 h;simp at hg;omega
  simp -implicitDefEqProofs only [go_sem,Int.reduceNegSucc]
  refine hX _ _ _ ?_
  repeat' (first | (simp -implicitDefEqProofs only [go_sem,Int.reduceNegSucc]) | (with_reducible refine aA ?_) | ((first | refine ai (fun hg=>?_) (fun hg=>?_) | refine aB (fun hg=>?_) (fun hg=>?_) | refine aC (fun hg=>?_) (fun hg=>?_)) <;> try simp -implicitDefEqProofs only [hg,Bool.not_true,Bool.not_false]) | ((with_reducible apply And.intro);focus (first | trivial | omega | decide | (simp -implicitDefEqProofs only [maxLen];omega) | (simp [maxLen,an,ak,au,az,aj,ay,ax] <;> omega))) | fail)
  exact (hK _ _ (bP (by rw [Ge fun j hj=>hi2 j hj (by omega)];rfl))).2
theorem NR {l:List Nd} {k:Nat} (hk:0<k):eM l k=(!(decide (aO l k<0) || decide (aO l k≥k) || !nM l (aO l k) (k - 1))):=by
 have h1:eM l k=nM l (aO l k) (k - 1):=by
  have:decide (k=0)=false:=decide_eq_false (by omega)
  simp -implicitDefEqProofs only [eM,this,Bool.false_or,kY,nM,List.findIdx?_isSome]
 rw [h1]
 cases h:nM l (aO l k) (k - 1) with
 | false=>simp
 | true=>
   rw [← h1] at h
   have cw:¬ k=0:=by omega
   simp [eM,cw] at h
   obtain ⟨a,b,_⟩:=AQ h
   simp;omega
theorem Qm (l:List Nd) (hb:l.length≤8589934592):aK Go.Proofs.Try.prog 31 [.rv (.sl 49 (aQ l))] [] [] (.rv (.bool (fU l))):=by
 refine bG LG [.rv (.sl 49 (aQ l))] _ (by simp) (by simp [aP,bh,bu,bg,bn,aq.sv,Ln.sv,Nd.sv]) (fun K hK=>?_)
 have bad:∀ e h,lk e 2 = .rv (.bool false)→fU l=false→K .ret ⟨e,h⟩:=fun e h l2 hf=>(hK _ _ (bP (by rw [l2,hf]))).2
 have hlen:=au l
 conv in fc _ _ _ _=>reduce
 simp -implicitDefEqProofs only [hlen,go_sem,Int.reduceNegSucc]
 by_cases nw:l.length=0
 ·have e0:(((l.length:Nat):Int) == 0)=true:=by simp [nw]
  repeat' (first | (simp -implicitDefEqProofs only [go_sem,Int.reduceNegSucc,e0,hlen]) | (with_reducible refine aA ?_) | ((first | refine ai (fun hg=>?_) (fun hg=>?_) | refine aB (fun hg=>?_) (fun hg=>?_) | refine aC (fun hg=>?_) (fun hg=>?_)) <;> try simp -implicitDefEqProofs only [hg,Bool.not_true,Bool.not_false]) | ((with_reducible apply And.intro);focus (first | trivial | omega | decide | (simp -implicitDefEqProofs only [maxLen];omega) | (simp [maxLen,an,ak,au,az,aj,ay,ax] <;> omega))) | fail)
  exact bad _ _ rfl (by simp [fU,nw])
 ·have e0:(((l.length:Nat):Int) == 0)=false:=by simp [nw]
  have hx0:=eX (l:=l) (i:=0) (by omega)
  have fk:=kz (l:=l) (n:=0) (by omega)
  repeat' (first | (simp -implicitDefEqProofs only [go_sem,Int.reduceNegSucc,e0,hlen,hx0,ak,lM,fk]) | (with_reducible refine aA ?_) | ((first | refine ai (fun hg=>?_) (fun hg=>?_) | refine aB (fun hg=>?_) (fun hg=>?_) | refine aC (fun hg=>?_) (fun hg=>?_)) <;> try simp -implicitDefEqProofs only [hg,Bool.not_true,Bool.not_false]) | ((with_reducible apply And.intro);focus (first | trivial | omega | decide | (simp -implicitDefEqProofs only [maxLen];omega) | (simp [maxLen,an,ak,au,az,aj,ay,ax] <;> omega))) | fail)
  ·exact bad _ _ rfl (by simp [fU];intro _ h;simp at hg;exact absurd h hg)
  ·have tV:aO l 0 = -1:=by simpa using hg
   refine cK (ι:=Nat) (fun k=>[(3,.rv (.int .i64 k)),(0,.rv (.sl 49 (aQ l)))]) (fun _=>[]) (fun k=>0<k∧k≤l.length∧(∀ j,j<k→eM l j=true)) (fun k=>l.length - k) 1 ⟨by omega,by omega,fun j hj=>by simp [eM];omega⟩ (bp (by simp [lk])) (fun k hk K' hN hX hR=>?_)
   obtain ⟨cw,cz,hk2⟩:=hk
   have hw:=FU tV hk2
   simp -implicitDefEqProofs only [hlen,go_sem,Int.reduceNegSucc]
   refine ai (fun hg=>?_) (fun hg=>?_)
   ·have av:k<l.length:=by simp at hg;omega
    have hx:=eX av
    have hpk:=kz av
    have wd:=sQ cw (by omega)
    have wu:=ct (k:=k) (by omega)
    have wE:=NR (l:=l) cw
    have sZ:eM l k=false→fU l=false:=fun h=>by
     rw [Bool.eq_false_iff]
     intro ht
     simp -implicitDefEqProofs only [fU,Bool.and_eq_true,List.all_eq_true,List.mem_range] at ht
     have:=ht.2 k av
     rw [h] at this;cases this
    have nx:∀ e h,eM l k=true→cI 0 ⟨e,h⟩ ⟨[(3,.rv (.int .i64 (k+1:Nat))),(0,.rv (.sl 49 (aQ l)))],[]⟩→K' .normal ⟨e,h⟩:=fun e h h1 he=>hN (k+1) _ _ ⟨by omega,by omega,fun j hj=>by
     rcases Nat.lt_or_ge j k with h | h
     ·exact hk2 j h
     ·obtain rfl:j=k:=by omega
      exact h1⟩ (by omega) he
    have hwk:WF l (k - 1+1):=by rw [show k - 1+1=k by omega];exact hw
    have br:=Qi l (aO l k) (k - 1) hwk (by omega) hb;repeat' (first | (simp -implicitDefEqProofs only [go_sem,Int.reduceNegSucc,hlen,hx,hpk,ak,lM,wd,wu]) | (with_reducible refine aA ?_) | (with_reducible first | refine aF br ?_ | refine aG br ?_) | ((first | refine ai (fun hg=>?_) (fun hg=>?_) | refine aB (fun hg=>?_) (fun hg=>?_) | refine aC (fun hg=>?_) (fun hg=>?_)) <;> try simp -implicitDefEqProofs only [hg,Bool.not_true,Bool.not_false]) | ((with_reducible apply And.intro);focus (first | trivial | omega | decide | (simp -implicitDefEqProofs only [maxLen];omega) | (simp [maxLen,an,ak,au,az,aj,ay,ax] <;> omega))) | fail)
    all_goals first
     | (refine hR _ _ (bad _ _ rfl (sZ ?_));rw [wE];clear wE sZ nx hK hN hX hR bad;simp_all;done)
     | (refine nx _ _ ?_ (bp (by simp [lk]));rw [wE];clear wE sZ nx hK hN hX hR bad;(simp_all) <;> omega)
   ·have av:k=l.length:=by simp at hg;omega
    subst av
    simp -implicitDefEqProofs only [go_sem,Int.reduceNegSucc]
    refine hX _ _ _ ?_
    repeat' (first | (simp -implicitDefEqProofs only [go_sem,Int.reduceNegSucc]) | (with_reducible refine aA ?_) | ((first | refine ai (fun hg=>?_) (fun hg=>?_) | refine aB (fun hg=>?_) (fun hg=>?_) | refine aC (fun hg=>?_) (fun hg=>?_)) <;> try simp -implicitDefEqProofs only [hg,Bool.not_true,Bool.not_false]) | ((with_reducible apply And.intro);focus (first | trivial | omega | decide | (simp -implicitDefEqProofs only [maxLen];omega) | (simp [maxLen,an,ak,au,az,aj,ay,ax] <;> omega))) | fail)
    refine (hK _ _ (bP ?_)).2
    have hs:fU l=true:=by
     simp -implicitDefEqProofs only [fU,Bool.and_eq_true,decide_eq_true_eq,List.all_eq_true,List.mem_range]
     exact ⟨⟨by omega,tV⟩,hk2⟩
    rw [hs];rfl
theorem Ql (l:List Nd) (hb:l.length≤8589934592):aK Go.Proofs.Try.prog 19 [.rv (.sl 49 (aQ l))] [] [] (.rv (.bool (cN l))):=by
 refine bG LF [.rv (.sl 49 (aQ l))] _ (by simp) (by simp [aP,bh,bu,bg,bn,aq.sv,Ln.sv,Nd.sv]) (fun K hK=>?_)
 have bad:∀ e h,lk e 2 = .rv (.bool false)→cN l=false→K .ret ⟨e,h⟩:=fun e h l2 hf=>(hK _ _ (bP (by rw [l2,hf]))).2
 have hlen:=au l
 conv in fc _ _ _ _=>reduce
 simp -implicitDefEqProofs only [go_sem,Int.reduceNegSucc]
 have y_2:=Qm l hb;repeat' (first | (simp -implicitDefEqProofs only [go_sem,Int.reduceNegSucc]) | (with_reducible refine aA ?_) | (with_reducible first | refine aF y_2 ?_ | refine aG y_2 ?_) | ((first | refine ai (fun hg=>?_) (fun hg=>?_) | refine aB (fun hg=>?_) (fun hg=>?_) | refine aC (fun hg=>?_) (fun hg=>?_)) <;> try simp -implicitDefEqProofs only [hg,Bool.not_true,Bool.not_false]) | ((with_reducible apply And.intro);focus (first | trivial | omega | decide | (simp -implicitDefEqProofs only [maxLen];omega) | (simp [maxLen,an,ak,au,az,aj,ay,ax] <;> omega))) | fail)
 ·exact bad _ _ rfl (by simp at hg;simp [cN,hg])
 ·have hs:fU l=true:=by simpa using hg
  simp -implicitDefEqProofs only [hlen,go_sem,Int.reduceNegSucc]
  refine cK (ι:=Nat) (fun k=>[(9,.rv (.int .i64 k)),(8,.rv (.int .i64 l.length)),(0,.rv (.sl 49 (aQ l)))]) (fun _=>[]) (fun k=>k≤l.length∧((l.drop k).all fun x=>ez x.s)=l.all fun x=>ez x.s) (fun k=>l.length - k) 0 (by simp) (bp (by simp [lk])) (fun k hk K' hN hX hR=>?_)
  obtain ⟨cz,dc⟩:=hk
  simp -implicitDefEqProofs only [go_sem,Int.reduceNegSucc]
  refine ai (fun hg=>?_) (fun hg=>?_)
  ·have av:k<l.length:=by simp at hg;omega
   have hx:=eX av
   have wu:=ct (k:=k) (by omega)
   have bS:=Qg (l[k]'av).s;repeat' (first | (simp -implicitDefEqProofs only [go_sem,Int.reduceNegSucc,hlen,hx,ak,lM,uB,wu]) | (with_reducible refine aA ?_) | (with_reducible first | refine aF bS ?_ | refine aG bS ?_) | ((first | refine ai (fun hg=>?_) (fun hg=>?_) | refine aB (fun hg=>?_) (fun hg=>?_) | refine aC (fun hg=>?_) (fun hg=>?_)) <;> try simp -implicitDefEqProofs only [hg,Bool.not_true,Bool.not_false]) | ((with_reducible apply And.intro);focus (first | trivial | omega | decide | (simp -implicitDefEqProofs only [maxLen];omega) | (simp [maxLen,an,ak,au,az,aj,ay,ax] <;> omega))) | fail)
   ·refine hR _ _ (bad _ _ rfl ?_)
    have:(l.all fun x=>ez x.s)=false:=mX av dc (by simpa using hg)
    simp -implicitDefEqProofs only [cN,this,Bool.and_false]
   ·exact hN (k+1) _ _ ⟨by omega,mY av dc (by simpa using hg)⟩ (by omega) (bp (by simp [lk]))
  ·have av:k=l.length:=by simp at hg;omega
   subst av
   have hall:=mW (Nat.le_refl _) dc
   simp -implicitDefEqProofs only [go_sem,Int.reduceNegSucc]
   refine hX _ _ _ ?_
   repeat' (first | (simp -implicitDefEqProofs only [go_sem,Int.reduceNegSucc]) | (with_reducible refine aA ?_) | ((first | refine ai (fun hg=>?_) (fun hg=>?_) | refine aB (fun hg=>?_) (fun hg=>?_) | refine aC (fun hg=>?_) (fun hg=>?_)) <;> try simp -implicitDefEqProofs only [hg,Bool.not_true,Bool.not_false]) | ((with_reducible apply And.intro);focus (first | trivial | omega | decide | (simp -implicitDefEqProofs only [maxLen];omega) | (simp [maxLen,an,ak,au,az,aj,ay,ax] <;> omega))) | fail)
   exact (hK _ _ (bP (by rw [cN,hs,hall];rfl))).2
theorem Qk (l:List Nd) (n:Nat) (hw:WF l (n+1)) (hn:n<l.length) (hb:l.length≤8589934592) :
 aK Go.Proofs.Try.prog 21 [.rv (.sl 49 (aQ l)),.rv (.int .i64 n)] [] [] (.rv (.int .i64 (depth l n))):=by
 refine bG LD [.rv (.sl 49 (aQ l)),.rv (.int .i64 n)] _ (by simp) (by simp [aP,bh,bu,bg,bn,aq.sv,Ln.sv,Nd.sv]) (fun K hK=>?_)
 have hlen:=au l
 conv in fc _ _ _ _=>reduce
 simp -implicitDefEqProofs only [go_sem,Int.reduceNegSucc]
 refine cK (ι:=Nat) (fun i=>[(1,.rv (.int .i64 (fC (aN l n) i))),(0,.rv (.sl 49 (aQ l))),(5,.rv (.int .i64 i))]) (fun _=>[]) (fun i=>i≤(aN l n).length) (fun i=>(aN l n).length - i) 0 (by simp) (by rw [sX];exact bp (by simp [lk])) (fun i hi1 K' hN hX hR=>?_)
 have dF:=sn (l:=l) n
 simp -implicitDefEqProofs only [go_sem,Int.reduceNegSucc]
 refine ai (fun hg=>?_) (fun hg=>?_)
 ·have cV:i<(aN l n).length:=oI.1 (by simpa using hg)
  have gu:=sW cV
  have hlt:(aN l n)[i]<n+1:=xu (by omega) cV
  have hx:=eX (l:=l) (i:=(aN l n)[i]) (by omega)
  have hpar:=kz (l:=l) (n:=(aN l n)[i]) (by omega)
  have mq:=xm hw n (by omega) i cV
  have wu:=ct (k:=i) (by omega)
  repeat' (first | (simp -implicitDefEqProofs only [go_sem,Int.reduceNegSucc,hlen,ak,lM,gu,hx,hpar,mq,wu]) | (with_reducible refine aA ?_) | ((first | refine ai (fun hg=>?_) (fun hg=>?_) | refine aB (fun hg=>?_) (fun hg=>?_) | refine aC (fun hg=>?_) (fun hg=>?_)) <;> try simp -implicitDefEqProofs only [hg,Bool.not_true,Bool.not_false]) | ((with_reducible apply And.intro);focus (first | trivial | omega | decide | (simp -implicitDefEqProofs only [maxLen];omega) | (simp [maxLen,an,ak,au,az,aj,ay,ax] <;> omega))) | fail)
  exact hN (i+1) _ _ (by omega) (by omega) (bp (by simp [lk]))
 ·have cV:¬ i<(aN l n).length:=fun h=>by have:=oI.2 h;simp at hg;omega
  have:i=(aN l n).length:=by omega
  subst this
  simp -implicitDefEqProofs only [go_sem,Int.reduceNegSucc]
  refine hX _ _ _ ?_
  repeat' (first | (simp -implicitDefEqProofs only [go_sem,Int.reduceNegSucc]) | (with_reducible refine aA ?_) | ((first | refine ai (fun hg=>?_) (fun hg=>?_) | refine aB (fun hg=>?_) (fun hg=>?_) | refine aC (fun hg=>?_) (fun hg=>?_)) <;> try simp -implicitDefEqProofs only [hg,Bool.not_true,Bool.not_false]) | ((with_reducible apply And.intro);focus (first | trivial | omega | decide | (simp -implicitDefEqProofs only [maxLen];omega) | (simp [maxLen,an,ak,au,az,aj,ay,ax] <;> omega))) | fail)
  exact (hK _ _ (bP rfl)).2
theorem Qj (l:List Nd) (hb:l.length≤8589934592):aK Go.Proofs.Try.prog 8 [.rv (.sl 49 (aQ l))] [] [] (.rv (.int .i64 (eI l))):=by
 refine bG LC [.rv (.sl 49 (aQ l))] _ (by simp) (by simp [aP,bh,bu,bg,bn,aq.sv,Ln.sv,Nd.sv]) (fun K hK=>?_)
 have hlen:=au l
 conv in fc _ _ _ _=>reduce
 simp -implicitDefEqProofs only [go_sem,Int.reduceNegSucc]
 have bY:=Ql l hb;repeat' (first | (simp -implicitDefEqProofs only [go_sem,Int.reduceNegSucc]) | (with_reducible refine aA ?_) | (with_reducible first | refine aF bY ?_ | refine aG bY ?_) | ((first | refine ai (fun hg=>?_) (fun hg=>?_) | refine aB (fun hg=>?_) (fun hg=>?_) | refine aC (fun hg=>?_) (fun hg=>?_)) <;> try simp -implicitDefEqProofs only [hg,Bool.not_true,Bool.not_false]) | ((with_reducible apply And.intro);focus (first | trivial | omega | decide | (simp -implicitDefEqProofs only [maxLen];omega) | (simp [maxLen,an,ak,au,az,aj,ay,ax] <;> omega))) | fail)
 ·exact (hK _ _ (bP (by simp at hg;simp [eI,hg,lk]))).2
 ·have ht:cN l=true:=by simpa using hg
  have hs:cA l:=sD.1 (by unfold cN at ht;simp -implicitDefEqProofs only [Bool.and_eq_true] at ht;exact ht.1)
  simp -implicitDefEqProofs only [hlen,go_sem,Int.reduceNegSucc]
  refine cK (ι:=Nat) (fun k=>[(9,.rv (.int .i64 k)),(8,.rv (.int .i64 l.length)),(0,.rv (.sl 49 (aQ l)))]) (fun _=>[]) (fun k=>k≤l.length∧∀ j,(h:j<l.length)→j<k→fI (l[j]'h).s=true∧depth l j≤256) (fun k=>l.length - k) 0 (by simp) (bp (by simp [lk])) (fun k hk K' hN hX hR=>?_)
  obtain ⟨cz,dc⟩:=hk
  simp -implicitDefEqProofs only [go_sem,Int.reduceNegSucc]
  refine ai (fun hg=>?_) (fun hg=>?_)
  ·have av:k<l.length:=by simp at hg;omega
   have hx:=eX av
   have wu:=ct (k:=k) (by omega)
   have bad:∀ e h,lk e 2 = .rv (.int .i64 3)→(fI (l[k]'av).s=false∨depth l k>256)→K' .ret ⟨e,h⟩:=fun e h l2 hf=>hR _ _ (hK _ _ (bP (by
    rw [l2];unfold eI
    rw [if_neg (by rw [ht];simp),if_pos]
    simp -implicitDefEqProofs only [Bool.or_eq_true,List.any_eq_true,List.mem_range,decide_eq_true_eq,Bool.not_eq_true']
    rcases hf with h | h
    ·exact .inr ⟨_,List.getElem_mem av,h⟩
    ·exact .inl (.inr ⟨k,av,h⟩)))).2
   have nx:∀ e h,fI (l[k]'av).s=true→depth l k≤256→cI 0 ⟨e,h⟩ ⟨[(9,.rv (.int .i64 (k+1:Nat))),(8,.rv (.int .i64 l.length)),(0,.rv (.sl 49 (aQ l)))],[]⟩→K' .normal ⟨e,h⟩:=fun e h h1 h2 he=>hN (k+1) _ _ ⟨by omega,fun j hj hji=>by
    rcases Nat.lt_or_ge j k with h | h
    ·exact dc j hj h
    ·obtain rfl:j=k:=by omega
     exact ⟨h1,h2⟩⟩ (by omega) he
   have cu:=Qh (l[k]'av).s;have cm:=Qk l k (hs.wf.mono (by omega)) av hb;repeat' (first | (simp -implicitDefEqProofs only [go_sem,Int.reduceNegSucc,hlen,hx,ak,lM,uB,wu]) | (with_reducible refine aA ?_) | (with_reducible first | refine aF cu ?_ | refine aG cu ?_) | (with_reducible first | refine aF cm ?_ | refine aG cm ?_) | ((first | refine ai (fun hg=>?_) (fun hg=>?_) | refine aB (fun hg=>?_) (fun hg=>?_) | refine aC (fun hg=>?_) (fun hg=>?_)) <;> try simp -implicitDefEqProofs only [hg,Bool.not_true,Bool.not_false]) | ((with_reducible apply And.intro);focus (first | trivial | omega | decide | (simp -implicitDefEqProofs only [maxLen];omega) | (simp [maxLen,an,ak,au,az,aj,ay,ax] <;> omega))) | fail)
   all_goals first
    | (refine bad _ _ rfl ?_;clear bad nx hK hN hX hR;(simp_all) <;> omega)
    | (refine nx _ _ ?_ ?_ (bp (by simp [lk])) <;> clear bad nx hK hN hX hR <;>(simp_all) <;> omega)
  ·have av:k=l.length:=by simp at hg;omega
   subst av
   simp -implicitDefEqProofs only [go_sem,Int.reduceNegSucc]
   refine hX _ _ _ ?_
   have hno:((List.range l.length).any (fun k=>decide (depth l k>256)) || l.any fun x=>!fI x.s)=false:=by
    rw [Bool.or_eq_false_iff,List.any_eq_false,List.any_eq_false]
    refine ⟨fun k hk=>?_,fun x hx=>?_⟩
    ·have:=(dc k (by simpa using hk) (by simpa using hk)).2;simp;omega
    ·obtain ⟨j,hj,rfl⟩:=List.getElem_of_mem hx
     simp [(dc j hj hj).1]
   have fin:eI l=if (l.length:Int)>65535 then 3 else 0:=by
    unfold eI
    rw [if_neg (by rw [ht];simp),Bool.or_assoc,hno]
    by_cases h:l.length>65535
    ·have:(l.length:Int)>65535:=by omega
     simp [h,this]
    ·have:¬ (l.length:Int)>65535:=by omega
     simp [h,this]
   repeat' (first | (simp -implicitDefEqProofs only [go_sem,Int.reduceNegSucc,hlen]) | (with_reducible refine aA ?_) | ((first | refine ai (fun hg=>?_) (fun hg=>?_) | refine aB (fun hg=>?_) (fun hg=>?_) | refine aC (fun hg=>?_) (fun hg=>?_)) <;> try simp -implicitDefEqProofs only [hg,Bool.not_true,Bool.not_false]) | ((with_reducible apply And.intro);focus (first | trivial | omega | decide | (simp -implicitDefEqProofs only [maxLen];omega) | (simp [maxLen,an,ak,au,az,aj,ay,ax] <;> omega))) | fail)
   all_goals (refine (hK _ _ (bP ?_)).2;rw [fin];clear fin hK hN hX hR;(simp_all [lk]) <;> omega)
end Go.aI

namespace Go.aI
open Go
theorem Dm:aV Go.Proofs.Try.prog 23 8 (fc Go.Proofs.Try.prog 23 8 [(.t 2)]) [(.t 2)]:=bq (by kernel_rfl)
theorem Dn:aV Go.Proofs.Try.prog 89 8 (fc Go.Proofs.Try.prog 89 8 [(.t 2)]) [(.t 2)]:=bq (by kernel_rfl)
theorem Fe (xs:List (List RV)) (m:Nat) (hb:xs.length≤8589934592):aK Go.Proofs.Try.prog 23 [.rv (.sl 49 xs)] [] [(m,.row 49 1 (aH xs))] (.row m 1 xs.length):=by
 have nz:∀ r:RV,(r = .kD∧xs=[])∨(r = .sl 49 xs∧0<xs.length)→aK Go.Proofs.Try.prog 23 [.rv r] [] [(m,.row 49 1 (aH xs))] (.row m 1 xs.length):=fun r hr=>by
  refine lp Dm [] [] [] [.rv r] [.rv r] _ _ (by simp) (by simp [aP,gp,fZ,bg,bh,lX,bn,lY,lW,dn,lR,bM]) rfl (by simp [bM]) (by simp [dn]) (fun K hK=>?_)
  conv in fc _ _ _ _=>reduce
  simp -implicitDefEqProofs only [go_sem,Int.reduceNegSucc]
  rcases hr with ⟨rfl,rfl⟩ | ⟨rfl,h0⟩
  ·repeat' (first | (simp -implicitDefEqProofs only [go_sem,Int.reduceNegSucc]) | (with_reducible refine aA ?_) | ((first | refine ai (fun hg=>?_) (fun hg=>?_) | refine aB (fun hg=>?_) (fun hg=>?_) | refine aC (fun hg=>?_) (fun hg=>?_)) <;> try simp -implicitDefEqProofs only [hg,Bool.not_true,Bool.not_false]) | ((with_reducible apply And.intro);focus (first | trivial | omega | decide | (simp -implicitDefEqProofs only [maxLen];omega) | (simp [maxLen,an,ak,au,az,aj,ay,ax] <;> omega))) | fail)
   refine (hK _ _ _ _ [some m] (dr _ _) ?_).2
   simp [dG,bM,newL,dK,dx,bD,bw,lk,bN,cO,cW,cQ,dZ,dY,ag,dH,bQ,aS,dg,dI,ey,aY,ew,aR,dh,cR]
   exact ⟨by simp [aH],fun i x y hx=>by simp at hx⟩
  ·repeat' (first | (simp -implicitDefEqProofs only [go_sem,Int.reduceNegSucc,Ay]) | (with_reducible refine aA ?_) | ((first | refine ai (fun hg=>?_) (fun hg=>?_) | refine aB (fun hg=>?_) (fun hg=>?_) | refine aC (fun hg=>?_) (fun hg=>?_)) <;> try simp -implicitDefEqProofs only [hg,Bool.not_true,Bool.not_false]) | ((with_reducible apply And.intro);focus (first | trivial | omega | decide | (simp -implicitDefEqProofs only [maxLen];omega) | (simp [maxLen,an,ak,au,az,aj,ay,ax] <;> omega))) | fail)
   refine (hK _ _ _ _ [some m] (dr _ _) ?_).2
   simp [dG,bM,newL,dK,dx,bD,bw,lk,bN,cO,cW,cQ,dZ,dY,ag,dH,bQ,aS,dg,dI,ey,aY,ew,aR,dh,cR]
 by_cases h0:xs=[]
 ·subst h0
  refine @Bl _ _ _ [] [] _ _ _ ?_ (nz _ (.inl ⟨rfl,rfl⟩))
  show aK _ _ [.rv .bO] _ _ _
  refine lp Dm [] [] [] [.rv .bO] [.rv .bO] _ _ (by simp) (by simp [aP,gp,fZ,bg,bh,lX,bn,lY,lW,dn,lR,bM]) rfl (by simp [bM]) (by simp [dn]) (fun K hK=>?_)
  conv in fc _ _ _ _=>reduce
  simp -implicitDefEqProofs only [go_sem,Int.reduceNegSucc]
  repeat' (first | (simp -implicitDefEqProofs only [go_sem,Int.reduceNegSucc]) | (with_reducible refine aA ?_) | ((first | refine ai (fun hg=>?_) (fun hg=>?_) | refine aB (fun hg=>?_) (fun hg=>?_) | refine aC (fun hg=>?_) (fun hg=>?_)) <;> try simp -implicitDefEqProofs only [hg,Bool.not_true,Bool.not_false]) | ((with_reducible apply And.intro);focus (first | trivial | omega | decide | (simp -implicitDefEqProofs only [maxLen];omega) | (simp [maxLen,an,ak,au,az,aj,ay,ax] <;> omega))) | fail)
  refine (hK _ _ _ _ [some m] (qo 2 49 1 rfl) ?_).2
  simp [dG,bM,newL,dK,dx,bD,bw,lk,bN,cO,cW,cQ,dZ,dY,ag,dH,bQ,aS,dg,dI,ey,aY,ew,aR,dh,cR]
  exact ⟨by simp [aH],fun i x y hx=>by simp at hx⟩
 ·exact nz _ (.inr ⟨rfl,List.length_pos_iff.2 h0⟩)
theorem Pt (xs:List (List RV)) (m:Nat) (hb:xs.length≤8589934592):aK Go.Proofs.Try.prog 89 [.rv (.sl 1 xs)] [] [(m,.row 1 1 (aH xs))] (.row m 1 xs.length):=by
 have nz:∀ r:RV,(r = .kD∧xs=[])∨(r = .sl 1 xs∧0<xs.length)→aK Go.Proofs.Try.prog 89 [.rv r] [] [(m,.row 1 1 (aH xs))] (.row m 1 xs.length):=fun r hr=>by
  refine lp Dn [] [] [] [.rv r] [.rv r] _ _ (by simp) (by simp [aP,gp,fZ,bg,bh,lX,bn,lY,lW,dn,lR,bM]) rfl (by simp [bM]) (by simp [dn]) (fun K hK=>?_)
  conv in fc _ _ _ _=>reduce
  simp -implicitDefEqProofs only [go_sem,Int.reduceNegSucc]
  rcases hr with ⟨rfl,rfl⟩ | ⟨rfl,h0⟩
  ·repeat' (first | (simp -implicitDefEqProofs only [go_sem,Int.reduceNegSucc]) | (with_reducible refine aA ?_) | ((first | refine ai (fun hg=>?_) (fun hg=>?_) | refine aB (fun hg=>?_) (fun hg=>?_) | refine aC (fun hg=>?_) (fun hg=>?_)) <;> try simp -implicitDefEqProofs only [hg,Bool.not_true,Bool.not_false]) | ((with_reducible apply And.intro);focus (first | trivial | omega | decide | (simp -implicitDefEqProofs only [maxLen];omega) | (simp [maxLen,an,ak,au,az,aj,ay,ax] <;> omega))) | fail)
   refine (hK _ _ _ _ [some m] (dr _ _) ?_).2
   simp [dG,bM,newL,dK,dx,bD,bw,lk,bN,cO,cW,cQ,dZ,dY,ag,dH,bQ,aS,dg,dI,ey,aY,ew,aR,dh,cR]
   exact ⟨by simp [aH],fun i x y hx=>by simp at hx⟩
  ·repeat' (first | (simp -implicitDefEqProofs only [go_sem,Int.reduceNegSucc,Ay]) | (with_reducible refine aA ?_) | ((first | refine ai (fun hg=>?_) (fun hg=>?_) | refine aB (fun hg=>?_) (fun hg=>?_) | refine aC (fun hg=>?_) (fun hg=>?_)) <;> try simp -implicitDefEqProofs only [hg,Bool.not_true,Bool.not_false]) | ((with_reducible apply And.intro);focus (first | trivial | omega | decide | (simp -implicitDefEqProofs only [maxLen];omega) | (simp [maxLen,an,ak,au,az,aj,ay,ax] <;> omega))) | fail)
   refine (hK _ _ _ _ [some m] (dr _ _) ?_).2
   simp [dG,bM,newL,dK,dx,bD,bw,lk,bN,cO,cW,cQ,dZ,dY,ag,dH,bQ,aS,dg,dI,ey,aY,ew,aR,dh,cR]
 by_cases h0:xs=[]
 ·subst h0
  refine @Bl _ _ _ [] [] _ _ _ ?_ (nz _ (.inl ⟨rfl,rfl⟩))
  show aK _ _ [.rv .bO] _ _ _
  refine lp Dn [] [] [] [.rv .bO] [.rv .bO] _ _ (by simp) (by simp [aP,gp,fZ,bg,bh,lX,bn,lY,lW,dn,lR,bM]) rfl (by simp [bM]) (by simp [dn]) (fun K hK=>?_)
  conv in fc _ _ _ _=>reduce
  simp -implicitDefEqProofs only [go_sem,Int.reduceNegSucc]
  repeat' (first | (simp -implicitDefEqProofs only [go_sem,Int.reduceNegSucc]) | (with_reducible refine aA ?_) | ((first | refine ai (fun hg=>?_) (fun hg=>?_) | refine aB (fun hg=>?_) (fun hg=>?_) | refine aC (fun hg=>?_) (fun hg=>?_)) <;> try simp -implicitDefEqProofs only [hg,Bool.not_true,Bool.not_false]) | ((with_reducible apply And.intro);focus (first | trivial | omega | decide | (simp -implicitDefEqProofs only [maxLen];omega) | (simp [maxLen,an,ak,au,az,aj,ay,ax] <;> omega))) | fail)
  refine (hK _ _ _ _ [some m] (qo 2 1 1 rfl) ?_).2
  simp [dG,bM,newL,dK,dx,bD,bw,lk,bN,cO,cW,cQ,dZ,dY,ag,dH,bQ,aS,dg,dI,ey,aY,ew,aR,dh,cR]
  exact ⟨by simp [aH],fun i x y hx=>by simp at hx⟩
 ·exact nz _ (.inr ⟨rfl,List.length_pos_iff.2 h0⟩)
end Go.aI

namespace Go.aI
open Go
theorem Dl:aV Go.Proofs.Try.prog 9 157 (fc Go.Proofs.Try.prog 9 157 [(.t 2),(.t 3)]) [(.t 2),(.t 3)]:=bq (by kernel_rfl)
def aX (l:List Nat):List Int:=l.map fun (n:Nat)=>(n:Int)
def eH (bs:List Bool):List (List RV):=bs.map fun b=>[.bool b]
theorem vl (bs:List Bool):(eH bs).length=bs.length:=by simp [eH]
theorem ry {bs:List Bool} {i:Nat} (h:i<bs.length):(eH bs)[i]?.getD []=[.bool (bs.getD i false)]:=by simp [eH,h]
theorem sB {ys:List Bool} {k:Nat} {v:Bool}:(aH (eH ys)).set k [.rv (.bool v)]=aH (eH (ys.set k v)):=by simp [aH,eH,List.map_set]
theorem EX {n:Nat}:List.replicate n [U.rv (.bool false)]=aH (eH (List.replicate n false)):=by simp [aH,eH]
theorem Bf (l:List Bool):∀ x∈eH l,∀ r∈x,r.one=true:=by
 intro x hx r hr
 obtain ⟨n,_,rfl⟩:=List.mem_map.1 hx
 simp at hr;rw [hr];rfl
def cq (l:List Nd) (k:Nat):List Bool:=(List.range l.length).map fun j=>if j<k then dR l j else false
theorem DT (l:List Nd) (k:Nat):(cq l k).length=l.length:=by simp [cq]
theorem DU (l:List Nd):cq l 0=List.replicate l.length false:=by
 refine List.ext_getElem (by simp [cq]) (fun i h1 h2=>?_)
 simp [cq]
theorem wV {l:List Nd} {k:Nat} (hk:k<l.length):(cq l k).set k (dR l k)=cq l (k+1):=by
 refine List.ext_getElem (by simp [cq]) (fun i h1 h2=>?_)
 simp -implicitDefEqProofs only [List.getElem_set,cq,List.getElem_map,List.getElem_range]
 by_cases h:k=i
 ·subst h;simp
 ·rw [if_neg h]
  by_cases hi:i<k
  ·rw [if_pos hi,if_pos (by omega)]
  ·rw [if_neg hi,if_neg (by omega)]
theorem DS {l:List Nd} {k j:Nat} {b:Bool} (hj:j<k) (hl:j<l.length):((cq l k).set k b).getD j false=dR l j:=by
 rw [List.getD_eq_getElem?_getD,List.getElem?_set_ne (by omega)]
 simp [cq,hl,hj]
def ec (l:List Nd) (k:Nat):List (List U):=(List.range l.length).map fun p=>[.row (p+6) (aT l k p).length (aT l k p).length]
def dO (l:List Nd) (k:Nat):List (Option HB):=(List.range l.length).map fun p=>some (.row 1 (aT l k p).length (aH (aJ (aX (aT l k p)))))
theorem ug (l:List Nd) (k:Nat):(ec l k).length=l.length:=by simp [ec]
theorem lG (l:List Nd) (k:Nat):(dO l k).length=l.length:=by simp [dO]
theorem Dg {l:List Nd} {k p:Nat} (hp:p<l.length):(ec l k)[p]?.getD []=[.row (p+6) (aT l k p).length (aT l k p).length]:=by simp [ec,hp]
theorem zL {l:List Nd} {k p:Nat} {C:List (Option HB)} (hp:p<l.length):ag (dO l k++C) p=some (.row 1 (aT l k p).length (aH (aJ (aX (aT l k p))))):=by
 unfold ag
 rw [List.getElem?_append_left (by rw [lG];exact hp)]
 simp [dO,hp]
theorem zJ {l:List Nd} {k:Nat} {x:Option HB} {C:List (Option HB)}:ag (dO l k++x::C) l.length=x:=by
 unfold ag
 rw [List.getElem?_append_right (by rw [lG];exact Nat.le_refl _),lG]
 simp
theorem Dc {l:List Nd} {k:Nat} {x y:Option HB} {C:List (Option HB)}:ag (dO l k++x::y::C) (l.length+1)=y:=by
 unfold ag
 rw [List.getElem?_append_right (by rw [lG];omega),lG,show l.length+1 - l.length=1 by omega]
 simp
theorem De {l:List Nd} {k p:Nat} {hb:Option HB} {x y:Option HB} {C:List (Option HB)}:ag ((dO l k).set p hb++x::C) l.length=x:=by
 unfold ag
 rw [List.getElem?_append_right (by rw [List.length_set,lG];exact Nat.le_refl _),List.length_set,lG]
 simp
theorem zN {l:List Nd} {k:Nat} {x y:Option HB} {C:List (Option HB)}:(dO l k++x::C).set l.length y=dO l k++y::C:=by
 rw [List.set_append_right _ _ (by rw [lG];exact Nat.le_refl _),lG,Nat.sub_self];rfl
theorem Ld {l:List Nd} {k p:Nat} {y:Option HB} {C:List (Option HB)} (hp:p<l.length):(dO l k++C).set p y=(dO l k).set p y++C:=by
 rw [List.set_append_left _ _ (by rw [lG];exact hp)]
theorem Lg (l:List Nd):dO l 0=dW l.length 1:=by
 refine List.ext_getElem (by simp [dO,dW]) (fun i h1 h2=>?_)
 simp [dO,dW,uo,aX,aJ,aH]
theorem Di (l:List Nd):ec l 0=dB 6 l.length l.length:=by
 refine List.ext_getElem (by simp [ec,dB]) (fun i h1 h2=>?_)
 simp [ec] at h1
 simp [ec,dB,uo,h1];omega
theorem Lb {l:List Nd} {k p:Nat} (h0:0<k) (hp:aO l k=p) (hl:p<l.length) :
 (dO l k).set p (some (.row 1 ((aT l k p).length+1) (aH (aJ (aX (aT l k p)++[(k:Int)])))))=dO l (k+1):=by
 refine List.ext_getElem (by simp [dO]) (fun i h1 h2=>?_)
 simp -implicitDefEqProofs only [List.getElem_set,dO,List.getElem_map,List.getElem_range,um]
 by_cases h:p=i
 ·subst h;simp [h0,hp,aX]
 ·rw [if_neg h,if_neg (by rw [hp];omega)];simp
theorem Lk {l:List Nd} {k p:Nat} (h0:0<k) (hp:aO l k=p) (hl:p<l.length) :
 (ec l k).set p [.row (p+6) ((aT l k p).length+1) ((aT l k p).length+1)]=ec l (k+1):=by
 refine List.ext_getElem (by simp [ec]) (fun i h1 h2=>?_)
 simp -implicitDefEqProofs only [List.getElem_set,ec,List.getElem_map,List.getElem_range,um]
 by_cases h:p=i
 ·subst h;simp [h0,hp]
 ·rw [if_neg h,if_neg (by rw [hp];omega)];simp
theorem KY (l:List Nd):dO l 1=dO l 0:=by
 refine List.ext_getElem (by simp [dO]) (fun i h1 h2=>?_)
 simp [dO,aT,List.range_succ]
theorem Li (l:List Nd):ec l 1=ec l 0:=by
 refine List.ext_getElem (by simp [ec]) (fun i h1 h2=>?_)
 simp [ec,aT,List.range_succ]
def gz (l:List Nd):List (List RV):=(List.range l.length).map fun p=>[.sl 1 (aJ (aX (dy l p)))]
def qn (l:List Nd):List Int:=(List.range l.length).map fun n=>(dj l n:Int)
abbrev cc (l:List Nd):RV:=.rop [.sl 49 (aQ l),.sl 1 (gz l),.sl 1 (aJ (qn l)),.sl 1 (aJ (bI l l.length)),.sl 1 (eH (cq l l.length))]
def pG (l:List Nd) (k:Nat) (es ds:List Int) (bs:List Bool):List (Option HB):=some (.row 49 1 (aH (aQ l)))::some (.row 1 0 (ec l k))::some (.row 1 0 (aH (aJ es)))::some (.row 1 0 (aH (aJ ds)))::some (.row 1 0 (aH (eH bs)))::some (.var [.row 0 1 l.length,.row 1 0 l.length,.row 2 0 l.length,.row 3 0 l.length,.row 4 0 l.length])::dO l k
theorem Db {l:List Nd} {k:Nat} {es ds:List Int} {bs:List Bool}:(pG l k es ds bs).length=l.length+6:=by simp [pG,lG]
theorem KW {l:List Nd} {k:Nat} {es ds:List Int} {bs:List Bool}:kZ (nL (l.length+6)) (pG l k es ds bs):=by
 refine ⟨eJ,fun i x hx=>?_,eJ,eJ,eJ,by simp [nL,lf,lu],kZ.of fun j x hx=>?_⟩
 ·obtain ⟨hl,rfl⟩:=List.getElem?_eq_some_iff.1 hx
  simp [ug] at hl
  simp [ec,lf,lu,hl]
 ·obtain ⟨hl,rfl⟩:=List.getElem?_eq_some_iff.1 hx
  exact ⟨.row 1 (aT l k j).length (aH (aJ (aX (aT l k j)))),by simp [dO],eJ⟩
theorem zH {l:List Nd} {k:Nat} {es ds:List Int} {bs:List Bool} {env env':List (Nat×U)} {C:List (Option HB)} (he:fW (l.length+6) env env'):cI 0 ⟨env,pG l k es ds bs++C⟩ ⟨env',pG l k es ds bs⟩:=
 rG (Nat.zero_le _) (by rw [Db];exact KW) (by rw [Db];exact he)
def cU (l:List Nd) (k:Nat):List Int:=(List.range l.length).map fun j=>if k≤j then (dj l j:Int) else 0
theorem BF (l:List Nd) (k:Nat):(cU l k).length=l.length:=by simp [cU]
theorem BH (l:List Nd):cU l l.length=List.replicate l.length 0:=by
 refine List.ext_getElem (by simp [cU]) (fun i h1 h2=>?_)
 simp [cU] at h1
 simp [cU];omega
theorem BI (l:List Nd):cU l 0=qn l:=by simp [cU,qn]
theorem BG {l:List Nd} {k:Nat} (hk:0<k) (hl:k≤l.length):(cU l k).set (k - 1) (dj l (k - 1))=cU l (k - 1):=by
 refine List.ext_getElem (by simp [cU]) (fun i h1 h2=>?_)
 simp -implicitDefEqProofs only [List.getElem_set,cU,List.getElem_map,List.getElem_range]
 by_cases h:k - 1=i
 ·subst h;simp
 ·rw [if_neg h]
  by_cases hi:k≤i
  ·rw [if_pos hi,if_pos (by omega)]
  ·rw [if_neg hi,if_neg (by omega)]
theorem BE {l:List Nd} {k j:Nat} {v:Int} (hj:k≤j) (hk:0<k) (hl:j<l.length):((cU l k).set (k - 1) v).getD j 0=dj l j:=by
 rw [List.getD_eq_getElem?_getD,List.getElem?_set_ne (by omega)]
 simp [cU,hl,hj]
theorem mg {τ:Nat→Option Nat} {h:Hp} {j e af len:Nat} {xs:List (List RV)} (hj:h j=some (.row e af (aH xs))) (gw:τ j=none) (hl:len=xs.length) (h1:∀ x∈xs,∀ r∈x,r.one=true):Fz τ h (.row j af len) (.sl e xs):=by
 have:=qq (τ:=τ) hj gw (len:=len) (by omega) h1
 rw [hl,List.take_length] at this
 rw [hl];exact this
theorem MS (l:List Nd):Fz (fun _=>none) (ag (pG l l.length (qn l) (bI l l.length) (cq l l.length))) (.ptr 5 0) (cc l):=by
 refine .ptr 5 [.row 0 1 l.length,.row 1 0 l.length,.row 2 0 l.length,.row 3 0 l.length,.row 4 0 l.length] _ rfl rfl rfl (fun i r hr=>?_) (fun i x r hx hr=>?_)
 ·match i with
  | 0=>cases hr;rfl
  | 1=>cases hr;rfl
  | 2=>cases hr;rfl
  | 3=>cases hr;rfl
  | 4=>cases hr;rfl
  | i+5=>simp at hr
 ·match i with
  | 0=>cases hx;cases hr;exact mg rfl rfl (by simp [aQ]) (xb l)
  | 1=>
    cases hx;cases hr
    refine .row 1 1 0 l.length (ec l l.length) (gz l) rfl rfl (by simp [gz]) (by rw [ug];exact Nat.le_refl _) (fun i x r hx hr=>?_) (fun i r k q hr hq=>?_) (fun i x r k y q hx hr hy hq=>?_)
    ·obtain ⟨_,rfl⟩:=List.getElem?_eq_some_iff.1 hx
     obtain ⟨_,rfl⟩:=List.getElem?_eq_some_iff.1 hr
     simp [ec,gz]
    ·obtain ⟨_,rfl⟩:=List.getElem?_eq_some_iff.1 hr
     have:=List.mem_of_getElem? hq
     simp [gz] at this
     rw [this];rfl
    ·obtain ⟨hl,rfl⟩:=List.getElem?_eq_some_iff.1 hx
     obtain ⟨_,rfl⟩:=List.getElem?_eq_some_iff.1 hr
     rw [ug] at hl
     cases k with
     | succ k=>simp [ec] at hy
     | zero=>
       simp [ec] at hy
       simp [gz] at hq
       subst hy;subst hq
       refine mg (xs:=aJ (aX (dy l i))) ?_ rfl (by simp [aJ,aX,dy]) (mB _)
       have:=zL (k:=l.length) (C:=[]) hl
       rw [List.append_nil] at this
       exact this
  | 2=>cases hx;cases hr;exact mg rfl rfl (by simp [aJ,qn]) (mB _)
  | 3=>cases hx;cases hr;exact mg rfl rfl (by simp [aJ,bI]) (mB _)
  | 4=>cases hx;cases hr;exact mg rfl rfl (by simp [eH,cq]) (Bf _)
  | i+5=>simp at hx
theorem sg (x:Nd):(x.cells.map U.rv)[0]?=some (.rv (.bool x.s.shown)):=rfl
theorem Qb (l:List Nd) (hb:l.length≤8589934592) (hc:eI l=0):aK Go.Proofs.Try.prog 9 [.rv (.sl 49 (aQ l))] [] [] (.aM [.rv (cc l),.rv (.int .i64 0)]):=by
 refine bG Dl [.rv (.sl 49 (aQ l))] _ (by simp) (by simp [aP,bh,bu,bg,bn,aq.sv,Ln.sv,Nd.sv]) (fun K hK=>?_)
 have hlen:=au l
 have oc:=Fx l hb
 rw [hc] at oc
 have ht:cN l=true:=by
  unfold eI at hc
  cases h:cN l with
  | true=>rfl
  | false=>rw [h] at hc;simp at hc
 have hs:cA l:=sD.1 (by unfold cN at ht;simp -implicitDefEqProofs only [Bool.and_eq_true] at ht;exact ht.1)
 have nj:(((0:Int)) != 0)=false:=rfl
 conv in fc _ _ _ _=>reduce
 simp -implicitDefEqProofs only [go_sem,Int.reduceNegSucc]
 have hb2:(aQ l).length≤8589934592:=by rw [hlen];exact hb
 have br:=oc;have y_2:=Fe (aQ l) 0 hb2;repeat' (first | (simp -implicitDefEqProofs only [go_sem,Int.reduceNegSucc,nj,hlen,uL,EX]) | (with_reducible refine aA ?_) | (with_reducible first | refine aF br ?_ | refine aG br ?_) | (refine cC y_2 ?_ ?_ ?_;(focus (simp [aW,ag] <;> fail));(focus (simp [bk,aZ] <;> fail))) | (refine cZ y_2 ?_ ?_ ?_;(focus (simp [aW,ag] <;> fail));(focus (simp [bk,aZ] <;> fail))) | ((first | refine ai (fun hg=>?_) (fun hg=>?_) | refine aB (fun hg=>?_) (fun hg=>?_) | refine aC (fun hg=>?_) (fun hg=>?_)) <;> try simp -implicitDefEqProofs only [hg,Bool.not_true,Bool.not_false]) | ((with_reducible apply And.intro);focus (first | trivial | omega | decide | (simp -implicitDefEqProofs only [maxLen];omega) | (simp [maxLen,an,ak,au,az,aj,ay,ax] <;> omega))) | fail)
 have JP:∀ n:Nat,ec l 0=dB 6 l.length l.length:=fun _=>Di l
 let ev:Nat→List (Nat×U):=fun k=>[(33,.rv (.int .i64 k)),(32,.rv (.int .i64 l.length)),(31,.rv (.sl 49 (aQ l))),(5,.ptr 5 0),(0,.rv (.sl 49 (aQ l)))]
 refine cK (ι:=Nat) (fun k=>[(33,.rv (.int .i64 k)),(32,.rv (.int .i64 l.length)),(31,.rv (.sl 49 (aQ l))),(5,.ptr 5 0),(0,.rv (.sl 49 (aQ l)))]) (fun k=>some (.row 49 1 (aH (aQ l)))::some (.row 1 0 (ec l k))::some (.row 1 0 (aH (aJ (List.replicate l.length 0))))::some (.row 1 0 (aH (aJ (bI l k))))::some (.row 1 0 (aH (eH (cq l k))))::some (.var [.row 0 1 l.length,.row 1 0 l.length,.row 2 0 l.length,.row 3 0 l.length,.row 4 0 l.length])::dO l k) (fun k=>k≤l.length) (fun k=>l.length - k) 0 (by simp) ?_ (fun k hk K' hN hX hR=>?_)
 ·refine (bp (env':=[(33,.rv (.int .i64 0)),(32,.rv (.int .i64 l.length)),(31,.rv (.sl 49 (aQ l))),(5,.ptr 5 0),(0,.rv (.sl 49 (aQ l)))]) (by simp [lk])).trans ?_
  rw [Di,Lg,yA,DU]
  exact BK (r:=1) (v:=0) (n:=l.length) (e:=1) rfl
 simp -implicitDefEqProofs only [go_sem,Int.reduceNegSucc]
 refine ai (fun hg=>?_) (fun hg=>?_)
 ·have av:k<l.length:=by simp at hg;omega
  have hx:=eX av
  have qJ:=lG l k
  have hdl:=rD l k
  have gd:=aj (bI l k)
  have nq:=fQ (l:=bI l k) (i:=k) (by omega)
  have hml:=DT l k
  have qC:=vl (cq l k)
  have qB:=ry (bs:=cq l k) (i:=k) (by omega)
  have hsh:=Az av
  have e1:(l.length=l.length+1)=False:=eq_false (by omega)
  have e2:(l.length=l.length+2)=False:=eq_false (by omega)
  have hds:=vK av
  have qx:=yz av
  have wu:=ct (k:=k) (by omega)
  by_cases cw:0<k
  ·have hgt:decide ((k:Int)>0)=true:=decide_eq_true (by omega)
   obtain ⟨p1,p2⟩:=hs.wf.2 k cw av
   obtain ⟨p,hp⟩:∃ p:Nat,aO l k=p:=⟨(aO l k).toNat,by omega⟩
   have dF:p<l.length:=by omega
   have q0:(p=l.length)=False:=eq_false (by omega)
   have q1:(p=l.length+1)=False:=eq_false (by omega)
   have q2:(p=l.length+2)=False:=eq_false (by omega)
   have hpk:=kz av
   have Jy:(bI l k).set k 1=(bI l k).set k 1:=rfl
   have qy:((bI l k).set k 1).length=l.length:=by simp [hdl]
   have tH:=aj ((bI l k).set k 1)
   have nr:=fQ (l:=(bI l k).set k 1) (i:=p) (by omega)
   have qw:=fQ (l:=(bI l k).set k 1) (i:=k) (by omega)
   rw [yy (by omega) (by omega)] at nr
   have oU:=yB hs.wf cw av
   rw [hp,Int.toNat_natCast] at oU
   have wd:=ct (k:=depth l p) (by have:=sn (l:=l) p;unfold depth;omega)
   rw [← oU] at wd
   obtain ⟨b,qH⟩:∃ b,gE l k=b:=⟨_,rfl⟩
   have hmp:=ry (bs:=(cq l k).set k b) (i:=p) (by simp [hml];omega)
   have hmk:=ry (bs:=(cq l k).set k b) (i:=k) (by simp [hml];omega)
   rw [DS (by omega) (by omega)] at hmp
   have tQ:((cq l k).set k b).length=l.length:=by simp [hml]
   have tT:=vl ((cq l k).set k b)
   have kQ:((cq l k).set k b).set k (b && dR l p)=cq l (k+1):=by
    have:=zV hs.wf cw av
    rw [hp,Int.toNat_natCast,qH] at this
    rw [List.set_set,← this,wV av]
   have mo:=ug l k
   have mm:=Dg (k:=k) dF
   have kP:=fun C=>zL (k:=k) (C:=C) dF
   have hkn:=Lb cw hp dF
   have htn:=Lk cw hp dF
   have hsp:=fun (y:Option HB) C=>Ld (k:=k) (y:=y) (C:=C) dF
   have fE:(aX (aT l k p)).length=(aT l k p).length:=by simp [aX]
   have mj:=aj (aX (aT l k p))
   have nD:(aJ (aX (aT l k p))).take (aT l k p).length=aJ (aX (aT l k p)):=List.take_of_length_le (by rw [mj,fE];exact Nat.le_refl _)
   have hkk:=rX (l:=l) (k:=k) (p:=p)
   cases b
   all_goals simp -implicitDefEqProofs only [Bool.false_and,Bool.true_and] at kQ
   ·repeat' (first | (simp -implicitDefEqProofs only [go_sem,Int.reduceNegSucc,hlen,hx,qJ,ak,nG,Nat.add_assoc,zJ,List.append_assoc,hdl,gd,nq,hml,qC,qB,kU,sB,sg,hsh,qH,e1,e2,zN,hgt,hpk,hp,qM,mo,mm,kP,q0,q1,q2,hsp,Dc,De,fE,mj,nD,sA,hkn,htn,qy,tH,nr,qw,wd,qx,wu,hmp,hmk,tQ,tT]) | (with_reducible refine aA ?_) | ((first | refine ai (fun hg=>?_) (fun hg=>?_) | refine aB (fun hg=>?_) (fun hg=>?_) | refine aC (fun hg=>?_) (fun hg=>?_)) <;> try simp -implicitDefEqProofs only [hg,Bool.not_true,Bool.not_false]) | ((with_reducible apply And.intro);focus (first | trivial | omega | decide | (simp -implicitDefEqProofs only [maxLen];omega) | (simp [maxLen,an,ak,au,az,aj,ay,ax] <;> omega) | (simp (decide:=true) [ni,oO,kM,nU,Nat.testBit,q0,q1,q2];done))) | fail)
    rw [kQ]
    exact hN (k+1) _ _ (by omega) (by omega) (zH (l:=l) (k:=k+1) (by simp [fW,lk,ng,nc]))
   ·repeat' (first | (simp -implicitDefEqProofs only [go_sem,Int.reduceNegSucc,hlen,hx,qJ,ak,nG,Nat.add_assoc,zJ,List.append_assoc,hdl,gd,nq,hml,qC,qB,kU,sB,sg,hsh,qH,e1,e2,zN,hgt,hpk,hp,qM,mo,mm,kP,q0,q1,q2,hsp,Dc,De,fE,mj,nD,sA,hkn,htn,qy,tH,nr,qw,wd,qx,wu,hmp,hmk,tQ,tT]) | (with_reducible refine aA ?_) | ((first | refine ai (fun hg=>?_) (fun hg=>?_) | refine aB (fun hg=>?_) (fun hg=>?_) | refine aC (fun hg=>?_) (fun hg=>?_)) <;> try simp -implicitDefEqProofs only [hg,Bool.not_true,Bool.not_false]) | ((with_reducible apply And.intro);focus (first | trivial | omega | decide | (simp -implicitDefEqProofs only [maxLen];omega) | (simp [maxLen,an,ak,au,az,aj,ay,ax] <;> omega) | (simp (decide:=true) [ni,oO,kM,nU,Nat.testBit,q0,q1,q2];done))) | fail)
    rw [kQ]
    exact hN (k+1) _ _ (by omega) (by omega) (zH (l:=l) (k:=k+1) (by simp [fW,lk,ng,nc]))
  ·obtain rfl:k=0:=by omega
   have hgt:decide (((0:Nat):Int)>0)=false:=rfl
   rw [yC] at hds
   have kQ:=wV av
   rw [DR] at kQ
   have zb:(bI l 0).set 0 1=bI l (0+1):=hds
   repeat' (first | (simp -implicitDefEqProofs only [go_sem,Int.reduceNegSucc,hlen,hx,qJ,ak,nG,Nat.add_assoc,zJ,List.append_assoc,hdl,gd,nq,hml,qC,qB,kU,sB,sg,hsh,e1,e2,zN,hgt,wu,kQ,zb]) | (with_reducible refine aA ?_) | ((first | refine ai (fun hg=>?_) (fun hg=>?_) | refine aB (fun hg=>?_) (fun hg=>?_) | refine aC (fun hg=>?_) (fun hg=>?_)) <;> try simp -implicitDefEqProofs only [hg,Bool.not_true,Bool.not_false]) | ((with_reducible apply And.intro);focus (first | trivial | omega | decide | (simp -implicitDefEqProofs only [maxLen];omega) | (simp [maxLen,an,ak,au,az,aj,ay,ax] <;> omega))) | fail)
   refine hN 1 _ _ (by omega) (by omega) ?_
   rw [Li,KY]
   exact zH (l:=l) (k:=0) (es:=List.replicate l.length 0) (ds:=bI l (0+1)) (bs:=cq l (0+1)) (C:=[some (.var ((l[0]'av).cells.map .rv))]) (by simp [fW,lk,ng,nc])
 ·have av:k=l.length:=by simp at hg;omega
  subst av
  simp -implicitDefEqProofs only [go_sem,Int.reduceNegSucc]
  refine hX _ _ _ ?_
  have wl:=sQ hs.pos (by omega)
  repeat' (first | (simp -implicitDefEqProofs only [go_sem,Int.reduceNegSucc,hlen,wl]) | (with_reducible refine aA ?_) | ((first | refine ai (fun hg=>?_) (fun hg=>?_) | refine aB (fun hg=>?_) (fun hg=>?_) | refine aC (fun hg=>?_) (fun hg=>?_)) <;> try simp -implicitDefEqProofs only [hg,Bool.not_true,Bool.not_false]) | ((with_reducible apply And.intro);focus (first | trivial | omega | decide | (simp -implicitDefEqProofs only [maxLen];omega) | (simp [maxLen,an,ak,au,az,aj,ay,ax] <;> omega))) | fail)
  clear hN hX hR
  refine cK (ι:=Nat) (fun k=>[(8,.rv (.int .i64 ((k:Int) - 1))),(5,.ptr 5 0)]) (fun k=>pG l l.length (cU l k) (bI l l.length) (cq l l.length)) (fun k=>k≤l.length) (fun k=>k) l.length (Nat.le_refl _) (by rw [BH];exact bp (by simp [lk];have:=hs.pos;omega)) (fun k hk K' hN hX hR=>?_)
  simp -implicitDefEqProofs only [pG,go_sem,Int.reduceNegSucc]
  refine ai (fun hg=>?_) (fun hg=>?_)
  ·have cw:0<k:=by simp at hg;omega
   obtain ⟨j,rfl⟩:∃ j,k=j+1:=⟨k - 1,by omega⟩
   have ej:(((j+1:Nat):Int) - 1)=(j:Int):=by omega
   have wj:=ct (k:=j) (by omega)
   have hjl:j<l.length:=by omega
   have hel:=BF l (j+1)
   have tJ:=aj (cU l (j+1))
   have qz:=fQ (l:=cU l (j+1)) (i:=j) (by omega)
   have mo:=ug l l.length
   have mm:=Dg (k:=l.length) hjl
   have kP:=zL (k:=l.length) (C:=[]) hjl
   simp -implicitDefEqProofs only [List.append_nil] at kP
   have fE:(aX (aT l l.length j)).length=(aT l l.length j).length:=by simp [aX]
   have mj:=aj (aX (aT l l.length j))
   have hkk:=rX (l:=l) (k:=l.length) (p:=j)
   have lE:((cU l (j+1)).set j ((j+1:Nat):Int)).length=l.length:=by simp [hel]
   have zz:=aj ((cU l (j+1)).set j ((j+1:Nat):Int))
   have kR:=BG (l:=l) (k:=j+1) (by omega) (by omega)
   simp -implicitDefEqProofs only [Nat.add_sub_cancel] at kR
   have wd:IntKind.i64.wrap ((j:Int) - 1)=((j:Int) - 1):=wrap_i64 (by omega) (by omega)
   by_cases cz:aT l l.length j=[]
   ·have hm0:decide ((((aT l l.length j).length:Nat):Int)>0)=false:=by rw [cz];rfl
    have he:=yH cz
    rw [he] at kR
    repeat' (first | (simp -implicitDefEqProofs only [go_sem,Int.reduceNegSucc,hel,tJ,qz,mo,mm,kP,ej,wj,hm0,kU,kR,wd]) | (with_reducible refine aA ?_) | ((first | refine ai (fun hg=>?_) (fun hg=>?_) | refine aB (fun hg=>?_) (fun hg=>?_) | refine aC (fun hg=>?_) (fun hg=>?_)) <;> try simp -implicitDefEqProofs only [hg,Bool.not_true,Bool.not_false]) | ((with_reducible apply And.intro);focus (first | trivial | omega | decide | (simp -implicitDefEqProofs only [maxLen];omega) | (simp [maxLen,an,ak,au,az,aj,ay,ax] <;> omega))) | fail)
    refine hN j _ _ (by omega) (by omega) (bp (by simp [lk]))
   ·obtain ⟨c,hc⟩:∃ c,(aT l l.length j).getLast?=some c:=by
     cases h:(aT l l.length j).getLast? with
     | none=>exact absurd (List.getLast?_eq_none_iff.1 h) cz
     | some c=>exact ⟨c,rfl⟩
    have hpos:0<(aT l l.length j).length:=List.length_pos_iff.2 cz
    have hm0:decide ((((aT l l.length j).length:Nat):Int)>0)=true:=decide_eq_true (by omega)
    have tG:c∈dy l j:=List.mem_of_getLast? hc
    obtain ⟨c1,c2,c3⟩:=rZ.1 tG
    have yW:j<c:=by have:=(hs.wf.2 c c1 c2).2;omega
    have he:=yG hc yW c2
    rw [he] at kR
    have wm:=sQ hpos (by omega)
    have yV:(aX (aT l l.length j)).getD ((aT l l.length j).length - 1) 0=(c:Int):=by
     rw [List.getLast?_eq_getElem?] at hc
     simp [aX,List.getD_eq_getElem?_getD,hc]
    have eV:=fQ (l:=aX (aT l l.length j)) (i:=(aT l l.length j).length - 1) (by omega)
    rw [yV] at eV
    have tI:=fQ (l:=(cU l (j+1)).set j ((j+1:Nat):Int)) (i:=c) (by omega)
    have oe:=BE (l:=l) (k:=j+1) (j:=c) (v:=((j+1:Nat):Int)) (by omega) (by omega) c2
    simp -implicitDefEqProofs only [Nat.add_sub_cancel] at oe
    rw [oe] at tI
    have zf:=fQ (l:=(cU l (j+1)).set j ((j+1:Nat):Int)) (i:=j) (by omega)
    have qG:((cU l (j+1)).set j ((j+1:Nat):Int)).set j (dj l c)=cU l j:=by rw [List.set_set,kR]
    repeat' (first | (simp -implicitDefEqProofs only [go_sem,Int.reduceNegSucc,hel,tJ,qz,mo,mm,kP,ej,wj,hm0,kU,wd,wm,eV,tI,zf,qG,lE,zz,fE,mj]) | (with_reducible refine aA ?_) | ((first | refine ai (fun hg=>?_) (fun hg=>?_) | refine aB (fun hg=>?_) (fun hg=>?_) | refine aC (fun hg=>?_) (fun hg=>?_)) <;> try simp -implicitDefEqProofs only [hg,Bool.not_true,Bool.not_false]) | ((with_reducible apply And.intro);focus (first | trivial | omega | decide | (simp -implicitDefEqProofs only [maxLen];omega) | (simp [maxLen,an,ak,au,az,aj,ay,ax] <;> omega))) | fail)
    refine hN j _ _ (by omega) (by omega) (bp (by simp [lk]))
  ·obtain rfl:k=0:=by simp at hg;omega
   simp -implicitDefEqProofs only [go_sem,Int.reduceNegSucc]
   refine hX _ _ _ ?_
   repeat' (first | (simp -implicitDefEqProofs only [go_sem,Int.reduceNegSucc]) | (with_reducible refine aA ?_) | ((first | refine ai (fun hg=>?_) (fun hg=>?_) | refine aB (fun hg=>?_) (fun hg=>?_) | refine aC (fun hg=>?_) (fun hg=>?_)) <;> try simp -implicitDefEqProofs only [hg,Bool.not_true,Bool.not_false]) | ((with_reducible apply And.intro);focus (first | trivial | omega | decide | (simp -implicitDefEqProofs only [maxLen];omega) | (simp [maxLen,an,ak,au,az,aj,ay,ax] <;> omega))) | fail)
   refine (hK _ _ ?_).2
   rw [BI]
   exact ⟨trivial,bQ.2 ⟨.fz _ _ (MS l),aS.2 rfl,trivial⟩⟩
end Go.aI

namespace Go.aI
open Go
theorem Mb:aV Go.Proofs.Try.prog 39 10 (fc Go.Proofs.Try.prog 39 10 [(.t 2)]) [(.t 2)]:=bq (by kernel_rfl)
theorem Mf:aV Go.Proofs.Try.prog 24 13 (fc Go.Proofs.Try.prog 24 13 [(.t 4)]) [(.t 4)]:=bq (by kernel_rfl)
theorem Me:aV Go.Proofs.Try.prog 40 18 (fc Go.Proofs.Try.prog 40 18 [(.c 4 48 true)]) [(.c 4 48 true)]:=bq (by kernel_rfl)
theorem Mc:aV Go.Proofs.Try.prog 10 17 (fc Go.Proofs.Try.prog 10 17 [(.t 4)]) [(.t 4)]:=bq (by kernel_rfl)
theorem Md:aV Go.Proofs.Try.prog 27 36 (fc Go.Proofs.Try.prog 27 36 [(.t 4)]) [(.t 4)]:=bq (by kernel_rfl)
def dw (l:List Nd) (n:Int):Bool:=decide (n≥0) && decide (n<l.length)
theorem rV {l:List Nd} {n:Int} (h:dw l n=true):∃ k:Nat,n=k∧k<l.length:=by
 simp [dw] at h;exact ⟨n.toNat,by omega,by omega⟩
theorem ua {l:List Nd} {k:Nat} (h:k<l.length):dw l k=true:=by simp [dw,h]
def cr (l:List Nd) (n:Int):aq:=if dw l n=true then (l.getD n.toNat default).s else default
def RH (l:List Nd) (n:Int):Int:=if dw l n=true then aO l n.toNat else -1
def yF (l:List Nd) (n:Int):Int:=if dw l n=true then dj l n.toNat else 0
def Ri (l:List Nd) (n:Int):Int:=if dw l n=true then depth l n.toNat else 0
def eL (l:List Nd) (n:Int):Bool:=dw l n && dR l n.toNat
def eu (l:List Nd) (n:Int):Bool:=eL l n && decide (n>0) && (decide ((cr l n).position=2) || decide ((cr l n).position=3))
def Rh (l:List Nd) (a n:Int):Bool:=dw l a && dw l n && decide (n≥a) && decide (n<yF l a)
theorem MQ (l:List Nd):(gz l).length=l.length:=by simp [gz]
theorem MP {l:List Nd} {k:Nat} (h:k<l.length):(gz l)[k]?.getD []=[.sl 1 (aJ (aX (dy l k)))]:=by simp [gz,h]
theorem NG (l:List Nd):(eH (cq l l.length)).length=l.length:=by simp [eH,cq]
theorem NF {l:List Nd} {k:Nat} (h:k<l.length):(eH (cq l l.length))[k]?.getD []=[.bool (dR l k)]:=by simp [eH,cq,h]
theorem Ar {τ:Nat→Option Nat} {h:List (Option HB)} {env:List (Nat×U)} {a n id:Nat} {rs:List RV} (hl:lk env a = .ptr id 0) (hh:ag h id=some (.var (rs.map .rv))) (hn:rs.length=n):bD τ (ag h) (.agg (rs.map .rv)) (bw (lk env) (ag h) [.c a n true]):=by
 simp [bw,bD,bN,hl,dQ,hh,hn]
 rw [List.take_of_length_le (by simp [hn])];exact aY.2 (cR.2 rfl)
section
variable (l:List Nd) (hb:l.length≤8589934592) (n:Int)
theorem PF:aK Go.Proofs.Try.prog 39 [.rv (cc l)] [] [] (.rv (.int .i64 l.length)):=by
 refine bG Mb [.rv (cc l)] _ (by simp) (by simp [aP,bh,bu,bg,bn,aq.sv,Ln.sv,Nd.sv]) (fun K hK=>?_)
 conv in fc _ _ _ _=>reduce
 simp -implicitDefEqProofs only [go_sem,Int.reduceNegSucc]
 repeat' (first | (simp -implicitDefEqProofs only [go_sem,Int.reduceNegSucc,au,cc]) | (with_reducible refine aA ?_) | ((first | refine ai (fun hg=>?_) (fun hg=>?_) | refine aB (fun hg=>?_) (fun hg=>?_) | refine aC (fun hg=>?_) (fun hg=>?_)) <;> try simp -implicitDefEqProofs only [hg,Bool.not_true,Bool.not_false]) | ((with_reducible apply And.intro);focus (first | trivial | omega | decide | (simp -implicitDefEqProofs only [maxLen];omega) | (simp [maxLen,an,ak,au,az,aj,ay,ax] <;> omega))) | fail)
 exact (hK _ _ (bP rfl)).2
theorem AD:aK Go.Proofs.Try.prog 24 [.rv (cc l),.rv (.int .i64 n)] [] [] (.rv (.bool (dw l n))):=by
 refine bG Mf [.rv (cc l),.rv (.int .i64 n)] _ (by simp) (by simp [aP,bh,bu,bg,bn,aq.sv,Ln.sv,Nd.sv]) (fun K hK=>?_)
 conv in fc _ _ _ _=>reduce
 simp -implicitDefEqProofs only [go_sem,Int.reduceNegSucc]
 have br:=PF l;repeat' (first | (simp -implicitDefEqProofs only [go_sem,Int.reduceNegSucc]) | (with_reducible refine aA ?_) | (with_reducible first | refine aF br ?_ | refine aG br ?_) | ((first | refine ai (fun hg=>?_) (fun hg=>?_) | refine aB (fun hg=>?_) (fun hg=>?_) | refine aC (fun hg=>?_) (fun hg=>?_)) <;> try simp -implicitDefEqProofs only [hg,Bool.not_true,Bool.not_false]) | ((with_reducible apply And.intro);focus (first | trivial | omega | decide | (simp -implicitDefEqProofs only [maxLen];omega) | (simp [maxLen,an,ak,au,az,aj,ay,ax] <;> omega))) | fail)
 all_goals (try ((first | refine (hK _ _ _ _ [] (dr _ _) ?_).2 | refine (hK _ _ ?_).2 | refine (hK _ _ _ _ [] (dr _ _) ?_).1 | refine (hK _ _ ?_).1 | fail);clear hK;(simp_all [dG,bM,newL,dK,dx,bD,bw,lk,bN,cO,cW,cQ,dZ,dY,ag,dH,bQ,aS,dg,dI,ey,aY,ew,aR,dh,cR,cj,dw]) <;> try omega))
theorem Fg:aK Go.Proofs.Try.prog 40 [.rv (cc l),.rv (.int .i64 n)] [] [] (cr l n).sv:=by
 refine bG Me [.rv (cc l),.rv (.int .i64 n)] _ (by simp) (by simp [aP,bh,bu,bg,bn,aq.sv,Ln.sv,Nd.sv]) (fun K hK=>?_)
 have hh:=AD l n
 conv in fc _ _ _ _=>reduce
 simp -implicitDefEqProofs only [go_sem,Int.reduceNegSucc]
 cases hi:dw l n with
 | false=>
   rw [hi] at hh
   have y_2:=hh;repeat' (first | (simp -implicitDefEqProofs only [go_sem,Int.reduceNegSucc]) | (with_reducible refine aA ?_) | (with_reducible first | refine aF y_2 ?_ | refine aG y_2 ?_) | ((first | refine ai (fun hg=>?_) (fun hg=>?_) | refine aB (fun hg=>?_) (fun hg=>?_) | refine aC (fun hg=>?_) (fun hg=>?_)) <;> try simp -implicitDefEqProofs only [hg,Bool.not_true,Bool.not_false]) | ((with_reducible apply And.intro);focus (first | trivial | omega | decide | (simp -implicitDefEqProofs only [maxLen];omega) | (simp [maxLen,an,ak,au,az,aj,ay,ax] <;> omega) | (rfl;done) | (exact ⟨rfl,by decide⟩;done))) | fail)
   have zy:cr l n=default:=by simp [cr,hi]
   rw [zy] at hK
   exact (hK _ _ (Ar rfl rfl rfl)).2
 | true=>
   rw [hi] at hh
   obtain ⟨k,rfl,hk⟩:=rV hi
   have hx:=eX hk
   have hlen:=au l
   have bS:=hh;repeat' (first | (simp -implicitDefEqProofs only [go_sem,Int.reduceNegSucc,hx,hlen,ak,an,uB,cc]) | (with_reducible refine aA ?_) | (with_reducible first | refine aF bS ?_ | refine aG bS ?_) | ((first | refine ai (fun hg=>?_) (fun hg=>?_) | refine aB (fun hg=>?_) (fun hg=>?_) | refine aC (fun hg=>?_) (fun hg=>?_)) <;> try simp -implicitDefEqProofs only [hg,Bool.not_true,Bool.not_false]) | ((with_reducible apply And.intro);focus (first | trivial | omega | decide | (simp -implicitDefEqProofs only [maxLen];omega) | (simp [maxLen,an,ak,au,az,aj,ay,ax] <;> omega))) | fail)
   have zy:cr l k=(l[k]'hk).s:=by simp [cr,hi,hk]
   rw [zy] at hK
   exact (hK _ _ (Ar rfl rfl rfl)).2
theorem xH:aK Go.Proofs.Try.prog 10 [.rv (cc l),.rv (.int .i64 n)] [] [] (.rv (.bool (eL l n))):=by
 refine bG Mc [.rv (cc l),.rv (.int .i64 n)] _ (by simp) (by simp [aP,bh,bu,bg,bn,aq.sv,Ln.sv,Nd.sv]) (fun K hK=>?_)
 have hh:=AD l n
 conv in fc _ _ _ _=>reduce
 simp -implicitDefEqProofs only [go_sem,Int.reduceNegSucc]
 cases hi:dw l n with
 | false=>
   rw [hi] at hh
   have cm:=hh;repeat' (first | (simp -implicitDefEqProofs only [go_sem,Int.reduceNegSucc]) | (with_reducible refine aA ?_) | (with_reducible first | refine aF cm ?_ | refine aG cm ?_) | ((first | refine ai (fun hg=>?_) (fun hg=>?_) | refine aB (fun hg=>?_) (fun hg=>?_) | refine aC (fun hg=>?_) (fun hg=>?_)) <;> try simp -implicitDefEqProofs only [hg,Bool.not_true,Bool.not_false]) | ((with_reducible apply And.intro);focus (first | trivial | omega | decide | (simp -implicitDefEqProofs only [maxLen];omega) | (simp [maxLen,an,ak,au,az,aj,ay,ax] <;> omega))) | fail)
   exact (hK _ _ (bP (by simp [eL,hi,lk]))).2
 | true=>
   rw [hi] at hh
   obtain ⟨k,rfl,hk⟩:=rV hi
   have cG:=hh;repeat' (first | (simp -implicitDefEqProofs only [go_sem,Int.reduceNegSucc,NG,NF hk,cc]) | (with_reducible refine aA ?_) | (with_reducible first | refine aF cG ?_ | refine aG cG ?_) | ((first | refine ai (fun hg=>?_) (fun hg=>?_) | refine aB (fun hg=>?_) (fun hg=>?_) | refine aC (fun hg=>?_) (fun hg=>?_)) <;> try simp -implicitDefEqProofs only [hg,Bool.not_true,Bool.not_false]) | ((with_reducible apply And.intro);focus (first | trivial | omega | decide | (simp -implicitDefEqProofs only [maxLen];omega) | (simp [maxLen,an,ak,au,az,aj,ay,ax] <;> omega))) | fail)
   exact (hK _ _ (bP (by simp [eL,hi,lk]))).2
theorem PI:aK Go.Proofs.Try.prog 27 [.rv (cc l),.rv (.int .i64 n)] [] [] (.rv (.bool (eu l n))):=by
 refine bG Md [.rv (cc l),.rv (.int .i64 n)] _ (by simp) (by simp [aP,bh,bu,bg,bn,aq.sv,Ln.sv,Nd.sv]) (fun K hK=>?_)
 have hh:=xH l n
 conv in fc _ _ _ _=>reduce
 simp -implicitDefEqProofs only [go_sem,Int.reduceNegSucc]
 cases hi:eL l n with
 | false=>
   rw [hi] at hh
   have cH:=hh;repeat' (first | (simp -implicitDefEqProofs only [go_sem,Int.reduceNegSucc]) | (with_reducible refine aA ?_) | (with_reducible first | refine aF cH ?_ | refine aG cH ?_) | ((first | refine ai (fun hg=>?_) (fun hg=>?_) | refine aB (fun hg=>?_) (fun hg=>?_) | refine aC (fun hg=>?_) (fun hg=>?_)) <;> try simp -implicitDefEqProofs only [hg,Bool.not_true,Bool.not_false]) | ((with_reducible apply And.intro);focus (first | trivial | omega | decide | (simp -implicitDefEqProofs only [maxLen];omega) | (simp [maxLen,an,ak,au,az,aj,ay,ax] <;> omega))) | fail)
   exact (hK _ _ (bP (by simp [eu,hi,lk]))).2
 | true=>
   rw [hi] at hh
   have hin:dw l n=true:=by simp [eL] at hi;exact hi.1
   obtain ⟨k,rfl,hk⟩:=rV hin
   have hx:=eX hk
   have hlen:=au l
   have hs:cr l k=(l[k]'hk).s:=by simp [cr,hin,hk]
   have hp:((l[k]'hk).cells.drop 1)[0]?=some (.int .i64 (l[k]'hk).s.position):=rfl
   have cY:=hh;repeat' (first | (simp -implicitDefEqProofs only [go_sem,Int.reduceNegSucc,hx,hlen,ak,cc,hp]) | (with_reducible refine aA ?_) | (with_reducible first | refine aF cY ?_ | refine aG cY ?_) | ((first | refine ai (fun hg=>?_) (fun hg=>?_) | refine aB (fun hg=>?_) (fun hg=>?_) | refine aC (fun hg=>?_) (fun hg=>?_)) <;> try simp -implicitDefEqProofs only [hg,Bool.not_true,Bool.not_false]) | ((with_reducible apply And.intro);focus (first | trivial | omega | decide | (simp -implicitDefEqProofs only [maxLen];omega) | (simp [maxLen,an,ak,au,az,aj,ay,ax] <;> omega))) | fail)
   all_goals (refine (hK _ _ (bP ?_)).2;rw [eu,hi,hs];clear hK hs hp;simp_all [lk,cj])
end
end Go.aI

namespace Go.aI
open Go
theorem Ma:aV Go.Proofs.Try.prog 71 17 (fc Go.Proofs.Try.prog 71 17 [(.t 4)]) [(.t 4)]:=bq (by kernel_rfl)
theorem LY:aV Go.Proofs.Try.prog 48 10 (fc Go.Proofs.Try.prog 48 10 [(.t 4)]) [(.t 4)]:=bq (by kernel_rfl)
theorem LZ:aV Go.Proofs.Try.prog 72 13 (fc Go.Proofs.Try.prog 72 13 [(.t 3)]) [(.t 3)]:=bq (by kernel_rfl)
theorem Mr:aV Go.Proofs.Try.prog 88 19 (fc Go.Proofs.Try.prog 88 19 [(.t 4)]) [(.t 4)]:=bq (by kernel_rfl)
theorem Mp:aV Go.Proofs.Try.prog 70 42 (fc Go.Proofs.Try.prog 70 42 [(.t 4)]) [(.t 4)]:=bq (by kernel_rfl)
def eK (l:List Nd) (n:Int):List Nat:=if dw l n=true then dy l n.toNat else []
def RJ (l:List Nd) (n:Int):List Nat:=if dw l n=true then (aN l n.toNat).drop 1 else []
def fV (l:List Nd) (m:Int):Bool:=eL l m && !eu l m
def cB (l:List Nd) (n:Int):List Nat:=(eK l n).filter fun (m:Nat)=>fV l m
theorem NM (l:List Nat):(aX l).length=l.length:=by simp [aX]
theorem Dy (l:List Nd) (n:Int):(eK l n).length≤l.length:=by
 unfold eK;split
 ·exact rX
 ·simp
section
variable (l:List Nd) (hb:l.length≤8589934592) (n:Int)
theorem PE (m:Nat) (hb:l.length≤8589934592):aK Go.Proofs.Try.prog 71 [.rv (cc l),.rv (.int .i64 n)] [] [(m,.row 1 1 (aH (aJ (aX (eK l n)))))] (.row m 1 (eK l n).length):=by
 refine lp Ma [] [] [] [.rv (cc l),.rv (.int .i64 n)] [.rv (cc l),.rv (.int .i64 n)] _ _ (by simp) (by simp [aP,bg]) rfl (by simp [bM]) (by simp [dn]) (fun K hK=>?_)
 have hh:=AD l n
 conv in fc _ _ _ _=>reduce
 simp -implicitDefEqProofs only [go_sem,Int.reduceNegSucc]
 cases hi:dw l n with
 | false=>
   rw [hi] at hh
   have cw:eK l n=[]:=by simp [eK,hi]
   have br:=hh;repeat' (first | (simp -implicitDefEqProofs only [go_sem,Int.reduceNegSucc]) | (with_reducible refine aA ?_) | (with_reducible first | refine aF br ?_ | refine aG br ?_) | ((first | refine ai (fun hg=>?_) (fun hg=>?_) | refine aB (fun hg=>?_) (fun hg=>?_) | refine aC (fun hg=>?_) (fun hg=>?_)) <;> try simp -implicitDefEqProofs only [hg,Bool.not_true,Bool.not_false]) | ((with_reducible apply And.intro);focus (first | trivial | omega | decide | (simp -implicitDefEqProofs only [maxLen];omega) | (simp [maxLen,an,ak,au,az,aj,ay,ax] <;> omega))) | fail)
   refine (hK _ _ _ _ [some m] (qo 4 1 1 rfl) ?_).2
   rw [cw]
   simp [dG,bM,newL,dK,dx,bD,bw,lk,bN,cO,cW,cQ,dZ,dY,ag,dH,bQ,aS,dg,dI,ey,aY,ew,aR,dh,cR]
   exact ⟨by simp [aH,aJ,aX],fun i x y hx=>by simp at hx⟩
 | true=>
   rw [hi] at hh
   obtain ⟨k,rfl,hk⟩:=rV hi
   have cw:eK l k=dy l k:=by simp [eK,hi]
   have fE:=rX (l:=l) (k:=l.length) (p:=k)
   have hlen:(aJ (aX (dy l k))).length=(dy l k).length:=by simp [aJ,aX]
   have hlb:(aJ (aX (dy l k))).length≤8589934592:=by rw [hlen];unfold dy;omega
   have JN:=MP hk
   have y_2:=hh;have bS:=Pt (aJ (aX (dy l k))) 0 hlb;repeat' (first | (simp -implicitDefEqProofs only [go_sem,Int.reduceNegSucc,MQ,JN,cc]) | (with_reducible refine aA ?_) | (with_reducible first | refine aF y_2 ?_ | refine aG y_2 ?_) | (refine cC bS ?_ ?_ ?_;(focus (simp [aW,ag] <;> fail));(focus (simp [bk,aZ] <;> fail))) | (refine cZ bS ?_ ?_ ?_;(focus (simp [aW,ag] <;> fail));(focus (simp [bk,aZ] <;> fail))) | ((first | refine ai (fun hg=>?_) (fun hg=>?_) | refine aB (fun hg=>?_) (fun hg=>?_) | refine aC (fun hg=>?_) (fun hg=>?_)) <;> try simp -implicitDefEqProofs only [hg,Bool.not_true,Bool.not_false]) | ((with_reducible apply And.intro);focus (first | trivial | omega | decide | (simp -implicitDefEqProofs only [maxLen];omega) | (simp [maxLen,an,ak,au,az,aj,ay,ax] <;> omega))) | fail)
   refine (hK _ _ _ _ [some m] (dr _ _) ?_).2
   rw [cw]
   simp [dG,bM,newL,dK,dx,bD,bw,lk,bN,cO,cW,cQ,dZ,dY,ag,dH,bQ,aS,dg,dI,ey,aY,ew,aR,dh,cR,hlen]
theorem PA (m:Int) (j:Nat):aK Go.Proofs.Try.prog 72 [.rv (.int .i64 m),.ptr j 0] [(j,.var [.rv (cc l)])] [] (.rv (.bool (!fV l m))):=by
 refine lp LZ [j] [.var [.rv (cc l)]] [.var [.rv (cc l)]] [.rv (.int .i64 m),.ptr 0 0] [.rv (.int .i64 m),.ptr j 0] _ _ (by simp) (by simp [aP,gp,fZ,bg,bh,lX,bn,lY,lW,dn,lR,bM]) rfl (by simp [bM]) (by simp [aP,gp,fZ,bg,bh,lX,bn,lY,lW,dn,lR,bM]) (fun K hK=>?_)
 conv in fc _ _ _ _=>reduce
 simp -implicitDefEqProofs only [go_sem,Int.reduceNegSucc]
 have bY:=xH l m;have cu:=PI l m;repeat' (first | (simp -implicitDefEqProofs only [go_sem,Int.reduceNegSucc]) | (with_reducible refine aA ?_) | (with_reducible first | refine aF bY ?_ | refine aG bY ?_) | (with_reducible first | refine aF cu ?_ | refine aG cu ?_) | ((first | refine ai (fun hg=>?_) (fun hg=>?_) | refine aB (fun hg=>?_) (fun hg=>?_) | refine aC (fun hg=>?_) (fun hg=>?_)) <;> try simp -implicitDefEqProofs only [hg,Bool.not_true,Bool.not_false]) | ((with_reducible apply And.intro);focus (first | trivial | omega | decide | (simp -implicitDefEqProofs only [maxLen];omega) | (simp [maxLen,an,ak,au,az,aj,ay,ax] <;> omega))) | fail)
 all_goals (refine (hK _ _ _ _ [] (dr _ _) ?_).2;clear hK;simp_all [dG,bM,newL,dK,dx,bD,bw,lk,bN,cO,cW,cQ,dZ,dY,ag,dH,bQ,aS,dg,dI,ey,aY,ew,aR,dh,cR,fV])
end
section
variable (f:Nat) (i j v:Nat) (cap:RV) (p:Int→Bool) (hij:i≠j) (hf:∀ (m:Int) (j:Nat),aK Go.Proofs.Try.prog f [.rv (.int .i64 m),.ptr j 0] [(j,.var [.rv cap])] [] (.rv (.bool (p m))))
include hij hf
theorem PC (ys:List Int) (hb:ys.length≤8589934592) :
 aK Go.Proofs.Try.prog 88 [.row i v ys.length,.fn f [.ptr j 0]] [(i,.row 1 v (aH (aJ ys))),(j,.var [.rv cap])] [] (.rv (.int .i64 (match ys.findIdx? p with | some k=>((k:Nat):Int) | none=>-1))):=by
 refine vq Mr [i,j] [.row 1 v (aH (aJ ys)),.var [.rv cap]] [.row 1 v (aH (aJ ys)),.var [.rv cap]] [.row 0 v ys.length,.fn f [.ptr 1 0]] [.row i v ys.length,.fn f [.ptr j 0]] _ _ (by simp) (by simp [aP,fZ,bn,gp]) rfl (by simp [bM,hij]) rfl (AT Bd (ya (by simp [aP,gp,fZ,bg,bh,lX,bn,lY,lW,dn,lR,bM]))) (fun K hK=>?_)
 have hlen:=aj ys
 conv in fc _ _ _ _=>reduce
 simp -implicitDefEqProofs only [go_sem,Int.reduceNegSucc]
 refine cK (ι:=Nat) (fun k=>[(8,.rv (.int .i64 k)),(7,.rv (.int .i64 ys.length)),(0,.row 0 v ys.length),(1,.fn f [.ptr 1 0])]) (fun _=>[some (.row 1 v (aH (aJ ys))),some (.var [.rv cap])]) (fun k=>k≤ys.length∧∀ j,(h:j<ys.length)→j<k→p (ys[j]'h)=false) (fun k=>ys.length - k) 0 (by simp) (bp (by simp [lk])) (fun k hk K' hN hX hR=>?_)
 obtain ⟨cz,hk2⟩:=hk
 simp -implicitDefEqProofs only [go_sem,Int.reduceNegSucc]
 refine ai (fun hg=>?_) (fun hg=>?_)
 ·have av:k<ys.length:=by simp at hg;omega
  have hx:=pz av
  have cm:=hf (ys[k]'av) 1;repeat' (first | (simp -implicitDefEqProofs only [go_sem,Int.reduceNegSucc,hlen,hx]) | (with_reducible refine aA ?_) | (refine cC cm ?_ ?_ ?_;(focus (simp [aW,ag] <;> fail));(focus (simp [bk,aZ] <;> fail))) | (refine cZ cm ?_ ?_ ?_;(focus (simp [aW,ag] <;> fail));(focus (simp [bk,aZ] <;> fail))) | ((first | refine ai (fun hg=>?_) (fun hg=>?_) | refine aB (fun hg=>?_) (fun hg=>?_) | refine aC (fun hg=>?_) (fun hg=>?_)) <;> try simp -implicitDefEqProofs only [hg,Bool.not_true,Bool.not_false]) | ((with_reducible apply And.intro);focus (first | trivial | omega | decide | (simp -implicitDefEqProofs only [maxLen];omega) | (simp [maxLen,an,ak,au,az,aj,ay,ax] <;> omega))) | fail)
  ·refine hR _ _ (hK _ _ _ _ [] (dr _ _) ?_).2
   have:ys.findIdx? p=some k:=by
    rw [List.findIdx?_eq_some_iff_getElem]
    exact ⟨av,by simpa using hg,fun j hj=>by rw [hk2 j (by omega) hj];simp⟩
   rw [this]
   simp [dG,bM,newL,dK,dx,bD,bw,lk,bN,cO,cW,cQ,dZ,dY,ag,dH,bQ,aS,dg,dI,ey,aY,ew,aR,dh,cR,hij,Ne.symm hij]
  ·rw [ct (by omega)]
   refine hN (k+1) _ _ ⟨by omega,fun j hj hji=>?_⟩ (by omega) (bp (by simp [lk]))
   rcases Nat.lt_or_ge j k with h | h
   ·exact hk2 j hj h
   ·obtain rfl:j=k:=by omega
    simpa using hg
 ·have av:k=ys.length:=by simp at hg;omega
  subst av
  simp -implicitDefEqProofs only [go_sem,Int.reduceNegSucc]
  refine hX _ _ _ ?_
  repeat' (first | (simp -implicitDefEqProofs only [go_sem,Int.reduceNegSucc]) | (with_reducible refine aA ?_) | ((first | refine ai (fun hg=>?_) (fun hg=>?_) | refine aB (fun hg=>?_) (fun hg=>?_) | refine aC (fun hg=>?_) (fun hg=>?_)) <;> try simp -implicitDefEqProofs only [hg,Bool.not_true,Bool.not_false]) | ((with_reducible apply And.intro);focus (first | trivial | omega | decide | (simp -implicitDefEqProofs only [maxLen];omega) | (simp [maxLen,an,ak,au,az,aj,ay,ax] <;> omega))) | fail)
  refine (hK _ _ _ _ [] (dr _ _) ?_).2
  have:ys.findIdx? p=none:=by
   rw [List.findIdx?_eq_none_iff]
   intro x hx
   obtain ⟨j,hj,rfl⟩:=List.getElem_of_mem hx
   exact hk2 j hj hj
  rw [this]
  simp [dG,bM,newL,dK,dx,bD,bw,lk,bN,cO,cW,cQ,dZ,dY,ag,dH,bQ,aS,dg,dI,ey,aY,ew,aR,dh,cR,hij,Ne.symm hij]
def ef (ys:List Int) (p:Int→Bool):List Int:=ys.filter fun y=>!p y
def nh (ys:List Int) (p:Int→Bool):List Int:=ef ys p++List.replicate (ys.length - (ef ys p).length) 0
theorem Px (ys:List Int) (hb:ys.length≤8589934592) :
 aK Go.Proofs.Try.prog 70 [.row i v ys.length,.fn f [.ptr j 0]] [(i,.row 1 v (aH (aJ ys))),(j,.var [.rv cap])] [(i,.row 1 v (aH (aJ (nh ys p))))] (.row i v (ef ys p).length):=by
 refine vq Mp [i,j] [.row 1 v (aH (aJ ys)),.var [.rv cap]] [.row 1 v (aH (aJ ys)),.var [.rv cap]] [.row 0 v ys.length,.fn f [.ptr 1 0]] [.row i v ys.length,.fn f [.ptr j 0]] _ _ (by simp) (by simp [aP,fZ,bn,gp]) rfl (by simp [bM,hij]) rfl (AT Bd (ya (by simp [aP,gp,fZ,bg,bh,lX,bn,lY,lW,dn,lR,bM]))) (fun K hK=>?_)
 have wz:=PC f 0 1 v cap p (by decide) hf ys hb
 conv in fc _ _ _ _=>reduce
 simp -implicitDefEqProofs only [go_sem,Int.reduceNegSucc]
 cases og:ys.findIdx? p with
 | none=>
   rw [og] at wz
   have hno:ef ys p=ys:=by
    rw [List.findIdx?_eq_none_iff] at og
    exact List.filter_eq_self.2 fun a ha=>by rw [og a ha];rfl
   have e1:((-1:Int) == -1)=true:=rfl
   have cG:=wz;repeat' (first | (simp -implicitDefEqProofs only [go_sem,Int.reduceNegSucc,e1]) | (with_reducible refine aA ?_) | (refine cC cG ?_ ?_ ?_;(focus (simp [aW,ag] <;> fail));(focus (simp [bk,aZ] <;> fail))) | (refine cZ cG ?_ ?_ ?_;(focus (simp [aW,ag] <;> fail));(focus (simp [bk,aZ] <;> fail))) | ((first | refine ai (fun hg=>?_) (fun hg=>?_) | refine aB (fun hg=>?_) (fun hg=>?_) | refine aC (fun hg=>?_) (fun hg=>?_)) <;> try simp -implicitDefEqProofs only [hg,Bool.not_true,Bool.not_false]) | ((with_reducible apply And.intro);focus (first | trivial | omega | decide | (simp -implicitDefEqProofs only [maxLen];omega) | (simp [maxLen,an,ak,au,az,aj,ay,ax] <;> omega))) | fail)
   refine (hK _ _ _ _ [] (dr _ _) ?_).2
   simp [dG,bM,newL,dK,dx,bD,bw,lk,bN,cO,cW,cQ,dZ,dY,ag,dH,bQ,aS,dg,dI,ey,aY,ew,aR,dh,cR,hij,Ne.symm hij,hno,nh]
 | some k0=>
   rw [og] at wz
   rw [List.findIdx?_eq_some_iff_getElem] at og
   obtain ⟨cw,fk,qE⟩:=og
   have e1:(((k0:Nat):Int) == -1)=false:=by simp
   have w0:=ct (k:=k0) (by omega)
   have cH:=wz;repeat' (first | (simp -implicitDefEqProofs only [go_sem,Int.reduceNegSucc,e1,w0]) | (with_reducible refine aA ?_) | (refine cC cH ?_ ?_ ?_;(focus (simp [aW,ag] <;> fail));(focus (simp [bk,aZ] <;> fail))) | (refine cZ cH ?_ ?_ ?_;(focus (simp [aW,ag] <;> fail));(focus (simp [bk,aZ] <;> fail))) | ((first | refine ai (fun hg=>?_) (fun hg=>?_) | refine aB (fun hg=>?_) (fun hg=>?_) | refine aC (fun hg=>?_) (fun hg=>?_)) <;> try simp -implicitDefEqProofs only [hg,Bool.not_true,Bool.not_false]) | ((with_reducible apply And.intro);focus (first | trivial | omega | decide | (simp -implicitDefEqProofs only [maxLen];omega) | (simp [maxLen,an,ak,au,az,aj,ay,ax] <;> omega))) | fail)
   let kept:Nat→List Int:=fun j=>ef (ys.take j) p
   have MN:∀ j,(kept j).length≤j:=fun j=>by
    have:=List.length_filter_le (fun y=>!p y) (ys.take j)
    simp -implicitDefEqProofs only [List.length_take] at this
    show (ef (ys.take j) p).length≤j
    unfold ef;omega
   have Dx:∀ j (h:j<ys.length),kept (j+1)=kept j++if p (ys[j]'h)=true then [] else [ys[j]'h]:=fun j h=>by
    show ef _ _=ef _ _++_
    rw [List.take_succ_eq_append_getElem h]
    unfold ef
    rw [List.filter_append]
    cases gf:p (ys[j]'h) <;> simp [gf]
   have ML:kept k0=ys.take k0:=List.filter_eq_self.2 fun a ha=>by
    obtain ⟨q,hq,rfl⟩:=List.getElem_of_mem ha
    have Kd:q<k0:=by simp at hq;omega
    have:=qE q Kd
    simp -implicitDefEqProofs only [Bool.not_eq_true] at this
    simp [this]
   have zP:kept (k0+1)=ys.take k0:=by rw [Dx k0 cw,ML,fk];simp
   refine cK (ι:=List Int×Nat) (fun q=>[(6,.rv (.int .i64 q.2)),(5,.rv (.int .i64 (kept q.2).length)),(0,.row 0 v ys.length),(1,.fn f [.ptr 1 0])]) (fun q=>[some (.row 1 v (aH (aJ q.1))),some (.var [.rv cap])]) (fun q=>q.1.length=ys.length∧q.2≤ys.length∧(kept q.2).length<q.2∧q.1.take (kept q.2).length=kept q.2∧q.1.drop q.2=ys.drop q.2) (fun q=>ys.length - q.2) (ys,k0+1) ⟨rfl,cw,?_,?_,rfl⟩ (bp ?_) (fun q hq K' hN hX hR=>?_)
   ·show (kept (k0+1)).length<k0+1
    rw [zP];simp;omega
   ·show ys.take (kept (k0+1)).length=kept (k0+1)
    rw [zP];simp
   ·have:(kept (k0+1)).length=k0:=by rw [zP];simp;omega
    simp [lk,this]
   obtain ⟨zs,j⟩:=q
   obtain ⟨q1,q2,q3,q4,q5⟩:=hq
   dsimp only at q1 q2 q3 q4 q5 ⊢
   simp -implicitDefEqProofs only [go_sem,Int.reduceNegSucc]
   refine ai (fun hg=>?_) (fun hg=>?_)
   ·have hj:j<ys.length:=by simp at hg;omega
    have zj:zs[j]'(by omega)=ys[j]'hj:=by
     have h1:=List.getElem_drop (xs:=zs) (i:=j) (j:=0) (h:=by simp;omega)
     have h2:=List.getElem_drop (xs:=ys) (i:=j) (j:=0) (h:=by simp;omega)
     simp -implicitDefEqProofs only [Nat.add_zero] at h1 h2
     rw [← h1,← h2]
     congr 1
    have hx:=pz (l:=zs) (i:=j) (by omega)
    rw [zj] at hx
    have hzl:=aj zs
    have nC:=Dx j hj
    have wj:=ct (k:=j) (by omega)
    have wi:=ct (k:=(kept j).length) (by omega)
    have fm:=pz (l:=zs) (i:=(kept j).length) (by omega)
    have cY:=hf (ys[j]'hj) 1;repeat' (first | (simp -implicitDefEqProofs only [go_sem,Int.reduceNegSucc,hx,hzl,q1,fm,kU,wj,wi]) | (with_reducible refine aA ?_) | (refine cC cY ?_ ?_ ?_;(focus (simp [aW,ag] <;> fail));(focus (simp [bk,aZ] <;> fail))) | (refine cZ cY ?_ ?_ ?_;(focus (simp [aW,ag] <;> fail));(focus (simp [bk,aZ] <;> fail))) | ((first | refine ai (fun hg=>?_) (fun hg=>?_) | refine aB (fun hg=>?_) (fun hg=>?_) | refine aC (fun hg=>?_) (fun hg=>?_)) <;> try simp -implicitDefEqProofs only [hg,Bool.not_true,Bool.not_false]) | ((with_reducible apply And.intro);focus (first | trivial | omega | decide | (simp -implicitDefEqProofs only [maxLen];omega) | (simp [maxLen,an,ak,au,az,aj,ay,ax] <;> omega))) | fail)
    ·have gf:p (ys[j]'hj)=false:=by simpa using hg
     rw [gf] at nC
     simp -implicitDefEqProofs only [Bool.false_eq_true,if_false] at nC
     refine hN (zs.set (kept j).length (ys[j]'hj),j+1) _ _ ⟨by simp [q1],by omega,?_,?_,?_⟩ (by dsimp only;omega) (bp (by simp [lk,nC]))
     ·show (kept (j+1)).length<j+1
      rw [nC];simp;omega
     ·show (zs.set (kept j).length (ys[j]'hj)).take (kept (j+1)).length=kept (j+1)
      rw [nC]
      simp -implicitDefEqProofs only [List.length_append,List.length_singleton]
      rw [List.take_succ_eq_append_getElem (by simp;omega),List.take_set_of_le (by omega),q4]
      simp
     ·show (zs.set (kept j).length (ys[j]'hj)).drop (j+1)=ys.drop (j+1)
      rw [List.drop_set_of_lt (by omega),← List.drop_drop,q5,List.drop_drop]
    ·have gf:p (ys[j]'hj)=true:=by simpa using hg
     rw [gf] at nC
     simp -implicitDefEqProofs only [if_true,List.append_nil] at nC
     refine hN (zs,j+1) _ _ ⟨q1,by omega,?_,?_,?_⟩ (by dsimp only;omega) (bp (by simp [lk,nC]))
     ·show (kept (j+1)).length<j+1
      rw [nC];omega
     ·show zs.take (kept (j+1)).length=kept (j+1)
      rw [nC];exact q4
     ·show zs.drop (j+1)=ys.drop (j+1)
      rw [← List.drop_drop,q5,List.drop_drop]
   ·have hj:j=ys.length:=by simp at hg;omega
    subst hj
    have hkk:kept ys.length=ef ys p:=by show ef (ys.take ys.length) p=_;rw [List.take_length]
    have fE:=MN ys.length
    rw [hkk] at fE q4 q3
    simp -implicitDefEqProofs only [hkk,go_sem,Int.reduceNegSucc]
    refine hX _ _ _ ?_
    have hnz:(((ef ys p).length:Int)=0)=((ef ys p).length=0):=propext (by omega)
    repeat' (first | (simp -implicitDefEqProofs only [go_sem,Int.reduceNegSucc]) | (with_reducible refine aA ?_) | ((first | refine ai (fun hg=>?_) (fun hg=>?_) | refine aB (fun hg=>?_) (fun hg=>?_) | refine aC (fun hg=>?_) (fun hg=>?_)) <;> try simp -implicitDefEqProofs only [hg,Bool.not_true,Bool.not_false]) | ((with_reducible apply And.intro);focus (first | trivial | omega | decide | (simp -implicitDefEqProofs only [maxLen];omega) | (simp [maxLen,an,ak,au,az,aj,ay,ax] <;> omega))) | fail)
    have hrow:aH (List.take (ef ys p).length (aJ zs))++List.replicate (ys.length - (ef ys p).length) [U.rv (.int .i64 0)]++List.drop ((ef ys p).length+(List.replicate (ys.length - (ef ys p).length) [U.rv (.int .i64 0)]).length) (aH (aJ zs))=aH (aJ (nh ys p)):=by
     rw [List.drop_of_length_le (by simp [ay,aj];omega),List.append_nil,uL,show List.take (ef ys p).length (aJ zs)=aJ (zs.take (ef ys p).length) by simp [aJ,List.map_take],q4,EW]
     simp [aJ,nh]
    rw [hrow]
    refine (hK _ _ _ _ [] (dr _ _) ?_).2
    simp [dG,bM,newL,dK,dx,bD,bw,lk,bN,cO,cW,cQ,dZ,dY,ag,dH,bQ,aS,dg,dI,ey,aY,ew,aR,dh,cR,hij,Ne.symm hij]
end
section
variable (l:List Nd) (n:Int)
theorem Py (hb:l.length≤8589934592) (m:Nat):aK Go.Proofs.Try.prog 48 [.rv (cc l),.rv (.int .i64 n)] [] [(m,.row 1 1 (aH (aJ (nh (aX (eK l n)) fun m=>!fV l m))))] (.row m 1 (cB l n).length):=by
 refine lp LY [] [] [] [.rv (cc l),.rv (.int .i64 n)] [.rv (cc l),.rv (.int .i64 n)] _ _ (by simp) (by simp [aP,bg]) rfl (by simp [bM]) (by simp [dn]) (fun K hK=>?_)
 have fE:=Dy l n
 have hkn:=NM (eK l n)
 have hd:=Px 72 1 0 1 (cc l) (fun m=>!fV l m) (by decide) (fun m j=>PA l m j) (aX (eK l n)) (by rw [hkn];omega)
 rw [hkn] at hd
 have hfl:(ef (aX (eK l n)) fun m=>!fV l m).length=(cB l n).length:=by
  unfold ef cB aX
  rw [List.filter_map,List.length_map]
  simp [Function.comp_def]
 rw [hfl] at hd
 conv in fc _ _ _ _=>reduce
 simp -implicitDefEqProofs only [go_sem,Int.reduceNegSucc]
 refine cC (PE l n 1 hb) (by simp [aW,ag]) (by simp [bk,aZ]) ?_
 have dm:=hd;repeat' (first | (simp -implicitDefEqProofs only [go_sem,Int.reduceNegSucc]) | (with_reducible refine aA ?_) | (refine cC dm ?_ ?_ ?_;(focus (simp [aW,ag] <;> fail));(focus (simp [bk,aZ] <;> fail))) | (refine cZ dm ?_ ?_ ?_;(focus (simp [aW,ag] <;> fail));(focus (simp [bk,aZ] <;> fail))) | ((first | refine ai (fun hg=>?_) (fun hg=>?_) | refine aB (fun hg=>?_) (fun hg=>?_) | refine aC (fun hg=>?_) (fun hg=>?_)) <;> try simp -implicitDefEqProofs only [hg,Bool.not_true,Bool.not_false]) | ((with_reducible apply And.intro);focus (first | trivial | omega | decide | (simp -implicitDefEqProofs only [maxLen];omega) | (simp [maxLen,an,ak,au,az,aj,ay,ax] <;> omega))) | fail)
 refine (hK _ _ _ _ [none,some m] (dr _ _) ?_).2
 simp [dG,bM,newL,dK,dx,bD,bw,lk,bN,cO,cW,cQ,dZ,dY,ag,dH,bQ,aS,dg,dI,ey,aY,ew,aR,dh,cR]
theorem Ff (hb:l.length≤8589934592):aK Go.Proofs.Try.prog 48 [.rv (cc l),.rv (.int .i64 n)] [] [] (.rv (.sl 1 (aJ (aX (cB l n))))):=by
 refine GV (rs:=[cc l,.int .i64 n]) (Py l n hb 0) ?_ ⟨_,.inl rfl⟩
 have hfl:(ef (aX (eK l n)) fun m=>!fV l m)=aX (cB l n):=by
  unfold ef cB aX
  rw [List.filter_map]
  simp [Function.comp_def]
 have rR:(cB l n).length=(aX (cB l n)).length:=by simp [aX]
 refine .fz _ _ ?_
 have h1:=qq (τ:=fun _=>none) (h:=bz (fun _=>none) [(0,HB.row 1 1 (aH (aJ (nh (aX (eK l n)) fun m=>!fV l m))))]) (j:=0) (e:=1) (af:=1) (len:=(cB l n).length) (xs:=aJ (nh (aX (eK l n)) fun m=>!fV l m)) (by simp [bz,up]) rfl (by rw [aj,nh,List.length_append,hfl,← rR];omega) (mB _)
 rw [show (aJ (nh (aX (eK l n)) fun m=>!fV l m)).take (cB l n).length=aJ (aX (cB l n)) by
  rw [rR]
  simp -implicitDefEqProofs only [aJ,← List.map_take,nh,hfl]
  rw [List.take_left]] at h1
 exact h1
end
end Go.aI

namespace Go.aI
open Go
theorem LH:aV Go.Proofs.Try.prog 11 27 (fc Go.Proofs.Try.prog 11 27 [(.t 4)]) [(.t 4)]:=bq (by kernel_rfl)
theorem LI:aV Go.Proofs.Try.prog 12 21 (fc Go.Proofs.Try.prog 12 21 [(.t 4)]) [(.t 4)]:=bq (by kernel_rfl)
theorem xN {l:List Nd} (ht:cN l=true):cA l:=sD.1 (by unfold cN at ht;simp -implicitDefEqProofs only [Bool.and_eq_true] at ht;exact ht.1)
theorem QI {l:List Nd} (ht:cN l=true) {k:Nat} (hk:k<l.length):ez (l[k]'hk).s=true:=by
 unfold cN at ht
 simp -implicitDefEqProofs only [Bool.and_eq_true,List.all_eq_true] at ht
 exact ht.2 _ (List.getElem_mem hk)
theorem QE {s:aq} (h:ez s=true):0≤s.position∧s.position≤3:=by
 unfold ez ri at h
 simp -implicitDefEqProofs only [Bool.and_eq_true,decide_eq_true_eq] at h
 exact ⟨h.2.1.1.1.1,h.2.1.1.1.2⟩
theorem Bp {l:List Nd} (h:eI l=0):cN l=true:=by
 unfold eI at h
 cases ht:cN l with
 | true=>rfl
 | false=>rw [ht] at h;simp at h
theorem KB (l:List Nd) (n:Int):(n<0∧dw l n=false)∨((l.length:Int)≤n∧0≤n∧dw l n=false)∨∃ k:Nat,n=k∧k<l.length∧dw l n=true:=by
 by_cases h0:n<0
 ·exact .inl ⟨h0,by simp [dw];omega⟩
 ·by_cases h1:n<l.length
  ·exact .inr (.inr ⟨n.toNat,by omega,by omega,by simp [dw];omega⟩)
  ·exact .inr (.inl ⟨by omega,by omega,by simp [dw];omega⟩)
theorem Fq (l:List Nd) (ht:cN l=true) (n:Int):aK Go.Proofs.Try.prog 11 [.rv (.sl 49 (aQ l)),.rv (.int .i64 n)] [] [] (.rv (.bool (eL l n))):=by
 refine bG LH [.rv (.sl 49 (aQ l)),.rv (.int .i64 n)] _ (by simp) (by simp [aP,bh,bu,bg,bn,aq.sv,Ln.sv,Nd.sv]) (fun K hK=>?_)
 have hlen:=au l
 have hs:=xN ht
 conv in fc _ _ _ _=>reduce
 simp -implicitDefEqProofs only [go_sem,Int.reduceNegSucc]
 rcases KB l n with ⟨h1,hi⟩ | ⟨h1,h0,hi⟩ | ⟨k,rfl,hk,hi⟩
 ·have e1:decide (n<0)=true:=decide_eq_true h1
  repeat' (first | (simp -implicitDefEqProofs only [go_sem,Int.reduceNegSucc,e1,hlen]) | (with_reducible refine aA ?_) | ((first | refine ai (fun hg=>?_) (fun hg=>?_) | refine aB (fun hg=>?_) (fun hg=>?_) | refine aC (fun hg=>?_) (fun hg=>?_)) <;> try simp -implicitDefEqProofs only [hg,Bool.not_true,Bool.not_false]) | ((with_reducible apply And.intro);focus (first | trivial | omega | decide | (simp -implicitDefEqProofs only [maxLen];omega) | (simp [maxLen,an,ak,au,az,aj,ay,ax] <;> omega))) | fail)
  exact (hK _ _ (bP (by simp [eL,hi,lk]))).2
 ·have e1:decide (n<0)=false:=decide_eq_false (by omega)
  have e2:decide (n≥(l.length:Int))=true:=decide_eq_true h1
  repeat' (first | (simp -implicitDefEqProofs only [go_sem,Int.reduceNegSucc,e1,e2,hlen]) | (with_reducible refine aA ?_) | ((first | refine ai (fun hg=>?_) (fun hg=>?_) | refine aB (fun hg=>?_) (fun hg=>?_) | refine aC (fun hg=>?_) (fun hg=>?_)) <;> try simp -implicitDefEqProofs only [hg,Bool.not_true,Bool.not_false]) | ((with_reducible apply And.intro);focus (first | trivial | omega | decide | (simp -implicitDefEqProofs only [maxLen];omega) | (simp [maxLen,an,ak,au,az,aj,ay,ax] <;> omega))) | fail)
  exact (hK _ _ (bP (by simp [eL,hi,lk]))).2
 ·have e1:decide ((k:Int)<0)=false:=decide_eq_false (by omega)
  have e2:decide ((k:Int)≥(l.length:Int))=false:=decide_eq_false (by omega)
  repeat' (first | (simp -implicitDefEqProofs only [go_sem,Int.reduceNegSucc,e1,e2,hlen]) | (with_reducible refine aA ?_) | ((first | refine ai (fun hg=>?_) (fun hg=>?_) | refine aB (fun hg=>?_) (fun hg=>?_) | refine aC (fun hg=>?_) (fun hg=>?_)) <;> try simp -implicitDefEqProofs only [hg,Bool.not_true,Bool.not_false]) | ((with_reducible apply And.intro);focus (first | trivial | omega | decide | (simp -implicitDefEqProofs only [maxLen];omega) | (simp [maxLen,an,ak,au,az,aj,ay,ax] <;> omega))) | fail)
  refine cK (ι:=Nat) (fun i=>[(1,.rv (.int .i64 (fC (aN l k) i))),(0,.rv (.sl 49 (aQ l)))]) (fun _=>[]) (fun i=>i≤(aN l k).length∧((aN l k).drop i).all (gE l)=(aN l k).all (gE l)) (fun i=>(aN l k).length - i) 0 (by simp) (by rw [sX];exact bp (by simp [lk])) (fun i hi' K' hN hX hR=>?_)
  obtain ⟨hi1,hi2⟩:=hi'
  simp -implicitDefEqProofs only [go_sem,Int.reduceNegSucc]
  refine ai (fun hg=>?_) (fun hg=>?_)
  ·have cV:i<(aN l k).length:=oI.1 (by simpa using hg)
   have gu:=sW cV
   have hlt:(aN l k)[i]<l.length:=xu hk cV
   have hx:=eX hlt
   have hpar:=kz hlt
   have mq:=xm hs.wf k hk i cV
   have hsh:=Az hlt
   have hs0:((l[(aN l k)[i]]'hlt).cells)[0]?=some (.bool (l[(aN l k)[i]]'hlt).s.shown):=rfl
   repeat' (first | (simp -implicitDefEqProofs only [go_sem,Int.reduceNegSucc,hlen,ak,lM,gu,hx,hpar,mq,hs0,hsh]) | (with_reducible refine aA ?_) | ((first | refine ai (fun hg=>?_) (fun hg=>?_) | refine aB (fun hg=>?_) (fun hg=>?_) | refine aC (fun hg=>?_) (fun hg=>?_)) <;> try simp -implicitDefEqProofs only [hg,Bool.not_true,Bool.not_false]) | ((with_reducible apply And.intro);focus (first | trivial | omega | decide | (simp -implicitDefEqProofs only [maxLen];omega) | (simp [maxLen,an,ak,au,az,aj,ay,ax] <;> omega))) | fail)
   ·refine hR _ _ (hK _ _ (bP ?_)).2
    have:(aN l k).all (gE l)=false:=mX cV hi2 (by simpa using hg)
    simp [eL,hi,dR,this,lk]
   ·exact hN (i+1) _ _ ⟨by omega,mY cV hi2 (by simpa using hg)⟩ (by omega) (bp (by simp [lk]))
  ·have cV:¬ i<(aN l k).length:=fun h=>by have:=oI.2 h;simp at hg;omega
   simp -implicitDefEqProofs only [go_sem,Int.reduceNegSucc]
   refine hX _ _ _ ?_
   repeat' (first | (simp -implicitDefEqProofs only [go_sem,Int.reduceNegSucc]) | (with_reducible refine aA ?_) | ((first | refine ai (fun hg=>?_) (fun hg=>?_) | refine aB (fun hg=>?_) (fun hg=>?_) | refine aC (fun hg=>?_) (fun hg=>?_)) <;> try simp -implicitDefEqProofs only [hg,Bool.not_true,Bool.not_false]) | ((with_reducible apply And.intro);focus (first | trivial | omega | decide | (simp -implicitDefEqProofs only [maxLen];omega) | (simp [maxLen,an,ak,au,az,aj,ay,ax] <;> omega))) | fail)
   refine (hK _ _ (bP ?_)).2
   have:=mW (by omega) hi2
   simp [eL,hi,dR,this,lk]
theorem Qn (l:List Nd) (ht:cN l=true) (n:Int):aK Go.Proofs.Try.prog 12 [.rv (.sl 49 (aQ l)),.rv (.int .i64 n)] [] [] (.rv (.bool (eu l n))):=by
 refine bG LI [.rv (.sl 49 (aQ l)),.rv (.int .i64 n)] _ (by simp) (by simp [aP,bh,bu,bg,bn,aq.sv,Ln.sv,Nd.sv]) (fun K hK=>?_)
 have hlen:=au l
 have hm:=Fq l ht n
 conv in fc _ _ _ _=>reduce
 simp -implicitDefEqProofs only [go_sem,Int.reduceNegSucc]
 cases hi:eL l n with
 | false=>
   rw [hi] at hm
   have br:=hm;repeat' (first | (simp -implicitDefEqProofs only [go_sem,Int.reduceNegSucc]) | (with_reducible refine aA ?_) | (with_reducible first | refine aF br ?_ | refine aG br ?_) | ((first | refine ai (fun hg=>?_) (fun hg=>?_) | refine aB (fun hg=>?_) (fun hg=>?_) | refine aC (fun hg=>?_) (fun hg=>?_)) <;> try simp -implicitDefEqProofs only [hg,Bool.not_true,Bool.not_false]) | ((with_reducible apply And.intro);focus (first | trivial | omega | decide | (simp -implicitDefEqProofs only [maxLen];omega) | (simp [maxLen,an,ak,au,az,aj,ay,ax] <;> omega))) | fail)
   all_goals exact (hK _ _ (bP (by simp [eu,hi,lk]))).2
 | true=>
   rw [hi] at hm
   have hin:dw l n=true:=by simp [eL] at hi;exact hi.1
   obtain ⟨k,rfl,hk⟩:=rV hin
   have hx:=eX hk
   have hs:cr l k=(l[k]'hk).s:=by simp [cr,hin,hk]
   obtain ⟨q1,q2⟩:=QE (QI ht hk)
   have hp:((l[k]'hk).cells.drop 1)[0]?=some (.int .i64 (l[k]'hk).s.position):=rfl
   have y_2:=hm;repeat' (first | (simp -implicitDefEqProofs only [go_sem,Int.reduceNegSucc,hx,hlen,ak,hp]) | (with_reducible refine aA ?_) | (with_reducible first | refine aF y_2 ?_ | refine aG y_2 ?_) | ((first | refine ai (fun hg=>?_) (fun hg=>?_) | refine aB (fun hg=>?_) (fun hg=>?_) | refine aC (fun hg=>?_) (fun hg=>?_)) <;> try simp -implicitDefEqProofs only [hg,Bool.not_true,Bool.not_false]) | ((with_reducible apply And.intro);focus (first | trivial | omega | decide | (simp -implicitDefEqProofs only [maxLen];omega) | (simp [maxLen,an,ak,au,az,aj,ay,ax] <;> omega))) | fail)
   ·refine (hK _ _ (bP ?_)).2
    simp -implicitDefEqProofs only [lk,if_true,eu,hi,hs]
    clear hK hs hp
    simp at hg
    congr 2
    rw [Bool.eq_iff_iff];simp;omega
   ·refine (hK _ _ (bP ?_)).2
    simp -implicitDefEqProofs only [lk,if_true,eu,hi,hs]
    clear hK hs hp
    simp at hg
    simp [hg]
def Ro (l:List Nd) (k p:Nat):List Nat:=(aT l k p).filter fun (m:Nat)=>fV l m
def RE (l:List Nd) (n:Int) (i:Nat):Int:=if dw l n=true∧n<i then (if (i:Int)<yF l n then (i:Int) else yF l n) else 0
end Go.aI

namespace Go.aI
open Go
theorem wZ (xs:List Nat):(aJ (aX xs)).length=xs.length:=by simp [aJ,aX]
def Rq (p:Int→Bool) (xs:List Nat):Int:=match xs.find? (fun (m:Nat)=>p m) with
 | some k=>k
 | none=>-1
end Go.aI

namespace Go.aI
open Go
theorem LK:aV Go.Proofs.Try.prog 53 9 (fc Go.Proofs.Try.prog 53 9 [(.t 2)]) [(.t 2)]:=bq (by kernel_rfl)
theorem LN:aV Go.Proofs.Try.prog 54 47 (fc Go.Proofs.Try.prog 54 47 [(.t 2),(.t 3)]) [(.t 2),(.t 3)]:=bq (by kernel_rfl)
theorem LJ:aV Go.Proofs.Try.prog 68 12 (fc Go.Proofs.Try.prog 68 12 [(.t 6)]) [(.t 6)]:=bq (by kernel_rfl)
def bU (x:Int):Bool:=decide (x≥-1125899906842624) && decide (x≤1125899906842624)
theorem nk {x:Int}:bU x=true↔-1125899906842624≤x∧x≤1125899906842624:=by simp [bU]
def dS (xs:List Int):Bool:=xs.all bU && bU xs.sum
def dU (xs:List Int):Int:=if dS xs=true then xs.sum else 0
theorem uM (a:Int):a.fdiv (2 ^ min 25 64)=a / 33554432:=by
 rw [Int.fdiv_eq_ediv_of_nonneg _ (by decide)];rfl
theorem Gm (a:Int):IntKind.i64.wrap ((BitVec.ofInt 64 a &&& BitVec.ofInt 64 33554431).toNat:Int)=a % 33554432:=by
 have h1:(BitVec.ofInt 64 a &&& BitVec.ofInt 64 33554431).toNat=(BitVec.ofInt 64 a).toNat % 33554432:=by
  show (BitVec.ofInt 64 a &&& BitVec.ofInt 64 33554431).toNat=_
  rw [BitVec.toNat_and]
  exact Nat.and_two_pow_sub_one_eq_mod _ 25
 have h2:(((BitVec.ofInt 64 a).toNat % 33554432:Nat):Int)=a % 33554432:=by
  rw [BitVec.toNat_ofInt]
  omega
 rw [h1,h2,wrap_i64 (by omega) (by omega)]
theorem sU (a:Int):IntKind.i64.wrap ((@BitVec.toNat 64 (@HAnd.hAnd (BitVec 64) (BitVec 64) (BitVec 64) (@instHAndOfAndOp (BitVec IntKind.i64.bits) (@BitVec.instAndOp IntKind.i64.bits)) (BitVec.ofInt 64 a) (BitVec.ofInt 64 33554431)):Nat):Int)=a % 33554432:=Gm a
theorem gF (x:Int):aK Go.Proofs.Try.prog 53 [.rv (.int .i64 x)] [] [] (.rv (.bool (bU x))):=by
 refine bG LK [.rv (.int .i64 x)] _ (by simp) (by simp [aP,bh,bu,bg,bn,aq.sv,Ln.sv,Nd.sv]) (fun K hK=>?_)
 conv in fc _ _ _ _=>reduce
 simp -implicitDefEqProofs only [go_sem,Int.reduceNegSucc]
 repeat' (first | (simp -implicitDefEqProofs only [go_sem,Int.reduceNegSucc]) | (with_reducible refine aA ?_) | ((first | refine ai (fun hg=>?_) (fun hg=>?_) | refine aB (fun hg=>?_) (fun hg=>?_) | refine aC (fun hg=>?_) (fun hg=>?_)) <;> try simp -implicitDefEqProofs only [hg,Bool.not_true,Bool.not_false]) | ((with_reducible apply And.intro);focus (first | trivial | omega | decide | (simp -implicitDefEqProofs only [maxLen];omega) | (simp [maxLen,an,ak,au,az,aj,ay,ax] <;> omega))) | fail)
 all_goals (refine (hK _ _ (bP ?_)).2;clear hK;simp_all [lk,bU];try (intro _;omega))
def RI (x:Ln) (d:Int):Int:=if x.kind=1 then x.n else d
def vD (v lo hi:Int):Int:=if (if v>hi then hi else v)<lo then lo else (if v>hi then hi else v)
theorem Fi (v lo hi:Int):aK Go.Proofs.Try.prog 68 [.rv (.int .i64 v),.rv (.int .i64 lo),.rv (.int .i64 hi)] [] [] (.rv (.int .i64 (vD v lo hi))):=by
 refine bG LJ [.rv (.int .i64 v),.rv (.int .i64 lo),.rv (.int .i64 hi)] _ (by simp) (by simp [aP,bh,bu,bg,bn,aq.sv,Ln.sv,Nd.sv]) (fun K hK=>?_)
 conv in fc _ _ _ _=>reduce
 simp -implicitDefEqProofs only [go_sem,Int.reduceNegSucc]
 repeat' (first | (simp -implicitDefEqProofs only [go_sem,Int.reduceNegSucc]) | (with_reducible refine aA ?_) | ((first | refine ai (fun hg=>?_) (fun hg=>?_) | refine aB (fun hg=>?_) (fun hg=>?_) | refine aC (fun hg=>?_) (fun hg=>?_)) <;> try simp -implicitDefEqProofs only [hg,Bool.not_true,Bool.not_false]) | ((with_reducible apply And.intro);focus (first | trivial | omega | decide | (simp -implicitDefEqProofs only [maxLen];omega) | (simp [maxLen,an,ak,au,az,aj,ay,ax] <;> omega))) | fail)
 exact (hK _ _ (bP rfl)).2
theorem Gk {p:Int→Bool} {xs:List Int} (h:∀ i,(h:i<xs.length)→p xs[i]=true):xs.all p=true:=by
 rw [List.all_eq_true];intro x hx
 obtain ⟨i,hi,rfl⟩:=List.getElem_of_mem hx
 exact h i hi
theorem FG {xs:List Int} {k:Nat} (h:k<xs.length):(xs.take (k+1)).sum=(xs.take k).sum+xs[k]:=by
 rw [List.take_succ_eq_append_getElem h,List.sum_append];simp
theorem NS {xs:List Int} {i:Nat} (h:i<xs.length) (hf:bU xs[i]=false):dS xs=false:=by
 unfold dS
 rw [show xs.all bU=false from by
  rw [List.all_eq_false];exact ⟨_,List.getElem_mem h,by simp [hf]⟩]
 rfl
theorem PY (xs:List Int) (hb:xs.length≤1000):aK Go.Proofs.Try.prog 54 [.rv (.sl 1 (aJ xs))] [] [] (.aM [.rv (.int .i64 (dU xs)),.rv (.bool (dS xs))]):=by
 refine bG LN [.rv (.sl 1 (aJ xs))] _ (by simp) (by simp [aP,bh,bu,bg,bn,aq.sv,Ln.sv,Nd.sv]) (fun K hK=>?_)
 have hl:=aj xs
 conv in fc _ _ _ _=>reduce
 simp -implicitDefEqProofs only [hl,go_sem,Int.reduceNegSucc]
 repeat' (first | (simp -implicitDefEqProofs only [go_sem,Int.reduceNegSucc,hl]) | (with_reducible refine aA ?_) | ((first | refine ai (fun hg=>?_) (fun hg=>?_) | refine aB (fun hg=>?_) (fun hg=>?_) | refine aC (fun hg=>?_) (fun hg=>?_)) <;> try simp -implicitDefEqProofs only [hg,Bool.not_true,Bool.not_false]) | ((with_reducible apply And.intro);focus (first | trivial | omega | decide | (simp -implicitDefEqProofs only [maxLen];omega) | (simp [maxLen,an,ak,au,az,aj,ay,ax] <;> omega))) | fail)
 refine cK (ι:=Nat×Int×Int) (fun q=>[(11,.rv (.int .i64 q.1)),(10,.rv (.int .i64 xs.length)),(9,.rv (.sl 1 (aJ xs))),(4,.rv (.int .i64 q.2.1)),(5,.rv (.int .i64 q.2.2))]) (fun _=>[]) (fun q=>q.1≤xs.length∧(∀ i,(h:i<xs.length)→i<q.1→bU xs[i]=true)∧q.2.1*33554432+q.2.2=(xs.take q.1).sum∧-(33554432*q.1)≤q.2.1∧q.2.1≤33554432*q.1∧0≤q.2.2∧q.2.2≤33554432*q.1) (fun q=>xs.length - q.1) (0,0,0) ⟨by simp,fun i _ h=>absurd h (by simp),by simp,by simp,by simp,by simp,by simp⟩ (bp (by simp [lk])) (fun q hk K' hN hX hR=>?_)
 obtain ⟨k,hi,lo⟩:=q
 obtain ⟨cz,hk2,dc,JJ,JK,JL,JM⟩:=hk
 dsimp only at cz hk2 dc JJ JK JL JM ⊢
 simp -implicitDefEqProofs only [go_sem,Int.reduceNegSucc]
 refine ai (fun hg=>?_) (fun hg=>?_)
 ·have av:k<xs.length:=by simp at hg;omega
  have hx:=pz av
  have wu:=ct (k:=k) (by omega)
  have hf:=gF xs[k]
  cases nt:bU xs[k] with
  | false=>
    rw [nt] at hf
    have br:=hf;repeat' (first | (simp -implicitDefEqProofs only [go_sem,Int.reduceNegSucc,hx,hl,wu]) | (with_reducible refine aA ?_) | (with_reducible first | refine aF br ?_ | refine aG br ?_) | ((first | refine ai (fun hg=>?_) (fun hg=>?_) | refine aB (fun hg=>?_) (fun hg=>?_) | refine aC (fun hg=>?_) (fun hg=>?_)) <;> try simp -implicitDefEqProofs only [hg,Bool.not_true,Bool.not_false]) | ((with_reducible apply And.intro);focus (first | trivial | omega | decide | (simp -implicitDefEqProofs only [maxLen];omega) | (simp [maxLen,an,ak,au,az,aj,ay,ax] <;> omega))) | fail)
    refine hR _ _ (hK _ _ ?_).2
    have:=NS av nt
    exact kC (by simp [lk,dU,this]) (by simp [lk,this])
  | true=>
    rw [nt] at hf
    have og:=nk.1 nt
    have hst:=FG av
    have w1:IntKind.i64.wrap (hi+xs[k] / 33554432)=hi+xs[k] / 33554432:=by rw [wrap_i64 (by omega) (by omega)]
    have w2:IntKind.i64.wrap (lo+xs[k] % 33554432)=lo+xs[k] % 33554432:=by rw [wrap_i64 (by omega) (by omega)]
    have y_2:=hf;repeat' (first | (simp -implicitDefEqProofs only [go_sem,Int.reduceNegSucc,hx,hl,wu,uM,sU,w1,w2]) | (with_reducible refine aA ?_) | (with_reducible first | refine aF y_2 ?_ | refine aG y_2 ?_) | ((first | refine ai (fun hg=>?_) (fun hg=>?_) | refine aB (fun hg=>?_) (fun hg=>?_) | refine aC (fun hg=>?_) (fun hg=>?_)) <;> try simp -implicitDefEqProofs only [hg,Bool.not_true,Bool.not_false]) | ((with_reducible apply And.intro);focus (first | trivial | omega | decide | (simp -implicitDefEqProofs only [maxLen];omega) | (simp [maxLen,an,ak,au,az,aj,ay,ax] <;> omega))) | fail)
    refine hN (k+1,hi+xs[k] / 33554432,lo+xs[k] % 33554432) _ _ ⟨by dsimp only;omega,fun i h hi=>?_,by dsimp only;omega,by dsimp only;omega,by dsimp only;omega,by dsimp only;omega,by dsimp only;omega⟩ (by dsimp only;omega) (bp (by simp [lk]))
    dsimp only at hi
    by_cases e:i=k
    ·subst e;exact nt
    ·exact hk2 i h (by omega)
 ·have av:k=xs.length:=by simp at hg;omega
  subst av
  simp -implicitDefEqProofs only [go_sem,Int.reduceNegSucc]
  refine hX _ _ _ ?_
  have hall:=Gk (fun i h=>hk2 i h h)
  rw [List.take_length] at *
  have w1:IntKind.i64.wrap (hi+lo / 33554432)=hi+lo / 33554432:=by rw [wrap_i64 (by omega) (by omega)]
  by_cases h1:hi+lo / 33554432 < -33554432
  ·have e1:decide (hi+lo / 33554432 < -33554432)=true:=decide_eq_true h1
   have:dS xs=false:=by
    have:bU xs.sum=false:=by rw [Bool.eq_false_iff];intro h;have:=nk.1 h;omega
    simp [dS,this]
   repeat' (first | (simp -implicitDefEqProofs only [go_sem,Int.reduceNegSucc,uM,sU,w1,e1]) | (with_reducible refine aA ?_) | ((first | refine ai (fun hg=>?_) (fun hg=>?_) | refine aB (fun hg=>?_) (fun hg=>?_) | refine aC (fun hg=>?_) (fun hg=>?_)) <;> try simp -implicitDefEqProofs only [hg,Bool.not_true,Bool.not_false]) | ((with_reducible apply And.intro);focus (first | trivial | omega | decide | (simp -implicitDefEqProofs only [maxLen];omega) | (simp [maxLen,an,ak,au,az,aj,ay,ax] <;> omega))) | fail)
   refine (hK _ _ ?_).2
   exact kC (by simp [lk,dU,this]) (by simp [lk,this])
  ·have e1:decide (hi+lo / 33554432 < -33554432)=false:=decide_eq_false h1
   by_cases h2:hi+lo / 33554432>33554432
   ·have e2:decide (hi+lo / 33554432>33554432)=true:=decide_eq_true h2
    have:dS xs=false:=by
     have:bU xs.sum=false:=by rw [Bool.eq_false_iff];intro h;have:=nk.1 h;omega
     simp [dS,this]
    repeat' (first | (simp -implicitDefEqProofs only [go_sem,Int.reduceNegSucc,uM,sU,w1,e1,e2]) | (with_reducible refine aA ?_) | ((first | refine ai (fun hg=>?_) (fun hg=>?_) | refine aB (fun hg=>?_) (fun hg=>?_) | refine aC (fun hg=>?_) (fun hg=>?_)) <;> try simp -implicitDefEqProofs only [hg,Bool.not_true,Bool.not_false]) | ((with_reducible apply And.intro);focus (first | trivial | omega | decide | (simp -implicitDefEqProofs only [maxLen];omega) | (simp [maxLen,an,ak,au,az,aj,ay,ax] <;> omega))) | fail)
    refine (hK _ _ ?_).2
    exact kC (by simp [lk,dU,this]) (by simp [lk,this])
   ·have e2:decide (hi+lo / 33554432>33554432)=false:=decide_eq_false h2
    have hf:=gF xs.sum
    have w2:IntKind.i64.wrap (IntKind.i64.wrap ((hi+lo / 33554432)*2 ^ min 25 64)+lo % 33554432)=xs.sum:=by
     rw [show (2:Int) ^ min 25 64=33554432 from rfl,wrap_i64 (n:=(hi+lo / 33554432)*33554432) (by omega) (by omega),wrap_i64 (by omega) (by omega)]
     omega
    cases nt:bU xs.sum with
    | false=>
      rw [nt] at hf
      have:dS xs=false:=by simp [dS,nt]
      have bS:=hf;repeat' (first | (simp -implicitDefEqProofs only [go_sem,Int.reduceNegSucc,uM,sU,w1,e1,e2,w2]) | (with_reducible refine aA ?_) | (with_reducible first | refine aF bS ?_ | refine aG bS ?_) | ((first | refine ai (fun hg=>?_) (fun hg=>?_) | refine aB (fun hg=>?_) (fun hg=>?_) | refine aC (fun hg=>?_) (fun hg=>?_)) <;> try simp -implicitDefEqProofs only [hg,Bool.not_true,Bool.not_false]) | ((with_reducible apply And.intro);focus (first | trivial | omega | decide | (simp -implicitDefEqProofs only [maxLen];omega) | (simp [maxLen,an,ak,au,az,aj,ay,ax] <;> omega))) | fail)
      refine (hK _ _ ?_).2
      exact kC (by simp [lk,dU,this]) (by simp [lk,this])
    | true=>
      rw [nt] at hf
      have:dS xs=true:=by simp [dS,nt,hall]
      have bY:=hf;repeat' (first | (simp -implicitDefEqProofs only [go_sem,Int.reduceNegSucc,uM,sU,w1,e1,e2,w2]) | (with_reducible refine aA ?_) | (with_reducible first | refine aF bY ?_ | refine aG bY ?_) | ((first | refine ai (fun hg=>?_) (fun hg=>?_) | refine aB (fun hg=>?_) (fun hg=>?_) | refine aC (fun hg=>?_) (fun hg=>?_)) <;> try simp -implicitDefEqProofs only [hg,Bool.not_true,Bool.not_false]) | ((with_reducible apply And.intro);focus (first | trivial | omega | decide | (simp -implicitDefEqProofs only [maxLen];omega) | (simp [maxLen,an,ak,au,az,aj,ay,ax] <;> omega))) | fail)
      refine (hK _ _ ?_).2
      exact kC (by simp [lk,dU,this]) (by simp [lk,this])
end Go.aI

namespace Go.aI
open Go
theorem Mk:aV Go.Proofs.Try.prog 43 49 (fc Go.Proofs.Try.prog 43 49 [(.c 6 2 true),(.t 7)]) [(.c 6 2 true),(.t 7)]:=bq (by kernel_rfl)
theorem Mi:aV Go.Proofs.Try.prog 44 20 (fc Go.Proofs.Try.prog 44 20 [(.t 6),(.t 7)]) [(.t 6),(.t 7)]:=bq (by kernel_rfl)
theorem Mj:aV Go.Proofs.Try.prog 45 20 (fc Go.Proofs.Try.prog 45 20 [(.t 6),(.t 7)]) [(.t 6),(.t 7)]:=bq (by kernel_rfl)
theorem Ml:aV Go.Proofs.Try.prog 65 10 (fc Go.Proofs.Try.prog 65 10 [(.t 4)]) [(.t 4)]:=bq (by kernel_rfl)
theorem LM:aV Go.Proofs.Try.prog 64 35 (fc Go.Proofs.Try.prog 64 35 [(.t 4),(.t 5)]) [(.t 4),(.t 5)]:=bq (by kernel_rfl)
theorem LO:aV Go.Proofs.Try.prog 81 16 (fc Go.Proofs.Try.prog 81 16 [(.t 4)]) [(.t 4)]:=bq (by kernel_rfl)
theorem Mv:aV Go.Proofs.Try.prog 85 8 (fc Go.Proofs.Try.prog 85 8 [(.c 2 2 true)]) [(.c 2 2 true)]:=bq (by kernel_rfl)
theorem Mu:aV Go.Proofs.Try.prog 86 16 (fc Go.Proofs.Try.prog 86 16 [(.c 4 2 true)]) [(.c 4 2 true)]:=bq (by kernel_rfl)
theorem Mw:aV Go.Proofs.Try.prog 52 12 (fc Go.Proofs.Try.prog 52 12 [(.t 2),(.t 3)]) [(.t 2),(.t 3)]:=bq (by kernel_rfl)
theorem LL:aV Go.Proofs.Try.prog 92 5 (fc Go.Proofs.Try.prog 92 5 [(.t 2)]) [(.t 2)]:=bq (by kernel_rfl)
theorem LX:aV Go.Proofs.Try.prog 25 25 (fc Go.Proofs.Try.prog 25 25 [(.t 4)]) [(.t 4)]:=bq (by kernel_rfl)
structure Sz where
 auto:Bool
 n:Int
 deriving DecidableEq,Inhabited
def Sz.cells (x:Sz):List RV:=[.bool x.auto,.int .i64 x.n]
abbrev Sz.sv (x:Sz):U:=.agg (x.cells.map .rv)
structure Su where
 p:Int
 n:Int
 deriving DecidableEq,Inhabited
def Su.cells (x:Su):List RV:=[.int .i64 x.p,.int .i64 x.n]
abbrev Su.sv (x:Su):U:=.agg (x.cells.map .rv)
def pL (b p:Int):Bool:=decide (0≤b∧b≤1125899906842624∧-1000000≤p∧p≤1000000) && bU (b*p / 10000)
def uH (b p:Int):Int:=if pL b p=true then b*p / 10000 else 0
def dL (x:Ln) (b:Int) (has:Bool):Sz:=if x.kind=0∨x.kind=2∧has=false then ⟨true,0⟩ else if x.kind=1∧bU x.n=true then ⟨false,x.n⟩ else if x.kind=2 then ⟨false,uH b x.n⟩ else ⟨false,0⟩
def er (x:Ln) (b:Int) (has:Bool):Bool:=decide (x.kind=0) || decide (x.kind=2) && (!has || pL b x.n) || decide (x.kind=1) && bU x.n
def bl (x:Sz) (d:Int):Int:=if x.auto=true then d else x.n
def fF (a b:Su):Su:=⟨max a.p b.p,min a.n b.n⟩
def oC (a:Su):Int:=dU [a.p,a.n]
def sJ (a:Su):Bool:=dS [a.p,a.n]
def ov (w:Int) (h:Sz):Bool:=decide (0≤w∧w≤1125899906842624) && (h.auto || decide (0≤h.n∧h.n≤1125899906842624))
theorem PW (x:Int):aK Go.Proofs.Try.prog 92 [.rv (.int .i64 x)] [] [] (.rv (.int .i64 (x / 2))):=by
 refine bG LL [.rv (.int .i64 x)] _ (by simp) (by simp [aP,bh,bu,bg,bn,aq.sv,Ln.sv,Nd.sv]) (fun K hK=>?_)
 conv in fc _ _ _ _=>reduce
 simp -implicitDefEqProofs only [go_sem,Int.reduceNegSucc]
 repeat' (first | (simp -implicitDefEqProofs only [go_sem,Int.reduceNegSucc]) | (with_reducible refine aA ?_) | ((first | refine ai (fun hg=>?_) (fun hg=>?_) | refine aB (fun hg=>?_) (fun hg=>?_) | refine aC (fun hg=>?_) (fun hg=>?_)) <;> try simp -implicitDefEqProofs only [hg,Bool.not_true,Bool.not_false]) | ((with_reducible apply And.intro);focus (first | trivial | omega | decide | (simp -implicitDefEqProofs only [maxLen];omega) | (simp [maxLen,an,ak,au,az,aj,ay,ax] <;> omega))) | fail)
 refine (hK _ _ (bP ?_)).2
 simp [lk]
 exact Int.fdiv_eq_ediv_of_nonneg _ (by decide)
theorem kV (x:Sz) (d:Int):aK Go.Proofs.Try.prog 65 [x.sv,.rv (.int .i64 d)] [] [] (.rv (.int .i64 (bl x d))):=by
 refine bG Ml [x.sv,.rv (.int .i64 d)] _ (by simp) (by simp [aP,bh,bu,bg,bn,aq.sv,Ln.sv,Nd.sv]) (fun K hK=>?_)
 conv in fc _ _ _ _=>reduce
 simp -implicitDefEqProofs only [Sz.sv,Sz.cells,go_sem,Int.reduceNegSucc]
 repeat' (first | (simp -implicitDefEqProofs only [go_sem,Int.reduceNegSucc]) | (with_reducible refine aA ?_) | ((first | refine ai (fun hg=>?_) (fun hg=>?_) | refine aB (fun hg=>?_) (fun hg=>?_) | refine aC (fun hg=>?_) (fun hg=>?_)) <;> try simp -implicitDefEqProofs only [hg,Bool.not_true,Bool.not_false]) | ((with_reducible apply And.intro);focus (first | trivial | omega | decide | (simp -implicitDefEqProofs only [maxLen];omega) | (simp [maxLen,an,ak,au,az,aj,ay,ax] <;> omega))) | fail)
 all_goals (refine (hK _ _ ?_).2;clear hK;simp -implicitDefEqProofs only [go_sem,Int.reduceNegSucc,bw,bD,bN,bQ,aY,aS,aR,bl] <;>(try simp_all [-Int.not_lt,-Int.not_le,aY,aS,aR,cj,bl]) <;> try omega)
theorem Fv (x:Int):aK Go.Proofs.Try.prog 85 [.rv (.int .i64 x)] [] [] (Su.sv ⟨max x 0,min x 0⟩):=by
 refine bG Mv [.rv (.int .i64 x)] _ (by simp) (by simp [aP,bh,bu,bg,bn,aq.sv,Ln.sv,Nd.sv]) (fun K hK=>?_)
 conv in fc _ _ _ _=>reduce
 simp -implicitDefEqProofs only [Su.sv,Su.cells,go_sem,Int.reduceNegSucc]
 repeat' (first | (simp -implicitDefEqProofs only [go_sem,Int.reduceNegSucc]) | (with_reducible refine aA ?_) | ((first | refine ai (fun hg=>?_) (fun hg=>?_) | refine aB (fun hg=>?_) (fun hg=>?_) | refine aC (fun hg=>?_) (fun hg=>?_)) <;> try simp -implicitDefEqProofs only [hg,Bool.not_true,Bool.not_false]) | ((with_reducible apply And.intro);focus (first | trivial | omega | decide | (simp -implicitDefEqProofs only [maxLen];omega) | (simp [maxLen,an,ak,au,az,aj,ay,ax] <;> omega))) | fail)
 all_goals (refine (hK _ _ ?_).2;clear hK;simp -implicitDefEqProofs only [go_sem,Int.reduceNegSucc,bw,bD,bN,bQ,aY,aS,aR,Su.sv,Su.cells] <;>(try simp_all [-Int.not_lt,-Int.not_le,aY,aS,aR,cj,Su.sv,Su.cells]) <;> try omega)
theorem sF (a b:Su):aK Go.Proofs.Try.prog 86 [a.sv,b.sv] [] [] (fF a b).sv:=by
 refine bG Mu [a.sv,b.sv] _ (by simp) (by simp [aP,bh,bu,bg,bn,aq.sv,Ln.sv,Nd.sv]) (fun K hK=>?_)
 conv in fc _ _ _ _=>reduce
 simp -implicitDefEqProofs only [Su.sv,Su.cells,go_sem,Int.reduceNegSucc]
 repeat' (first | (simp -implicitDefEqProofs only [go_sem,Int.reduceNegSucc]) | (with_reducible refine aA ?_) | ((first | refine ai (fun hg=>?_) (fun hg=>?_) | refine aB (fun hg=>?_) (fun hg=>?_) | refine aC (fun hg=>?_) (fun hg=>?_)) <;> try simp -implicitDefEqProofs only [hg,Bool.not_true,Bool.not_false]) | ((with_reducible apply And.intro);focus (first | trivial | omega | decide | (simp -implicitDefEqProofs only [maxLen];omega) | (simp [maxLen,an,ak,au,az,aj,ay,ax] <;> omega))) | fail)
 all_goals (refine (hK _ _ ?_).2;clear hK;simp -implicitDefEqProofs only [go_sem,Int.reduceNegSucc,bw,bD,bN,bQ,aY,aS,aR,Su.sv,Su.cells,fF] <;>(try simp_all [-Int.not_lt,-Int.not_le,aY,aS,aR,cj,Su.sv,Su.cells,fF]) <;> try omega)
def mz (xs:List Int):List (List U):=xs.map fun x=>[.rv (.int .i64 x)]
theorem CS (xs:List Int):mz xs=aH (aJ xs):=by simp [mz,aH,aJ]
theorem sE (id:Nat) (xs:List Int) (hb:xs.length≤1000):aK Go.Proofs.Try.prog 54 [.row id 0 xs.length] [(id,.row 1 0 (mz xs))] [] (.aM [.rv (.int .i64 (dU xs)),.rv (.bool (dS xs))]):=by
 have:=Nf (id:=id) (v:=0) (n:=xs.length) (bs:=[]) (rs:=[.int .i64 (dU xs),.bool (dS xs)]) (PY xs hb) (by simp;exact ⟨.int _ _,.bool _⟩) (by rw [aj]) (mB _)
 rw [CS];exact this
theorem AG (a:Su):aK Go.Proofs.Try.prog 52 [a.sv] [] [] (.aM [.rv (.int .i64 (oC a)),.rv (.bool (sJ a))]):=by
 refine bG Mw [a.sv] _ (by simp) (by simp [aP,bh,bu,bg,bn,aq.sv,Ln.sv,Nd.sv]) (fun K hK=>?_)
 have hs:=fun id=>sE id [a.p,a.n] (by simp)
 conv in fc _ _ _ _=>reduce
 simp -implicitDefEqProofs only [Su.sv,Su.cells,go_sem,Int.reduceNegSucc]
 simp [mz] at hs
 have br:=hs;repeat' (first | (simp -implicitDefEqProofs only [go_sem,Int.reduceNegSucc]) | (with_reducible refine aA ?_) | ((first | refine cC (br _) ?_ ?_ ?_ | refine cZ (br _) ?_ ?_ ?_ | fail);(focus (simp [aW,ag] <;> fail));(focus (simp [bk,aZ] <;> fail))) | ((first | refine ai (fun hg=>?_) (fun hg=>?_) | refine aB (fun hg=>?_) (fun hg=>?_) | refine aC (fun hg=>?_) (fun hg=>?_)) <;> try simp -implicitDefEqProofs only [hg,Bool.not_true,Bool.not_false]) | ((with_reducible apply And.intro);focus (first | trivial | omega | decide | (simp -implicitDefEqProofs only [maxLen];omega) | (simp [maxLen,an,ak,au,az,aj,ay,ax] <;> omega))) | fail)
 all_goals (refine (hK _ _ ?_).2;clear hK;simp -implicitDefEqProofs only [go_sem,Int.reduceNegSucc,bw,bD,bN,bQ,aY,aS,aR,oC,sJ] <;>(try simp_all [-Int.not_lt,-Int.not_le,aY,aS,aR,cj,oC,sJ]) <;> try omega)
theorem Fj (w:Int) (h:Sz):aK Go.Proofs.Try.prog 25 [.rv (.int .i64 w),h.sv] [] [] (.rv (.bool (ov w h))):=by
 refine bG LX [.rv (.int .i64 w),h.sv] _ (by simp) (by simp [aP,bh,bu,bg,bn,aq.sv,Ln.sv,Nd.sv]) (fun K hK=>?_)
 conv in fc _ _ _ _=>reduce
 simp -implicitDefEqProofs only [Sz.sv,Sz.cells,go_sem,Int.reduceNegSucc]
 repeat' (first | (simp -implicitDefEqProofs only [go_sem,Int.reduceNegSucc]) | (with_reducible refine aA ?_) | ((first | refine ai (fun hg=>?_) (fun hg=>?_) | refine aB (fun hg=>?_) (fun hg=>?_) | refine aC (fun hg=>?_) (fun hg=>?_)) <;> try simp -implicitDefEqProofs only [hg,Bool.not_true,Bool.not_false]) | ((with_reducible apply And.intro);focus (first | trivial | omega | decide | (simp -implicitDefEqProofs only [maxLen];omega) | (simp [maxLen,an,ak,au,az,aj,ay,ax] <;> omega))) | fail)
 all_goals (refine (hK _ _ ?_).2;clear hK;simp -implicitDefEqProofs only [go_sem,Int.reduceNegSucc,bw,bD,bN,bQ,aY,aS,aR,ov] <;>(try simp_all [-Int.not_lt,-Int.not_le,aY,aS,aR,cj,ov]) <;> try omega)
end Go.aI

namespace Go.aI
open Go Go.Proofs
theorem Gf:bW Go.Proofs.Try.prog 2=some false:=by kernel_rfl
theorem Gh:bW Go.Proofs.Try.prog 24=some true:=by kernel_rfl
theorem Og {rs:List RV} (h:eR Go.Proofs.Try.prog 1 2 rs):∃ i:Int,mZ Go.Proofs.Try.prog 2 rs = .rv (.int .i64 i):=by
 obtain ⟨i,rfl⟩:=nJ h
 exact ⟨i,AX Gf⟩
theorem Oi {rs:List RV} (h:eR Go.Proofs.Try.prog 2 24 rs):∃ x:Sz,mZ Go.Proofs.Try.prog 24 rs=x.sv:=by
 have h:=xO Try.underlying24 h
 obtain ⟨_,_,rfl,h1,_,_,rfl,h2,rfl⟩:=h
 obtain ⟨a,rfl⟩:=uQ h1
 obtain ⟨b,rfl⟩:=nJ h2
 exact ⟨⟨a,b⟩,Gw Gh⟩
end Go.aI

namespace Go.aI
open Go
theorem uP (a:Int):a.tdiv 10000=if 0≤a∨a % 10000=0 then a / 10000 else a / 10000+1:=by
 rw [Int.tdiv_eq_ediv]
 have:(10000:Int) ∣ a↔a % 10000=0:=Int.dvd_iff_emod_eq_zero
 simp -implicitDefEqProofs only [this]
 split <;> simp
theorem QH (a:Int):a.tmod 10000=if 0≤a∨a % 10000=0 then a % 10000 else a % 10000 - 10000:=by
 rw [Int.tmod_eq_emod]
 have:(10000:Int) ∣ a↔a % 10000=0:=Int.dvd_iff_emod_eq_zero
 simp -implicitDefEqProofs only [this]
 split <;> simp
theorem PZ (a:Int) (h : -100000000000≤a) (h2:a≤100000000000):aK Go.Proofs.Try.prog 81 [.rv (.int .i64 a),.rv (.int .i64 10000)] [] [] (.rv (.int .i64 (a / 10000))):=by
 refine bG LO [.rv (.int .i64 a),.rv (.int .i64 10000)] _ (by simp) (by simp [aP,bh,bu,bg,bn,aq.sv,Ln.sv,Nd.sv]) (fun K hK=>?_)
 have e1:IntKind.i64.wrap (a.tdiv 10000)=a.tdiv 10000:=wrap_i64 (by rw [uP];split <;> omega) (by rw [uP];split <;> omega)
 have e2:IntKind.i64.wrap (a.tdiv 10000 - 1)=a.tdiv 10000 - 1:=wrap_i64 (by rw [uP];split <;> omega) (by rw [uP];split <;> omega)
 conv in fc _ _ _ _=>reduce
 simp -implicitDefEqProofs only [go_sem,Int.reduceNegSucc]
 repeat' (first | (simp -implicitDefEqProofs only [go_sem,Int.reduceNegSucc,e1,e2]) | (with_reducible refine aA ?_) | ((first | refine ai (fun hg=>?_) (fun hg=>?_) | refine aB (fun hg=>?_) (fun hg=>?_) | refine aC (fun hg=>?_) (fun hg=>?_)) <;> try simp -implicitDefEqProofs only [hg,Bool.not_true,Bool.not_false]) | ((with_reducible apply And.intro);focus (first | trivial | omega | decide | (simp -implicitDefEqProofs only [maxLen];omega) | (simp [maxLen,an,ak,au,az,aj,ay,ax] <;> omega))) | fail)
 all_goals (refine (hK _ _ (bP ?_)).2;clear hK;simp -implicitDefEqProofs only [decide_eq_true_eq,decide_eq_false_iff_not,QH] at hg;simp [lk,uP];split at hg <;>(try intros) <;>(try split) <;> omega)
theorem Oo {b p:Int}:b / 10000*p+b % 10000*p / 10000=b*p / 10000:=by
 have h:b*p=b % 10000*p+10000*(b / 10000*p):=by
  conv=>lhs;rw [← Int.emod_add_mul_ediv b 10000]
  rw [Int.add_mul,Int.mul_assoc]
 rw [h,Int.add_mul_ediv_left _ _ (by decide)];omega
theorem DZ {a b A B:Int} (h0:0≤a) (h:a≤A) (h1 : -B≤b) (h2:b≤B) : -(A*B)≤a*b∧a*b≤A*B:=by
 have hB:0≤B:=by omega
 have e1:=Int.mul_le_mul_of_nonneg_left h2 h0
 have e2:=Int.mul_le_mul_of_nonneg_right h hB
 have e3:=Int.mul_le_mul_of_nonneg_left h1 h0
 rw [Int.mul_neg] at e3
 omega
theorem PX (b p:Int):aK Go.Proofs.Try.prog 64 [.rv (.int .i64 b),.rv (.int .i64 p)] [] [] (.aM [.rv (.int .i64 (uH b p)),.rv (.bool (pL b p))]):=by
 refine bG LM [.rv (.int .i64 b),.rv (.int .i64 p)] _ (by simp) (by simp [aP,bh,bu,bg,bn,aq.sv,Ln.sv,Nd.sv]) (fun K hK=>?_)
 conv in fc _ _ _ _=>reduce
 simp -implicitDefEqProofs only [go_sem,Int.reduceNegSucc]
 by_cases h:0≤b∧b≤1125899906842624∧-1000000≤p∧p≤1000000
 ·have g1:decide (b<0)=false:=decide_eq_false (by omega)
  have g2:decide (b>1125899906842624)=false:=decide_eq_false (by omega)
  have g3:decide (p < -1000000)=false:=decide_eq_false (by omega)
  have g4:decide (p>1000000)=false:=decide_eq_false (by omega)
  have q1:b.tdiv 10000=b / 10000:=Int.tdiv_eq_ediv_of_nonneg h.1
  have q2:b.tmod 10000=b % 10000:=Int.tmod_eq_emod_of_nonneg h.1
  have m1:=DZ (a:=b % 10000) (b:=p) (A:=9999) (B:=1000000) (by omega) (by omega) h.2.2.1 h.2.2.2
  have m2:=DZ (a:=b / 10000) (b:=p) (A:=112589990684) (B:=1000000) (by omega) (by omega) h.2.2.1 h.2.2.2
  have w1:IntKind.i64.wrap (b / 10000)=b / 10000:=wrap_i64 (by omega) (by omega)
  have w2:IntKind.i64.wrap (b % 10000*p)=b % 10000*p:=wrap_i64 (by omega) (by omega)
  have w3:IntKind.i64.wrap (b / 10000*p)=b / 10000*p:=wrap_i64 (by omega) (by omega)
  have w4:IntKind.i64.wrap (b / 10000*p+b % 10000*p / 10000)=b*p / 10000:=by rw [wrap_i64 (by omega) (by omega),Oo]
  have hd:=PZ (b % 10000*p) (by omega) (by omega)
  have hf:=gF (b*p / 10000)
  have e:pL b p=bU (b*p / 10000):=by simp [pL,h]
  have br:=hd;have y_2:=hf;repeat' (first | (simp -implicitDefEqProofs only [go_sem,Int.reduceNegSucc,g1,g2,g3,g4,q1,q2,w1,w2,w3,w4]) | (with_reducible refine aA ?_) | (with_reducible first | refine aF br ?_ | refine aG br ?_) | (with_reducible first | refine aF y_2 ?_ | refine aG y_2 ?_) | ((first | refine ai (fun hg=>?_) (fun hg=>?_) | refine aB (fun hg=>?_) (fun hg=>?_) | refine aC (fun hg=>?_) (fun hg=>?_)) <;> try simp -implicitDefEqProofs only [hg,Bool.not_true,Bool.not_false]) | ((with_reducible apply And.intro);focus (first | trivial | omega | decide | (simp -implicitDefEqProofs only [maxLen];omega) | (simp [maxLen,an,ak,au,az,aj,ay,ax] <;> omega))) | fail)
  all_goals (refine (hK _ _ (kC ?_ ?_)).2 <;> clear hK <;> simp_all [lk,uH])
 ·have e:pL b p=false:=by simp [pL];intro a1 a2 a3 a4;exact absurd ⟨a1,a2,a3,a4⟩ h
  repeat' (first | (simp -implicitDefEqProofs only [go_sem,Int.reduceNegSucc]) | (with_reducible refine aA ?_) | ((first | refine ai (fun hg=>?_) (fun hg=>?_) | refine aB (fun hg=>?_) (fun hg=>?_) | refine aC (fun hg=>?_) (fun hg=>?_)) <;> try simp -implicitDefEqProofs only [hg,Bool.not_true,Bool.not_false]) | ((with_reducible apply And.intro);focus (first | trivial | omega | decide | (simp -implicitDefEqProofs only [maxLen];omega) | (simp [maxLen,an,ak,au,az,aj,ay,ax] <;> omega))) | fail)
  all_goals (first | (refine (hK _ _ (kC ?_ ?_)).2 <;> clear hK <;> simp [lk,uH,e];done) | (exfalso;simp at *;omega))
theorem pW (x:Ln) (b:Int) (has:Bool):aK Go.Proofs.Try.prog 43 [x.sv,.rv (.int .i64 b),.rv (.bool has)] [] [] (.aM [(dL x b has).sv,.rv (.bool (er x b has))]):=by
 refine bG Mk [x.sv,.rv (.int .i64 b),.rv (.bool has)] _ (by simp) (by simp [aP,bh,bu,bg,bn,aq.sv,Ln.sv,Nd.sv]) (fun K hK=>?_)
 have hf:=gF x.n
 have hp:=PX b x.n
 conv in fc _ _ _ _=>reduce
 simp -implicitDefEqProofs only [Ln.sv,Ln.cells,Sz.sv,Sz.cells,go_sem,Int.reduceNegSucc]
 have bS:=hf;have bY:=hp;repeat' (first | (simp -implicitDefEqProofs only [go_sem,Int.reduceNegSucc]) | (with_reducible refine aA ?_) | (with_reducible first | refine aF bS ?_ | refine aG bS ?_) | (with_reducible first | refine aF bY ?_ | refine aG bY ?_) | ((first | refine ai (fun hg=>?_) (fun hg=>?_) | refine aB (fun hg=>?_) (fun hg=>?_) | refine aC (fun hg=>?_) (fun hg=>?_)) <;> try simp -implicitDefEqProofs only [hg,Bool.not_true,Bool.not_false]) | ((with_reducible apply And.intro);focus (first | trivial | omega | decide | (simp -implicitDefEqProofs only [maxLen];omega) | (simp [maxLen,an,ak,au,az,aj,ay,ax] <;> omega))) | fail)
 all_goals (refine (hK _ _ ?_).2;clear hK;simp -implicitDefEqProofs only [go_sem,Int.reduceNegSucc,bw,bD,bN,bQ,aY,aS,aR,Sz.sv,Sz.cells,dL,er] <;>(try simp_all [-Int.not_lt,-Int.not_le,aY,aS,aR,cj,Sz.sv,Sz.cells,dL,er]) <;> try omega)
theorem Fs (x:Ln) (b:Int) (has:Bool):aK Go.Proofs.Try.prog 44 [x.sv,.rv (.int .i64 b),.rv (.bool has)] [] [] (.aM [.rv (.int .i64 (bl (dL x b has) 0)),.rv (.bool (er x b has))]):=by
 refine bG Mi [x.sv,.rv (.int .i64 b),.rv (.bool has)] _ (by simp) (by simp [aP,bh,bu,bg,bn,aq.sv,Ln.sv,Nd.sv]) (fun K hK=>?_)
 have hf:=pW x b has
 have ho:=kV (dL x b has) 0
 conv in fc _ _ _ _=>reduce
 simp -implicitDefEqProofs only [Ln.sv,Ln.cells,Sz.sv,Sz.cells,go_sem,Int.reduceNegSucc] at *
 have cu:=hf;have cm:=ho;repeat' (first | (simp -implicitDefEqProofs only [go_sem,Int.reduceNegSucc]) | (with_reducible refine aA ?_) | (with_reducible first | refine aF cu ?_ | refine aG cu ?_) | (with_reducible first | refine aF cm ?_ | refine aG cm ?_) | ((first | refine ai (fun hg=>?_) (fun hg=>?_) | refine aB (fun hg=>?_) (fun hg=>?_) | refine aC (fun hg=>?_) (fun hg=>?_)) <;> try simp -implicitDefEqProofs only [hg,Bool.not_true,Bool.not_false]) | ((with_reducible apply And.intro);focus (first | trivial | omega | decide | (simp -implicitDefEqProofs only [maxLen];omega) | (simp [maxLen,an,ak,au,az,aj,ay,ax] <;> omega))) | fail)
 exact (hK _ _ (kC rfl rfl)).2
theorem Ft (x:Ln) (b:Int) (has:Bool):aK Go.Proofs.Try.prog 45 [x.sv,.rv (.int .i64 b),.rv (.bool has)] [] [] (.aM [.rv (.int .i64 (bl (dL x b has) 1125899906842624)),.rv (.bool (er x b has))]):=by
 refine bG Mj [x.sv,.rv (.int .i64 b),.rv (.bool has)] _ (by simp) (by simp [aP,bh,bu,bg,bn,aq.sv,Ln.sv,Nd.sv]) (fun K hK=>?_)
 have hf:=pW x b has
 have ho:=kV (dL x b has) 1125899906842624
 conv in fc _ _ _ _=>reduce
 simp -implicitDefEqProofs only [Ln.sv,Ln.cells,Sz.sv,Sz.cells,go_sem,Int.reduceNegSucc] at *
 have cG:=hf;have cH:=ho;repeat' (first | (simp -implicitDefEqProofs only [go_sem,Int.reduceNegSucc]) | (with_reducible refine aA ?_) | (with_reducible first | refine aF cG ?_ | refine aG cG ?_) | (with_reducible first | refine aF cH ?_ | refine aG cH ?_) | ((first | refine ai (fun hg=>?_) (fun hg=>?_) | refine aB (fun hg=>?_) (fun hg=>?_) | refine aC (fun hg=>?_) (fun hg=>?_)) <;> try simp -implicitDefEqProofs only [hg,Bool.not_true,Bool.not_false]) | ((with_reducible apply And.intro);focus (first | trivial | omega | decide | (simp -implicitDefEqProofs only [maxLen];omega) | (simp [maxLen,an,ak,au,az,aj,ay,ax] <;> omega))) | fail)
 exact (hK _ _ (kC rfl rfl)).2
end Go.aI

namespace Go.aI
open Go
theorem Mm:aV Go.Proofs.Try.prog 62 30 (fc Go.Proofs.Try.prog 62 30 [(.c 4 8 true),(.t 5)]) [(.c 4 8 true),(.t 5)]:=bq (by kernel_rfl)
theorem Mo:aV Go.Proofs.Try.prog 63 9 (fc Go.Proofs.Try.prog 63 9 [(.t 4)]) [(.t 4)]:=bq (by kernel_rfl)
theorem Ms:aV Go.Proofs.Try.prog 80 19 (fc Go.Proofs.Try.prog 80 19 [(.t 4)]) [(.t 4)]:=bq (by kernel_rfl)
theorem LR:aV Go.Proofs.Try.prog 41 137 (fc Go.Proofs.Try.prog 41 137 [(.c 8 28 true),(.t 9)]) [(.c 8 28 true),(.t 9)]:=bq (by kernel_rfl)
theorem Dk:aV Go.Proofs.Try.prog 42 30 (fc Go.Proofs.Try.prog 42 30 [(.t 6),(.t 7)]) [(.t 6),(.t 7)]:=bq (by kernel_rfl)
theorem Lm:aV Go.Proofs.Try.prog 83 24 (fc Go.Proofs.Try.prog 83 24 [(.t 4)]) [(.t 4)]:=bq (by kernel_rfl)
theorem Lo:aV Go.Proofs.Try.prog 84 76 (fc Go.Proofs.Try.prog 84 76 [(.t 4),(.t 5)]) [(.t 4),(.t 5)]:=bq (by kernel_rfl)
def Q4.fJ (q:Q4 Sz):List RV:=[.bool q.a.auto,.int .i64 q.a.n,.bool q.b.auto,.int .i64 q.b.n,.bool q.c.auto,.int .i64 q.c.n,.bool q.d.auto,.int .i64 q.d.n]
def AA (q:Q4 Ln) (b:Int):Q4 Sz:=⟨dL q.a b true,dL q.b b true,dL q.c b true,dL q.d b true⟩
def pS (q:Q4 Ln) (b:Int):Bool:=er q.a b true && er q.b b true && er q.c b true && er q.d b true
def oA (q:Q4 Ln) (b:Int):Q4 Sz:=if pS q b=true then AA q b else ⟨⟨false,0⟩,⟨false,0⟩,⟨false,0⟩,⟨false,0⟩⟩
theorem Fu (q:Q4 Ln) (b:Int):aK Go.Proofs.Try.prog 62 [.agg (q.qK.map .rv),.rv (.int .i64 b)] [] [] (.aM [.agg ((oA q b).fJ.map .rv),.rv (.bool (pS q b))]):=by
 refine bG Mm [.agg (q.qK.map .rv),.rv (.int .i64 b)] _ (by simp) (by simp [aP,bh,bu,bg,bn,aq.sv,Ln.sv,Nd.sv]) (fun K hK=>?_)
 have ha:=pW q.a b true
 have hb:=pW q.b b true
 have hc:=pW q.c b true
 have hd:=pW q.d b true
 conv in fc _ _ _ _=>reduce
 simp -implicitDefEqProofs only [Q4.qK,Ln.sv,Ln.cells,Sz.sv,Sz.cells,go_sem,Int.reduceNegSucc] at *
 repeat' (first | (simp -implicitDefEqProofs only [go_sem,Int.reduceNegSucc]) | (with_reducible refine aA ?_) | ((first | refine ai (fun hg=>?_) (fun hg=>?_) | refine aB (fun hg=>?_) (fun hg=>?_) | refine aC (fun hg=>?_) (fun hg=>?_)) <;> try simp -implicitDefEqProofs only [hg,Bool.not_true,Bool.not_false]) | ((with_reducible apply And.intro);focus (first | trivial | omega | decide | (simp -implicitDefEqProofs only [maxLen];omega) | (simp [maxLen,an,ak,au,az,aj,ay,ax] <;> omega))) | fail)
 refine rL 5 ?_
 have br:=ha;have y_2:=hb;have bS:=hc;have bY:=hd;repeat' (first | (simp -implicitDefEqProofs only [go_sem,Int.reduceNegSucc,sK,sL,sM,sN,sO,sP,rz,Int.reduceLT,decide_true,decide_false,Int.reduceToNat,Nat.reduceMul]) | (with_reducible refine aA ?_) | (with_reducible show G _ _ (It.l _ _::_) _ _ _;refine rK ?_) | (with_reducible first | refine aF br ?_ | refine aG br ?_) | (with_reducible first | refine aF y_2 ?_ | refine aG y_2 ?_) | (with_reducible first | refine aF bS ?_ | refine aG bS ?_) | (with_reducible first | refine aF bY ?_ | refine aG bY ?_) | ((first | refine ai (fun hg=>?_) (fun hg=>?_) | refine aB (fun hg=>?_) (fun hg=>?_) | refine aC (fun hg=>?_) (fun hg=>?_)) <;> try simp -implicitDefEqProofs only [hg,Bool.not_true,Bool.not_false]) | ((with_reducible apply And.intro);focus (first | trivial | omega | decide | (simp -implicitDefEqProofs only [maxLen];omega) | (simp [maxLen,an,ak,au,az,aj,ay,ax] <;> omega))) | fail)
 all_goals (refine (hK _ _ ?_).2;clear hK;simp -implicitDefEqProofs only [go_sem,Int.reduceNegSucc,bw,bD,bN,bQ,aY,aS,aR,oA,pS,AA,Q4.fJ] <;>(try simp_all [-Int.not_lt,-Int.not_le,aY,aS,aR,cj,oA,pS,AA,Q4.fJ]) <;> try omega)
def zF (a b c d e:Bool):Int:=if a=false then 0 else if b=false then 1 else if c=false then 2 else if d=false then 3 else if e=false then 4 else -1
theorem PD (a b c d e:Bool):aK Go.Proofs.Try.prog 80 [.rv (.sl 1 [[.bool a],[.bool b],[.bool c],[.bool d],[.bool e]]),.rv (.bool false)] [] [] (.rv (.int .i64 (zF a b c d e))):=by
 refine bG Ms [.rv (.sl 1 [[.bool a],[.bool b],[.bool c],[.bool d],[.bool e]]),.rv (.bool false)] _ (by simp) (by simp [aP,bh,bu,bg,bn,aq.sv,Ln.sv,Nd.sv]) (fun K hK=>?_)
 conv in fc _ _ _ _=>reduce
 simp -implicitDefEqProofs only [go_sem,Int.reduceNegSucc]
 repeat' (first | (simp -implicitDefEqProofs only [go_sem,Int.reduceNegSucc]) | (with_reducible refine aA ?_) | ((first | refine ai (fun hg=>?_) (fun hg=>?_) | refine aB (fun hg=>?_) (fun hg=>?_) | refine aC (fun hg=>?_) (fun hg=>?_)) <;> try simp -implicitDefEqProofs only [hg,Bool.not_true,Bool.not_false]) | ((with_reducible apply And.intro);focus (first | trivial | omega | decide | (simp -implicitDefEqProofs only [maxLen];omega) | (simp [maxLen,an,ak,au,az,aj,ay,ax] <;> omega))) | fail)
 refine rL 6 ?_
 repeat' (first | (simp -implicitDefEqProofs only [go_sem,Int.reduceNegSucc,sK,sL,sM,sN,sO,sP,rz,Int.reduceLT,decide_true,decide_false,Int.reduceToNat,Nat.reduceMul]) | (with_reducible refine aA ?_) | (with_reducible show G _ _ (It.l _ _::_) _ _ _;refine rK ?_) | ((first | refine ai (fun hg=>?_) (fun hg=>?_) | refine aB (fun hg=>?_) (fun hg=>?_) | refine aC (fun hg=>?_) (fun hg=>?_)) <;> try simp -implicitDefEqProofs only [hg,Bool.not_true,Bool.not_false]) | ((with_reducible apply And.intro);focus (first | trivial | omega | decide | (simp -implicitDefEqProofs only [maxLen];omega) | (simp [maxLen,an,ak,au,az,aj,ay,ax] <;> omega))) | fail)
 all_goals (refine (hK _ _ (bP ?_)).2;clear hK;simp_all [lk,zF])
theorem Pv (a b c d e:Bool):aK Go.Proofs.Try.prog 63 [.rv (.sl 1 [[.bool a],[.bool b],[.bool c],[.bool d],[.bool e]]),.rv (.bool false)] [] [] (.rv (.bool !(a && b && c && d && e))):=by
 refine bG Mo [.rv (.sl 1 [[.bool a],[.bool b],[.bool c],[.bool d],[.bool e]]),.rv (.bool false)] _ (by simp) (by simp [aP,bh,bu,bg,bn,aq.sv,Ln.sv,Nd.sv]) (fun K hK=>?_)
 have hi:=PD a b c d e
 have h5:decide (zF a b c d e≥0) = !(a && b && c && d && e):=by cases a <;> cases b <;> cases c <;> cases d <;> cases e <;> rfl
 conv in fc _ _ _ _=>reduce
 simp -implicitDefEqProofs only [go_sem,Int.reduceNegSucc]
 have cu:=hi;repeat' (first | (simp -implicitDefEqProofs only [go_sem,Int.reduceNegSucc,h5]) | (with_reducible refine aA ?_) | (with_reducible first | refine aF cu ?_ | refine aG cu ?_) | ((first | refine ai (fun hg=>?_) (fun hg=>?_) | refine aB (fun hg=>?_) (fun hg=>?_) | refine aC (fun hg=>?_) (fun hg=>?_)) <;> try simp -implicitDefEqProofs only [hg,Bool.not_true,Bool.not_false]) | ((with_reducible apply And.intro);focus (first | trivial | omega | decide | (simp -implicitDefEqProofs only [maxLen];omega) | (simp [maxLen,an,ak,au,az,aj,ay,ax] <;> omega))) | fail)
 exact (hK _ _ (bP rfl)).2
theorem Pw (j v:Nat) (a b c d e:Bool):aK Go.Proofs.Try.prog 63 [.win j v 0 5,.rv (.bool false)] [(j,.var [.rv (.bool a),.rv (.bool b),.rv (.bool c),.rv (.bool d),.rv (.bool e)])] [] (.rv (.bool !(a && b && c && d && e))):=by
 refine vr (rs:=[.sl 1 [[.bool a],[.bool b],[.bool c],[.bool d],[.bool e]],.bool false]) (Pv a b c d e) (fun hp hpre=>⟨?_,.rv _,trivial⟩) rfl (.rv _ (.bool _)) (by simp)
 refine .win j v 0 1 5 [.rv (.bool a),.rv (.bool b),.rv (.bool c),.rv (.bool d),.rv (.bool e)] _ rfl (hpre _ (.head _)) rfl (by simp) (by simp) (fun i r k q hi hk=>?_) (fun i r k y q hi hy hk=>?_)
 ·match i,k with
  | 0,0 | 1,0 | 2,0 | 3,0 | 4,0=>cases hi;cases hk;rfl
  | 0,k+1 | 1,k+1 | 2,k+1 | 3,k+1 | 4,k+1=>cases hi;simp at hk
  | i+5,k=>simp at hi
 ·match i,k with
  | 0,0 | 1,0 | 2,0 | 3,0 | 4,0=>cases hi;cases hk;cases hy;exact .rv _
  | 0,k+1 | 1,k+1 | 2,k+1 | 3,k+1 | 4,k+1=>cases hi;simp at hk
  | i+5,k=>simp at hi
structure Ed where
 bB:Q4 Sz
 pad:Q4 Sz
 bA:Q4 Int
 high:Sz
 least:Int
 most:Int
 alone:Bool
 flat:Bool
 qT:Bool
 pI:Bool
def Ed.cells (e:Ed):List RV:=e.bB.fJ++e.pad.fJ++e.bA.ints++[.bool e.high.auto,.int .i64 e.high.n,.int .i64 e.least,.int .i64 e.most,.bool e.alone,.bool e.flat,.bool e.qT,.bool e.pI]
def AL (s:aq) (w:Int):Bool:=(s.bA.a == 0) && ((oA s.pad w).a.n == 0)
def ye (s:aq) (w:Int):Bool:=(s.bA.c == 0) && ((oA s.pad w).c.n == 0)
def wS (s:aq) (h:Sz):Int:=bl (dL s.fH h.n (!h.auto)) 0
def vN (s:aq) (w:Int) (h:Sz) (alone:Bool):Ed:=
 ⟨oA s.bB w,oA s.pad w,s.bA,dL s.height h.n (!h.auto),wS s h,bl (dL s.fG h.n (!h.auto)) 1125899906842624,alone,
  !alone && AL s w && ye s w && (wS s h == 0),!alone && AL s w,!alone && ye s w && (dL s.height h.n (!h.auto)).auto && (wS s h == 0)⟩
def vM (s:aq) (w:Int) (h:Sz):Bool:=pS s.bB w && pS s.pad w && er s.height h.n (!h.auto) && er s.fH h.n (!h.auto) && er s.fG h.n (!h.auto)
theorem PU (s:aq) (w:Int) (h:Sz) (alone:Bool):aK Go.Proofs.Try.prog 41 [s.sv,.rv (.int .i64 w),h.sv,.rv (.bool alone)] [] [] (.aM [.agg ((vN s w h alone).cells.map .rv),.rv (.bool (vM s w h))]):=by
 refine bG LR [s.sv,.rv (.int .i64 w),h.sv,.rv (.bool alone)] _ (by simp) (by simp [aP,bh,bu,bg,bn,aq.sv,Ln.sv,Nd.sv]) (fun K hK=>?_)
 have h1:=Fu s.bB w
 have h2:=Fu s.pad w
 have h3:=pW s.height h.n (!h.auto)
 have h4:=Fs s.fH h.n (!h.auto)
 have h5:=Ft s.fG h.n (!h.auto)
 have h6:=fun j=>Pw j 0 (pS s.bB w) (pS s.pad w) (er s.height h.n (!h.auto)) (er s.fH h.n (!h.auto)) (er s.fG h.n (!h.auto))
 simp -implicitDefEqProofs only [vN,AL,ye,wS,vM] at hK
 simp -implicitDefEqProofs only [Q4.fJ,Sz.sv,Sz.cells,List.map_cons,List.map_nil] at h1 h2 h3 h4 h5
 generalize oA s.bB w=M at *
 generalize oA s.pad w=D at *
 generalize dL s.height h.n (!h.auto)=H at *
 generalize bl (dL s.fH h.n (!h.auto)) 0=L at *
 generalize bl (dL s.fG h.n (!h.auto)) 1125899906842624=X at *
 conv in fc _ _ _ _=>reduce
 simp -implicitDefEqProofs only [Sz.sv,Sz.cells,go_sem,Int.reduceNegSucc]
 cases alone <;>(have cm:=h1;have cG:=h2;have cH:=h3;have cY:=h4;have dm:=h5;have eZ:=h6;repeat' (first | (simp -implicitDefEqProofs only [go_sem,Int.reduceNegSucc,gH,iY,gI,iZ,gT,jm,ic,jy,iB,jJ,iJ,jS,iK,jT,iL,jU,iM,jV,iN,jW,gJ,ja,gK,jb,gL,jc,gM,jd,gN,je,gO,jf,gP,jg,gQ,jh,gR,ji,gS,jk,gU,jn,gV,jo,gW,jq,gX,jr,gY,js,gZ,jt,hD,ju,hJ,jv,hU,jw,ia,jx,ie,jz,ig,jA,ij,jB,iq,jC,ir,jD,iu,jE,iw,jF,iy,jG,iz,jH,iA,jI,iC,jK,iD,jL,gl,jM,iE,jN,iF,jO,iG,jP,iH,jQ,iI,jR,iT,iO,iP,iQ,iR,iS,iU,iV,iW,iX,gG,gk,an,Q4.ints]) | (with_reducible refine aA ?_) | (with_reducible first | refine aF cm ?_ | refine aG cm ?_) | (with_reducible first | refine aF cG ?_ | refine aG cG ?_) | (with_reducible first | refine aF cH ?_ | refine aG cH ?_) | (with_reducible first | refine aF cY ?_ | refine aG cY ?_) | (with_reducible first | refine aF dm ?_ | refine aG dm ?_) | ((first | refine cC (eZ _) ?_ ?_ ?_ | refine cZ (eZ _) ?_ ?_ ?_ | fail);(focus (simp [aW,ag] <;> fail));(focus (simp [bk,aZ] <;> fail))) | ((first | refine ai (fun hg=>?_) (fun hg=>?_) | refine aB (fun hg=>?_) (fun hg=>?_) | refine aC (fun hg=>?_) (fun hg=>?_)) <;> try simp -implicitDefEqProofs only [hg,Bool.not_true,Bool.not_false]) | ((with_reducible apply And.intro);focus (first | trivial | omega | decide | (simp -implicitDefEqProofs only [maxLen];omega) | (simp [maxLen,an,ak,au,az,aj,ay,ax] <;> omega))) | fail))
 all_goals (refine (hK _ _ ?_).2;clear hK;simp -implicitDefEqProofs only [go_sem,Int.reduceNegSucc,bw,bD,bN,bQ,aY,aS,aR,Ed.cells,Q4.fJ,Q4.ints] <;>(try simp_all [-Int.not_lt,-Int.not_le,aY,aS,aR,cj,Ed.cells,Q4.fJ,Q4.ints]) <;> try omega)
end Go.aI

namespace Go.aI
open Go
def RQ (i j m k:Nat):Option Nat:=if k=j then some i else if k=i then none else if k<m then some k else none
def RP (i j k:Nat):Nat:=if k=i then j else k
end Go.aI

namespace Go.aI
open Go
theorem Bj {P:Program} {f:FuncId} {eG:List U} {args:List U} {pre us:List (Nat×HB)} {sv:U} (H:aK P f eG [] us sv) (hl:args.length=eG.length)
 (hz:∀ hp,aW hp pre→∀ (j:Nat) (y x:U),args[j]?=some y→eG[j]?=some x→Rn (fun _=>none) hp y x) (hfl:dJ sv) (fl:∀ q∈us,mT q.2∧∀ p∈pre,p.1≠q.1):aK P f args pre us sv:=by
 refine ⟨H.1,fun C hp w aa vs hpre hnew R hvl hvs=>?_⟩
 let C2:Ctx:=⟨w,fun b=>aD C aa hp b∨∃ id,(hp id).isSome=true∧aa id=some b,fun _=>False,C.N,fun _=>none,fun _=>none⟩
 have qD:∀ b,C2.uD b→aD C2 (fun _=>none) (fun _=>none) b:=fun b hb=>⟨.inl hb,fun id hid=>by simp at hid⟩
 have R2:bL C2 (fun _=>none) w (fun _=>none):=⟨fun id hb h=>(by cases h),fun i j b h=>(by simp at h),fun i b h=>(by simp at h),⟨rfl,rfl,rfl,Nat.le_refl _,fun b _ _=>rfl⟩,fun id hb hb0 h=>(by cases h)⟩
 have oh:∀ id,id∈us.map (·.1)→hp id=none∧C.h0 id=none:=fun id hid=>by
  obtain ⟨q,hq,rfl⟩:=List.mem_map.1 hid
  rcases hnew q hq with ⟨hb,hm⟩ | h
  ·exact absurd rfl ((fl q hq).2 (q.1,hb) hm)
  ·exact h
 refine (H.2 C2 (fun _=>none) w (fun _=>none) vs (fun q hq=>by simp at hq) (fun q hq=>.inr ⟨rfl,rfl⟩) R2 (by simp [hvl,hl]) (fun j s hj=>?_)).mono ?_
 ·have hlt:=(List.getElem?_eq_some_iff.1 hj).1
  have hy:=List.getElem?_eq_getElem (l:=args) (i:=j) (by omega)
  exact Rp.leave (τ:=fun _=>none) (fun b hb=>qD b (.inl hb)) (fun i b _ hi hb=>qD b (.inr ⟨i,hi,hb⟩)) (fun i hb hi=>R.heap i hb hi) (fun j id h=>by cases h) (hvs j _ hy) (hz hp hpre j _ s hy hj)
 ·rintro e w' ⟨v,aE,rfl,S,hR⟩
  have R':=S.mem
  have dD:∀ b,b<w.heap.size→w'.heap[b]?=w.heap[b]?:=fun b hb=>R'.fr.block b hb (fun h=>h)
  have hsz:w.heap.size≤w'.heap.size:=R'.fr.size
  have om:∀ id b,id∈us.map (·.1)→aE id=some b→w.heap.size≤b∧b<w'.heap.size:=fun id b hid hb=>by
   obtain ⟨h1,h2⟩:=R'.own id b (lT.2 hid) hb
   rcases h1 with ⟨a,_⟩ | a
   ·cases a
   ·exact ⟨a,h2⟩
  let cP:Nat→Option Nat:=fun id=>if id∈us.map (·.1) then aE id else aa id
  have rT:∀ id,id∈us.map (·.1)→cP id=aE id:=fun id h=>if_pos h
  have rN:∀ id,id∉us.map (·.1)→cP id=aa id:=fun id h=>if_neg h
  have hN:∀ id,id∉us.map (·.1)→bz hp us id=hp id:=fun id h=>xQ h
  have hT:∀ id,id∈us.map (·.1)→bz hp us id=bz (fun _=>none) us id:=fun id h=>uT h
  have hs:∀ j,(bz (fun _=>none) us j).isSome=true→bz hp us j=bz (fun _=>none) us j∧cP j=aE j:=fun j hj=>⟨hT j (lT.1 hj),rT j (lT.1 hj)⟩
  have qO:∀ b,aD C aa hp b→b<w.heap.size→aD C cP (bz hp us) b∧w'.heap[b]?=w.heap[b]?:=fun b hb hlt=>by
   refine ⟨⟨hb.1,fun id hid he=>?_⟩,dD b hlt⟩
   by_cases hm:id∈us.map (·.1)
   ·rw [rT id hm] at he
    have:=(om id b hm he).1;omega
   ·rw [hN id hm] at hid
    rw [rN id hm] at he
    exact hb.2 id hid he
  have E:ek w w' (aD C aa hp) (aD C cP (bz hp us)) aa cP hp (bz hp us):=ek.of qO (fun id hb hq=>by
   have hm:id∉us.map (·.1):=fun hm=>by rw [(oh id hm).1] at hq;cases hq
   refine ⟨hb,by rw [hN id hm];exact hq,?_⟩
   rw [rN id hm]
   cases hb with
   | var cs=>rfl
   | row e af xs=>exact ⟨Nat.le_refl _,fun _=>⟨rfl,rfl,fun b hb cur t hc=>⟨cur,t,by rw [dD b (R.own id b (by rw [hq];rfl) hb).2];exact hc,rfl⟩⟩⟩)
  refine ⟨v,cP,rfl,⟨⟨fun id hb hq=>?_,fun i j b h1 h2 h3 h4=>?_,fun id b h1 h2=>?_,⟨R'.fr.os.trans R.fr.os,R'.fr.tape.trans R.fr.tape,R'.fr.output.trans R.fr.output,Nat.le_trans R.fr.size hsz,fun b h1 h2=>?_⟩,fun id hb hb0 h1 h2=>?_⟩,E⟩,hR.flat hs hfl⟩
  ·by_cases hm:id∈us.map (·.1)
   ·rw [hT id hm] at hq
    have zh:mT hb:=by
     rcases FO hq with h | h
     ·cases h
     ·exact (fl _ h).1
    exact (R'.heap id hb hq).flat hs (lT.2 hm) zh
   ·rw [hN id hm] at hq
    rcases R.heap id hb hq with ⟨a1,a2⟩ | ⟨b,cur,t,a1,a2,a3⟩
    ·exact .inl ⟨(rN id hm).trans a1,a2⟩
    ·refine .inr ⟨b,cur,t,(rN id hm).trans a1,?_,a3.mono E⟩
     rw [dD b (R.own id b (by rw [hq];rfl) a1).2];exact a2
  ·by_cases hi:i∈us.map (·.1) <;> by_cases hj:j∈us.map (·.1)
   ·rw [rT i hi] at h3;rw [rT j hj] at h4
    exact R'.inj i j b (lT.2 hi) (lT.2 hj) h3 h4
   ·rw [rT i hi] at h3;rw [rN j hj] at h4;rw [hN j hj] at h2
    have h5:=om i b hi h3;have h6:=R.own j b h2 h4;omega
   ·rw [rN i hi] at h3;rw [rT j hj] at h4;rw [hN i hi] at h1
    have h5:=om j b hj h4;have h6:=R.own i b h1 h3;omega
   ·rw [rN i hi] at h3;rw [rN j hj] at h4;rw [hN i hi] at h1;rw [hN j hj] at h2
    exact R.inj i j b h1 h2 h3 h4
  ·by_cases hm:id∈us.map (·.1)
   ·rw [rT id hm] at h2
    obtain ⟨a1,a2⟩:=om id b hm h2
    exact ⟨.inr (Nat.le_trans R.fr.size a1),a2⟩
   ·rw [hN id hm] at h1;rw [rN id hm] at h2
    obtain ⟨a1,a2⟩:=R.own id b h1 h2
    exact ⟨a1,by omega⟩
  ·rw [dD b (by have:=R.fr.size;omega)];exact R.fr.block b h1 h2
  ·by_cases hm:id∈us.map (·.1)
   ·rw [(oh id hm).2] at h2;cases h2
   ·rw [hN id hm] at h1
    have ev:=R.eS id hb hb0 h1 h2
    obtain ⟨hb',g1,g2⟩:∃ hb',bz hp us id=some hb'∧eD w w' (aa id) (cP id) hb hb':=by
     refine ⟨hb,by rw [hN id hm];exact h1,?_⟩
     rw [rN id hm]
     cases hb with
     | var cs=>rfl
     | row e af xs=>exact ⟨Nat.le_refl _,fun _=>⟨rfl,rfl,fun b hb cur t hc=>⟨cur,t,by rw [dD b (R.own id b (by rw [h1];rfl) hb).2];exact hc,rfl⟩⟩⟩
    rw [hN id hm,h1] at g1;cases g1
    exact ev.trans g2
theorem BL {n0:Nat} {env:List (Nat×U)} {h:List (Option HB)} (i0 e o:Nat) {cs:List U} (hi:ag h i0=some (.var cs)) (ho:cs[o]?=some (.rv .bO)):cI n0 ⟨env,h⟩ ⟨env,aZ (aZ h (h.length,.row e 0 [])) (i0,.var (cs.set o (.row h.length 0 0)))⟩:=by
 intro C a w R
 obtain ⟨⟨aa,RF⟩,h1,h0⟩:=R
 have hnone:ag h h.length=none:=by unfold ag;rw [List.getElem?_eq_none (Nat.le_refl _)]
 have tE:C.h0 h.length=none:=h0 _ h1
 obtain ⟨aE,S⟩:=RF.mem.Cc e hi ho hnone tE
 have fX:=RF.step S
 have hlt:i0<h.length:=by
  apply Classical.byContradiction
  intro hc
  unfold ag at hi
  rw [List.getElem?_eq_none (by omega)] at hi;cases hi
 have e1:=wq (h:=h) (q:=(h.length,.row e 0 [])) (Nat.le_refl _)
 have l1:=sI h (h.length,.row e 0 [])
 have e2:=wq (h:=aZ h (h.length,.row e 0 [])) (q:=(i0,.var (cs.set o (.row h.length 0 0)))) (by show i0≤_;omega)
 have l2:=sI (aZ h (h.length,.row e 0 [])) (i0,.var (cs.set o (.row h.length 0 0)))
 refine ⟨⟨aE,?_⟩,?_,h0⟩
 ·show fe C (lk env) (ag (aZ (aZ h (h.length,.row e 0 [])) (i0,.var (cs.set o (.row h.length 0 0))))) a w aE
  rw [e2,e1];exact fX
 ·have Ja:n0≤h.length:=h1
  show n0≤(aZ (aZ h (h.length,.row e 0 [])) (i0,.var (cs.set o (.row h.length 0 0)))).length
  omega
end Go.aI

namespace Go.aI
open Go
theorem Lp:aV Go.Proofs.Try.prog 67 53 (fc Go.Proofs.Try.prog 67 53 [(.c 4 3 true),(.t 5),(.t 6)]) [(.c 4 3 true),(.t 5),(.t 6)]:=bq (by kernel_rfl)
theorem Ls:aV Go.Proofs.Try.prog 82 27 (fc Go.Proofs.Try.prog 82 27 [(.t 4)]) [(.t 4)]:=bq (by kernel_rfl)
structure Ai where
 base:Int
 left:Sz
 wide:Sz
 right:Sz
 around:Int
 bK:Bool
 least:Int
 most:Int
def Ai.cells (i:Ai):List RV:=[.int .i64 i.base,.bool i.left.auto,.int .i64 i.left.n,.bool i.wide.auto,.int .i64 i.wide.n,.bool i.right.auto,.int .i64 i.right.n,.int .i64 i.around,.bool i.bK,.int .i64 i.least,.int .i64 i.most]
abbrev Ai.sv (i:Ai):U:=.agg (i.cells.map .rv)
structure Ao where
 l:Int
 w:Int
 r:Int
def Ao.cells (o:Ao):List RV:=[.int .i64 o.l,.int .i64 o.w,.int .i64 o.r]
def uz (i:Ai) (w:Int):Int×Int:=
 if ¬ i.base - i.around - w - bl i.left 0 - bl i.right 0<0∧i.left.auto=true∧i.right.auto=true then ((i.base - i.around - w) / 2,i.base - i.around - w - (i.base - i.around - w) / 2)
 else if ¬ i.base - i.around - w - bl i.left 0 - bl i.right 0<0∧i.left.auto=true∨i.bK=true∧(i.base - i.around - w - bl i.left 0 - bl i.right 0<0∨i.right.auto=false) then (i.base - i.around - w - bl i.right 0,bl i.right 0)
 else (bl i.left 0,i.base - i.around - w - bl i.left 0)
def ff (i:Ai) (s:Sz):Ao:=if s.auto=true then ⟨bl i.left 0,i.base - i.around - bl i.left 0 - bl i.right 0,bl i.right 0⟩ else ⟨(uz i s.n).1,s.n,(uz i s.n).2⟩
def sV (i:Ai) (s:Sz):Bool:=bU (ff i s).l && bU (ff i s).w && bU (ff i s).r
structure Fit (i:Ai):Prop where
 b:bU i.base=true
 a:bU i.around=true
 l:bU (bl i.left 0)=true
 r:bU (bl i.right 0)=true
theorem Qc (i:Ai) (xs:List Int) (hb:bU i.base=true) (ha:bU i.around=true) (hx:∀ x∈xs,bU x=true) (hl:xs.length≤100):aK Go.Proofs.Try.prog 83 [i.sv,.rv (.sl 1 (aJ xs))] [] [] (.rv (.int .i64 (i.base - i.around - xs.sum))):=by
 refine bG Lm [i.sv,.rv (.sl 1 (aJ xs))] _ (by simp) (by simp [aP,bh,bu,bg,bn,aq.sv,Ln.sv,Nd.sv]) (fun K hK=>?_)
 have tP:=aj xs
 rw [nk] at hb ha
 have w0:IntKind.i64.wrap (i.base - i.around)=i.base - i.around:=wrap_i64 (by omega) (by omega)
 conv in fc _ _ _ _=>reduce
 simp -implicitDefEqProofs only [Ai.sv,Ai.cells,go_sem,Int.reduceNegSucc]
 repeat' (first | (simp -implicitDefEqProofs only [go_sem,Int.reduceNegSucc,tP,w0]) | (with_reducible refine aA ?_) | ((first | refine ai (fun hg=>?_) (fun hg=>?_) | refine aB (fun hg=>?_) (fun hg=>?_) | refine aC (fun hg=>?_) (fun hg=>?_)) <;> try simp -implicitDefEqProofs only [hg,Bool.not_true,Bool.not_false]) | ((with_reducible apply And.intro);focus (first | trivial | omega | decide | (simp -implicitDefEqProofs only [maxLen];omega) | (simp [maxLen,an,ak,au,az,aj,ay,ax] <;> omega))) | fail)
 refine cK (ι:=Nat) (fun k=>[(15,.rv (.int .i64 k)),(14,.rv (.int .i64 xs.length)),(13,.rv (.sl 1 (aJ xs))),(5,.rv (.int .i64 (i.base - i.around - (xs.take k).sum)))]) (fun _=>[some (.var (i.cells.map .rv))]) (fun k=>k≤xs.length∧-(1125899906842624*k)≤(xs.take k).sum∧(xs.take k).sum≤1125899906842624*k) (fun k=>xs.length - k) 0 (by simp) (bp (by simp [lk])) (fun k hk K' hN hX hR=>?_)
 obtain ⟨cz,hk2,dc⟩:=hk
 simp -implicitDefEqProofs only [go_sem,Int.reduceNegSucc]
 refine ai (fun hg=>?_) (fun hg=>?_)
 ·have av:k<xs.length:=by simp at hg;omega
  have hg:=pz av
  have wu:=ct (k:=k) (by omega)
  have hf:=nk.1 (hx _ (List.getElem_mem av))
  have hst:=FG av
  have ws:IntKind.i64.wrap (i.base - i.around - (xs.take k).sum - xs[k])=i.base - i.around - (xs.take (k+1)).sum:=by rw [wrap_i64 (by omega) (by omega),hst];omega
  repeat' (first | (simp -implicitDefEqProofs only [go_sem,Int.reduceNegSucc,hg,tP,wu,ws]) | (with_reducible refine aA ?_) | ((first | refine ai (fun hg=>?_) (fun hg=>?_) | refine aB (fun hg=>?_) (fun hg=>?_) | refine aC (fun hg=>?_) (fun hg=>?_)) <;> try simp -implicitDefEqProofs only [hg,Bool.not_true,Bool.not_false]) | ((with_reducible apply And.intro);focus (first | trivial | omega | decide | (simp -implicitDefEqProofs only [maxLen];omega) | (simp [maxLen,an,ak,au,az,aj,ay,ax] <;> omega))) | fail)
  exact hN (k+1) _ _ ⟨by omega,by omega,by omega⟩ (by omega) (bp (by simp [lk]))
 ·have av:k=xs.length:=by simp at hg;omega
  subst av
  simp -implicitDefEqProofs only [go_sem,Int.reduceNegSucc]
  refine hX _ _ _ ?_
  rw [List.take_length]
  repeat' (first | (simp -implicitDefEqProofs only [go_sem,Int.reduceNegSucc]) | (with_reducible refine aA ?_) | ((first | refine ai (fun hg=>?_) (fun hg=>?_) | refine aB (fun hg=>?_) (fun hg=>?_) | refine aC (fun hg=>?_) (fun hg=>?_)) <;> try simp -implicitDefEqProofs only [hg,Bool.not_true,Bool.not_false]) | ((with_reducible apply And.intro);focus (first | trivial | omega | decide | (simp -implicitDefEqProofs only [maxLen];omega) | (simp [maxLen,an,ak,au,az,aj,ay,ax] <;> omega))) | fail)
  exact (hK _ _ (bP rfl)).2
theorem AE (i:Ai) (xs:List Int) (hb:bU i.base=true) (ha:bU i.around=true) (hx:∀ x∈xs,bU x=true) (hl:xs.length≤100) (id:Nat):aK Go.Proofs.Try.prog 83 [i.sv,.row id 0 xs.length] [(id,.row 1 0 (mz xs))] [] (.rv (.int .i64 (i.base - i.around - xs.sum))):=by
 refine Bj (eG:=[i.sv,.rv (.sl 1 (aJ xs))]) (Qc i xs hb ha hx hl) rfl (fun hp hpre k y r hy hr=>?_) (.rv _ (.int _ _)) (by simp)
 match k with
 | 0=>cases hy;cases hr;exact aY.2 (cR.2 rfl)
 | 1=>
   cases hy;cases hr
   have:=qq (h:=hp) (τ:=fun _=>none) (j:=id) (e:=1) (af:=0) (len:=xs.length) (xs:=aJ xs) (by rw [← CS];exact hpre _ (.head _)) rfl (by rw [aj];omega) (mB _)
   rw [List.take_of_length_le (by rw [aj];omega)] at this
   exact .fz _ _ this
 | k+2=>simp at hy
theorem Ok {x:Sz} (h:x.auto=false) (d:Int):bl x d=x.n:=by simp [bl,h]
theorem Qe (i:Ai) (w:Int) (hf:Fit i) (hw:bU w=true):aK Go.Proofs.Try.prog 84 [i.sv,.rv (.int .i64 w)] [] [] (.aM [.rv (.int .i64 (uz i w).1),.rv (.int .i64 (uz i w).2)]):=by
 refine bG Lo [i.sv,.rv (.int .i64 w)] _ (by simp) (by simp [aP,bh,bu,bg,bn,aq.sv,Ln.sv,Nd.sv]) (fun K hK=>?_)
 have h1:=kV i.left 0
 have h2:=kV i.right 0
 have h3:=AE i [w] hf.b hf.a (by simp [hw]) (by simp)
 have h4:=AE i [w,bl i.left 0,bl i.right 0] hf.b hf.a (by simp [hw,hf.l,hf.r]) (by simp)
 have q1:=nk.1 hf.b
 have q2:=nk.1 hf.a
 have q3:=nk.1 hf.l
 have q4:=nk.1 hf.r
 have q5:=nk.1 hw
 have h5:=PW (i.base - i.around - w)
 have w1:IntKind.i64.wrap (i.base - i.around - w - (i.base - i.around - w) / 2)=i.base - i.around - w - (i.base - i.around - w) / 2:=wrap_i64 (by omega) (by omega)
 have w2:IntKind.i64.wrap (i.base - i.around - w - bl i.right 0)=i.base - i.around - w - bl i.right 0:=wrap_i64 (by omega) (by omega)
 have w3:IntKind.i64.wrap (i.base - i.around - w - bl i.left 0)=i.base - i.around - w - bl i.left 0:=wrap_i64 (by omega) (by omega)
 have e1:[w].sum=w:=by simp
 have e2:i.base - i.around - [w,bl i.left 0,bl i.right 0].sum=i.base - i.around - w - bl i.left 0 - bl i.right 0:=by simp;omega
 rw [e1] at h3
 rw [e2] at h4
 simp -implicitDefEqProofs only [mz,List.map_cons,List.map_nil,List.length_cons,List.length_nil,Ai.sv,Ai.cells,Sz.sv,Sz.cells,Nat.reduceAdd] at h1 h2 h3 h4
 simp -implicitDefEqProofs only [uz] at hK
 conv in fc _ _ _ _=>reduce
 simp -implicitDefEqProofs only [Ai.sv,Ai.cells,go_sem,Int.reduceNegSucc]
 generalize bl i.left 0=L at *
 generalize bl i.right 0=R at *
 cases hl:i.left.auto <;> cases hr:i.right.auto <;> cases ht:i.bK <;> simp -implicitDefEqProofs only [hl,hr,ht] at h1 h2 h3 h4 hK ⊢ <;> by_cases CF:i.base - i.around - w - L - R<0 <;> simp -implicitDefEqProofs only [CF,decide_true,decide_false] at hK ⊢
 all_goals ((have br:=h1;have y_2:=h2;have bS:=h3;have bY:=h4;have cu:=h5;repeat' (first | (simp -implicitDefEqProofs only [go_sem,Int.reduceNegSucc,w1,w2,w3,CF,decide_true,decide_false]) | (with_reducible refine aA ?_) | (with_reducible first | refine aF br ?_ | refine aG br ?_) | (with_reducible first | refine aF y_2 ?_ | refine aG y_2 ?_) | ((first | refine cC (bS _) ?_ ?_ ?_ | refine cZ (bS _) ?_ ?_ ?_ | fail);(focus (simp [aW,ag] <;> fail));(focus (simp [bk,aZ] <;> fail))) | ((first | refine cC (bY _) ?_ ?_ ?_ | refine cZ (bY _) ?_ ?_ ?_ | fail);(focus (simp [aW,ag] <;> fail));(focus (simp [bk,aZ] <;> fail))) | (with_reducible first | refine aF cu ?_ | refine aG cu ?_) | ((first | refine ai (fun hg=>?_) (fun hg=>?_) | refine aB (fun hg=>?_) (fun hg=>?_) | refine aC (fun hg=>?_) (fun hg=>?_)) <;> try simp -implicitDefEqProofs only [hg,Bool.not_true,Bool.not_false]) | ((with_reducible apply And.intro);focus (first | trivial | omega | decide | (simp -implicitDefEqProofs only [maxLen];omega) | (simp [maxLen,an,ak,au,az,aj,ay,ax] <;> omega))) | fail)))
 all_goals (refine (hK _ _ (kC rfl rfl)).2)
theorem Qo (i:Ai) (s:Sz) (hf:Fit i) (hs:s.auto=false→bU s.n=true):aK Go.Proofs.Try.prog 67 [i.sv,s.sv] [] [] (.aM [.agg ((ff i s).cells.map .rv),.rv (.int .i64 (ff i s).w),.rv (.bool (sV i s))]):=by
 refine bG Lp [i.sv,s.sv] _ (by simp) (by simp [aP,bh,bu,bg,bn,aq.sv,Ln.sv,Nd.sv]) (fun K hK=>?_)
 have h1:=kV i.left 0
 have h2:=kV i.right 0
 have h3:=AE i [bl i.left 0,bl i.right 0] hf.b hf.a (by simp [hf.l,hf.r]) (by simp)
 have f1:=gF (ff i s).l
 have f2:=gF (ff i s).w
 have f3:=gF (ff i s).r
 have e2:i.base - i.around - [bl i.left 0,bl i.right 0].sum=i.base - i.around - bl i.left 0 - bl i.right 0:=by simp;omega
 rw [e2] at h3
 simp -implicitDefEqProofs only [sV] at hK
 simp -implicitDefEqProofs only [mz,List.map_cons,List.map_nil,List.length_cons,List.length_nil,Ai.sv,Ai.cells,Sz.sv,Sz.cells,Nat.reduceAdd,Ao.cells,ff] at h1 h2 h3 hK f1 f2 f3
 conv in fc _ _ _ _=>reduce
 simp -implicitDefEqProofs only [Ai.sv,Ai.cells,Sz.sv,Sz.cells,go_sem,Int.reduceNegSucc]
 cases ha:s.auto with
 | true=>
   simp -implicitDefEqProofs only [ha,if_true] at hK f1 f2 f3
   have cm:=h1;have cG:=h2;have cH:=h3;have cY:=f1;have dm:=f2;have eZ:=f3;repeat' (first | (simp -implicitDefEqProofs only [go_sem,Int.reduceNegSucc]) | (with_reducible refine aA ?_) | (with_reducible first | refine aF cm ?_ | refine aG cm ?_) | (with_reducible first | refine aF cG ?_ | refine aG cG ?_) | ((first | refine cC (cH _) ?_ ?_ ?_ | refine cZ (cH _) ?_ ?_ ?_ | fail);(focus (simp [aW,ag] <;> fail));(focus (simp [bk,aZ] <;> fail))) | (with_reducible first | refine aF cY ?_ | refine aG cY ?_) | (with_reducible first | refine aF dm ?_ | refine aG dm ?_) | (with_reducible first | refine aF eZ ?_ | refine aG eZ ?_) | ((first | refine ai (fun hg=>?_) (fun hg=>?_) | refine aB (fun hg=>?_) (fun hg=>?_) | refine aC (fun hg=>?_) (fun hg=>?_)) <;> try simp -implicitDefEqProofs only [hg,Bool.not_true,Bool.not_false]) | ((with_reducible apply And.intro);focus (first | trivial | omega | decide | (simp -implicitDefEqProofs only [maxLen];omega) | (simp [maxLen,an,ak,au,az,aj,ay,ax] <;> omega))) | fail)
   all_goals (refine (hK _ _ ?_).2;clear hK;simp -implicitDefEqProofs only [go_sem,Int.reduceNegSucc,bw,bD,bN,bQ,aY,aS,aR] <;>(try simp_all [-Int.not_lt,-Int.not_le,aY,aS,aR,cj]) <;> try omega)
 | false=>
   have h4:=Qe i s.n hf (hs ha)
   simp -implicitDefEqProofs only [Ai.sv,Ai.cells,List.map_cons,List.map_nil] at h4
   simp -implicitDefEqProofs only [ha,Bool.false_eq_true,if_false] at hK f1 f2 f3
   have kH:=h1;have kI:=h2;have kJ:=h4;have mO:=f1;have mP:=f2;have mQ:=f3;repeat' (first | (simp -implicitDefEqProofs only [go_sem,Int.reduceNegSucc]) | (with_reducible refine aA ?_) | (with_reducible first | refine aF kH ?_ | refine aG kH ?_) | (with_reducible first | refine aF kI ?_ | refine aG kI ?_) | (with_reducible first | refine aF kJ ?_ | refine aG kJ ?_) | (with_reducible first | refine aF mO ?_ | refine aG mO ?_) | (with_reducible first | refine aF mP ?_ | refine aG mP ?_) | (with_reducible first | refine aF mQ ?_ | refine aG mQ ?_) | ((first | refine ai (fun hg=>?_) (fun hg=>?_) | refine aB (fun hg=>?_) (fun hg=>?_) | refine aC (fun hg=>?_) (fun hg=>?_)) <;> try simp -implicitDefEqProofs only [hg,Bool.not_true,Bool.not_false]) | ((with_reducible apply And.intro);focus (first | trivial | omega | decide | (simp -implicitDefEqProofs only [maxLen];omega) | (simp [maxLen,an,ak,au,az,aj,ay,ax] <;> omega))) | fail)
   all_goals (refine (hK _ _ ?_).2;clear hK;simp -implicitDefEqProofs only [go_sem,Int.reduceNegSucc,bw,bD,bN,bQ,aY,aS,aR] <;>(try simp_all [-Int.not_lt,-Int.not_le,aY,aS,aR,cj]) <;> try omega)
theorem xI (i:Ai) (s:Sz) (hf:Fit i) (hs:s.auto=false→bU s.n=true) (j:Nat) (o:Ao) (n:Int):aK Go.Proofs.Try.prog 82 [.ptr j 0,s.sv]
 [(j,.var (U.bZ 67 [i.sv]::(o.cells++[RV.int .i64 n]).map .rv))] [(j,.var (U.bZ 67 [i.sv]::((ff i s).cells++[RV.int .i64 (ff i s).w]).map .rv))] (.rv (.bool (sV i s))):=by
 refine lp Ls [j] [.var (U.bZ 67 [i.sv]::(o.cells++[RV.int .i64 n]).map .rv)] [.var (U.bZ 67 [i.sv]::(o.cells++[RV.int .i64 n]).map .rv)] [.ptr 0 0,s.sv] [.ptr j 0,s.sv] _ _ (by simp) (by simp [aP,gp,bh,bu]) rfl (by simp [bM]) (by simp [dn,Bc,bh,bu,aP,bg,Ao.cells]) (fun K hK=>?_)
 have h1:=Qo i s hf hs
 simp -implicitDefEqProofs only [Ao.cells,List.cons_append,List.nil_append,List.map_cons,List.map_nil] at hK ⊢
 simp -implicitDefEqProofs only [Ao.cells,Sz.sv,Sz.cells,List.map_cons,List.map_nil] at h1
 conv in fc _ _ _ _=>reduce
 simp -implicitDefEqProofs only [Sz.sv,Sz.cells,go_sem,Int.reduceNegSucc]
 have mR:=h1;repeat' (first | (simp -implicitDefEqProofs only [go_sem,Int.reduceNegSucc]) | (with_reducible refine aA ?_) | (with_reducible first | refine aF mR ?_ | refine aG mR ?_) | ((first | refine ai (fun hg=>?_) (fun hg=>?_) | refine aB (fun hg=>?_) (fun hg=>?_) | refine aC (fun hg=>?_) (fun hg=>?_)) <;> try simp -implicitDefEqProofs only [hg,Bool.not_true,Bool.not_false]) | ((with_reducible apply And.intro);focus (first | trivial | omega | decide | (simp -implicitDefEqProofs only [maxLen];omega) | (simp [maxLen,an,ak,au,az,aj,ay,ax] <;> omega))) | fail)
 all_goals (try ((first | refine (hK _ _ _ _ [] (dr _ _) ?_).2 | refine (hK _ _ ?_).2 | refine (hK _ _ _ _ [] (dr _ _) ?_).1 | refine (hK _ _ ?_).1 | fail);clear hK;(simp_all [dG,bM,newL,dK,dx,bD,bw,lk,bN,cO,cW,cQ,dZ,dY,ag,dH,bQ,aS,dg,dI,ey,aY,ew,aR,dh,cR,cj,OO,Ao.cells]) <;> try omega))
end Go.aI

namespace Go.aI
open Go
theorem Lr:aV Go.Proofs.Try.prog 66 60 (fc Go.Proofs.Try.prog 66 60 [(.c 8 3 true),(.t 9)]) [(.c 8 3 true),(.t 9)]:=bq (by kernel_rfl)
theorem Lq:aV Go.Proofs.Try.prog 46 41 (fc Go.Proofs.Try.prog 46 41 [(.c 2 3 true),(.t 3)]) [(.c 2 3 true),(.t 3)]:=bq (by kernel_rfl)
def AK (i:Ai) (c:Ao→Bool) (s:Sz) (o:Ao):Option Ao:=if c o=true then (if sV i s=true then some (ff i s) else none) else some o
def uV (i:Ai):Option Ao:=if sV i i.wide=true then (AK i (fun o=>decide (o.w>i.most)) ⟨false,i.most⟩ (ff i i.wide)).bind (AK i (fun o=>decide (o.w<i.least)) ⟨false,i.least⟩) else none
def pJ:Option Ao→Ao
 | some o=>o
 | none=>⟨0,0,0⟩
theorem PR (i:Ai) (hf:Fit i) (hw:bU (bl i.wide 0)=true) (h1:bU i.least=true) (h2:bU i.most=true):aK Go.Proofs.Try.prog 66 [.bZ 67 [i.sv],i.wide.sv,.rv (.int .i64 i.least),.rv (.int .i64 i.most)] [] [] (.aM [.agg ((pJ (uV i)).cells.map .rv),.rv (.bool (uV i).isSome)]):=by
 refine bG Lr [.bZ 67 [i.sv],i.wide.sv,.rv (.int .i64 i.least),.rv (.int .i64 i.most)] _ (by simp) (by simp [aP,Bc,bh,bu,bg]) (fun K hK=>?_)
 have a0:=xI i i.wide hf (fun h=>by rwa [Ok h] at hw) 3 ⟨0,0,0⟩ 0
 have a1:=xI i ⟨false,i.most⟩ hf (fun _=>h2) 3 (ff i i.wide) (ff i i.wide).w
 have a2:=xI i ⟨false,i.least⟩ hf (fun _=>h1) 3 (ff i i.wide) (ff i i.wide).w
 have a3:=xI i ⟨false,i.least⟩ hf (fun _=>h1) 3 (ff i ⟨false,i.most⟩) (ff i ⟨false,i.most⟩).w
 unfold uV AK at hK
 simp -implicitDefEqProofs only [Ao.cells,Ai.sv,Sz.sv,Sz.cells,List.cons_append,List.nil_append,List.map_cons,List.map_nil] at a0 a1 a2 a3
 conv in fc _ _ _ _=>reduce
 simp -implicitDefEqProofs only [Ai.sv,Sz.sv,Sz.cells,go_sem,Int.reduceNegSucc]
 have br:=a0;have y_2:=a1;have bS:=a2;have bY:=a3;repeat' (first | (simp -implicitDefEqProofs only [go_sem,Int.reduceNegSucc]) | (with_reducible refine aA ?_) | (refine cC br ?_ ?_ ?_;(focus (simp [aW,ag] <;> fail));(focus (simp [bk,aZ] <;> fail))) | (refine cZ br ?_ ?_ ?_;(focus (simp [aW,ag] <;> fail));(focus (simp [bk,aZ] <;> fail))) | (refine cC y_2 ?_ ?_ ?_;(focus (simp [aW,ag] <;> fail));(focus (simp [bk,aZ] <;> fail))) | (refine cZ y_2 ?_ ?_ ?_;(focus (simp [aW,ag] <;> fail));(focus (simp [bk,aZ] <;> fail))) | (refine cC bS ?_ ?_ ?_;(focus (simp [aW,ag] <;> fail));(focus (simp [bk,aZ] <;> fail))) | (refine cZ bS ?_ ?_ ?_;(focus (simp [aW,ag] <;> fail));(focus (simp [bk,aZ] <;> fail))) | (refine cC bY ?_ ?_ ?_;(focus (simp [aW,ag] <;> fail));(focus (simp [bk,aZ] <;> fail))) | (refine cZ bY ?_ ?_ ?_;(focus (simp [aW,ag] <;> fail));(focus (simp [bk,aZ] <;> fail))) | ((first | refine ai (fun hg=>?_) (fun hg=>?_) | refine aB (fun hg=>?_) (fun hg=>?_) | refine aC (fun hg=>?_) (fun hg=>?_)) <;> try simp -implicitDefEqProofs only [hg,Bool.not_true,Bool.not_false]) | ((with_reducible apply And.intro);focus (first | trivial | omega | decide | (simp -implicitDefEqProofs only [maxLen];omega) | (simp [maxLen,an,ak,au,az,aj,ay,ax] <;> omega))) | fail)
 all_goals (refine (hK _ _ ?_).2;clear hK;simp -implicitDefEqProofs only [go_sem,Int.reduceNegSucc,bw,bD,bN,bQ,aY,aS,aR,Ao.cells,pJ] <;>(try simp_all [-Int.not_lt,-Int.not_le,aY,aS,aR,cj,Ao.cells,pJ]) <;> try omega)
def tw (i:Ai):Bool:=bU i.base && bU i.around && bU (bl i.left 0) && bU (bl i.wide 0) && bU (bl i.right 0)
def oG (i:Ai):Option Ao:=if tw i=true then uV i else none
theorem HM {i:Ai} (h:tw i=true):Fit i∧bU (bl i.wide 0)=true:=by
 simp -implicitDefEqProofs only [tw,Bool.and_eq_true] at h
 obtain ⟨⟨⟨⟨a,b⟩,c⟩,d⟩,e⟩:=h
 exact ⟨⟨a,b,c,e⟩,d⟩
theorem PM (i:Ai) (h1:bU i.least=true) (h2:bU i.most=true):aK Go.Proofs.Try.prog 46 [i.sv] [] [] (.aM [.agg ((pJ (oG i)).cells.map .rv),.rv (.bool (oG i).isSome)]):=by
 refine bG Lq [i.sv] _ (by simp) (by simp [aP,bh,bu,bg,bn,aq.sv,Ln.sv,Nd.sv]) (fun K hK=>?_)
 have o1:=kV i.left 0
 have o2:=kV i.wide 0
 have o3:=kV i.right 0
 have f1:=gF i.base
 have f2:=gF i.around
 have f3:=gF (bl i.left 0)
 have f4:=gF (bl i.wide 0)
 have f5:=gF (bl i.right 0)
 cases h5:tw i with
 | true=>
   obtain ⟨hF,hw⟩:=HM h5
   have hb:=PR i hF hw h1 h2
   rw [hF.b] at f1
   rw [hF.a] at f2
   rw [hF.l] at f3
   rw [hw] at f4
   rw [hF.r] at f5
   simp -implicitDefEqProofs only [oG,h5,if_true] at hK
   simp -implicitDefEqProofs only [Ai.sv,Ai.cells,Sz.sv,Sz.cells,List.map_cons,List.map_nil] at hb o1 o2 o3
   conv in fc _ _ _ _=>reduce
   simp -implicitDefEqProofs only [Ai.sv,Ai.cells,Sz.sv,Sz.cells,go_sem,Int.reduceNegSucc]
   have cu:=o1;have cm:=o2;have cG:=o3;repeat' (first | (simp -implicitDefEqProofs only [go_sem,Int.reduceNegSucc]) | (with_reducible refine aA ?_) | (with_reducible first | refine aF cu ?_ | refine aG cu ?_) | (with_reducible first | refine aF cm ?_ | refine aG cm ?_) | (with_reducible first | refine aF cG ?_ | refine aG cG ?_) | ((first | refine ai (fun hg=>?_) (fun hg=>?_) | refine aB (fun hg=>?_) (fun hg=>?_) | refine aC (fun hg=>?_) (fun hg=>?_)) <;> try simp -implicitDefEqProofs only [hg,Bool.not_true,Bool.not_false]) | ((with_reducible apply And.intro);focus (first | trivial | omega | decide | (simp -implicitDefEqProofs only [maxLen];omega) | (simp [maxLen,an,ak,au,az,aj,ay,ax] <;> omega))) | fail)
   refine rL 6 ?_
   have cH:=f1;have cY:=f2;have dm:=f3;have eZ:=f4;have kH:=f5;have kI:=hb;repeat' (first | (simp -implicitDefEqProofs only [go_sem,Int.reduceNegSucc,sK,sL,sM,sN,sO,sP,rz,Int.reduceLT,decide_true,decide_false,Int.reduceToNat,Nat.reduceMul]) | (with_reducible refine aA ?_) | (with_reducible show G _ _ (It.l _ _::_) _ _ _;refine rK ?_) | (with_reducible first | refine aF cH ?_ | refine aG cH ?_) | (with_reducible first | refine aF cY ?_ | refine aG cY ?_) | (with_reducible first | refine aF dm ?_ | refine aG dm ?_) | (with_reducible first | refine aF eZ ?_ | refine aG eZ ?_) | (with_reducible first | refine aF kH ?_ | refine aG kH ?_) | (with_reducible first | refine aF kI ?_ | refine aG kI ?_) | ((first | refine ai (fun hg=>?_) (fun hg=>?_) | refine aB (fun hg=>?_) (fun hg=>?_) | refine aC (fun hg=>?_) (fun hg=>?_)) <;> try simp -implicitDefEqProofs only [hg,Bool.not_true,Bool.not_false]) | ((with_reducible apply And.intro);focus (first | trivial | omega | decide | (simp -implicitDefEqProofs only [maxLen];omega) | (simp [maxLen,an,ak,au,az,aj,ay,ax] <;> omega))) | fail)
   all_goals (refine (hK _ _ ?_).2;clear hK;simp -implicitDefEqProofs only [go_sem,Int.reduceNegSucc,bw,bD,bN,bQ,aY,aS,aR,Ao.cells] <;>(try simp_all [-Int.not_lt,-Int.not_le,aY,aS,aR,cj,Ao.cells]) <;> try omega)
 | false=>
   simp -implicitDefEqProofs only [oG,h5,Bool.false_eq_true,if_false] at hK
   simp -implicitDefEqProofs only [Ai.sv,Ai.cells,Sz.sv,Sz.cells,List.map_cons,List.map_nil] at o1 o2 o3
   conv in fc _ _ _ _=>reduce
   simp -implicitDefEqProofs only [Ai.sv,Ai.cells,Sz.sv,Sz.cells,go_sem,Int.reduceNegSucc]
   have kJ:=o1;have mO:=o2;have mP:=o3;repeat' (first | (simp -implicitDefEqProofs only [go_sem,Int.reduceNegSucc]) | (with_reducible refine aA ?_) | (with_reducible first | refine aF kJ ?_ | refine aG kJ ?_) | (with_reducible first | refine aF mO ?_ | refine aG mO ?_) | (with_reducible first | refine aF mP ?_ | refine aG mP ?_) | ((first | refine ai (fun hg=>?_) (fun hg=>?_) | refine aB (fun hg=>?_) (fun hg=>?_) | refine aC (fun hg=>?_) (fun hg=>?_)) <;> try simp -implicitDefEqProofs only [hg,Bool.not_true,Bool.not_false]) | ((with_reducible apply And.intro);focus (first | trivial | omega | decide | (simp -implicitDefEqProofs only [maxLen];omega) | (simp [maxLen,an,ak,au,az,aj,ay,ax] <;> omega))) | fail)
   refine rL 6 ?_
   have mQ:=f1;have mR:=f2;have qb:=f3;have qc:=f4;have qd:=f5;repeat' (first | (simp -implicitDefEqProofs only [go_sem,Int.reduceNegSucc,sK,sL,sM,sN,sO,sP,rz,Int.reduceLT,decide_true,decide_false,Int.reduceToNat,Nat.reduceMul]) | (with_reducible refine aA ?_) | (with_reducible show G _ _ (It.l _ _::_) _ _ _;refine rK ?_) | (with_reducible first | refine aF mQ ?_ | refine aG mQ ?_) | (with_reducible first | refine aF mR ?_ | refine aG mR ?_) | (with_reducible first | refine aF qb ?_ | refine aG qb ?_) | (with_reducible first | refine aF qc ?_ | refine aG qc ?_) | (with_reducible first | refine aF qd ?_ | refine aG qd ?_) | ((first | refine ai (fun hg=>?_) (fun hg=>?_) | refine aB (fun hg=>?_) (fun hg=>?_) | refine aC (fun hg=>?_) (fun hg=>?_)) <;> try simp -implicitDefEqProofs only [hg,Bool.not_true,Bool.not_false]) | ((with_reducible apply And.intro);focus (first | trivial | omega | decide | (simp -implicitDefEqProofs only [maxLen];omega) | (simp [maxLen,an,ak,au,az,aj,ay,ax] <;> omega))) | fail)
   all_goals first | (exfalso;simp_all [tw];done) | skip
   all_goals (refine (hK _ _ ?_).2;clear hK;simp -implicitDefEqProofs only [go_sem,Int.reduceNegSucc,bw,bD,bN,bQ,aY,aS,aR,Ao.cells,pJ] <;>(try simp_all [-Int.not_lt,-Int.not_le,aY,aS,aR,cj,Ao.cells,pJ]) <;> try omega)
end Go.aI

namespace Go.aI
open Go
theorem Mg:aV Go.Proofs.Try.prog 77 132 (fc Go.Proofs.Try.prog 77 132 [(.t 4)]) [(.t 4)]:=bq (by kernel_rfl)
theorem Mh:aV Go.Proofs.Try.prog 51 23 (fc Go.Proofs.Try.prog 51 23 [(.c 4 7 true),(.t 5)]) [(.c 4 7 true),(.t 5)]:=bq (by kernel_rfl)
structure Ch where
 top:Su
 bottom:Su
 inner:Su
 through:Bool
 high:Int
 deriving Inhabited,DecidableEq
def Ch.cells (c:Ch):List RV:=[.int .i64 c.top.p,.int .i64 c.top.n,.int .i64 c.bottom.p,.int .i64 c.bottom.n,.int .i64 c.inner.p,.int .i64 c.inner.n,.bool c.through,.int .i64 c.high]
structure Pl where
 mb:Int
 top:Su
 cur:Su
 nP:Bool
 deriving Inhabited,DecidableEq
def Pl.cells (p:Pl):List RV:=[.int .i64 p.mb,.int .i64 p.top.p,.int .i64 p.top.n,.int .i64 p.cur.p,.int .i64 p.cur.n,.bool p.nP]
def fD (l:List Ch):List (List RV):=l.map Ch.cells
theorem tf (l:List Ch):(fD l).length=l.length:=by simp [fD]
theorem Hi {l:List Ch} {i:Nat} (h:i<l.length):(fD l)[i]?.getD []=(l[i]'h).cells:=by simp [fD,h]
def oK (c:Ch):Su:=if c.through=true then c.inner else c.top
def oy (p:Pl) (c:Ch):Int:=if p.nP=true then 0 else dU [p.mb,oC (fF p.cur (oK c))]
def sq (p:Pl) (c:Ch):Pl:=
 if p.nP=true then (if c.through=true then { p with top:=fF p.top c.top } else ⟨c.high,fF p.top c.top,c.bottom,false⟩)
 else if c.through=true then { p with cur:=fF p.cur c.top } else { p with mb:=dU [oy p c,c.high],cur:=c.bottom }
def xw (p:Pl) (c:Ch):Bool:=
 if p.nP=true then bU (sq p c).mb
 else sJ (fF p.cur (oK c)) && dS [p.mb,oC (fF p.cur (oK c))] && (c.through || dS [oy p c,c.high])
def nH (m:Nat) (p:Pl) (ys:List Int):HB:=.var (.row m ys.length ys.length::p.cells.map .rv)
def kK (ys:List Int):HB:=.row 1 ys.length (aH (aJ ys))
theorem Qf (p:Pl) (c:Ch) (j m:Nat) (tM:j≠m) (ys:List Int) (hy:ys.length≤1000000):aK Go.Proofs.Try.prog 77 [.ptr j 0,.agg (c.cells.map .rv)] [(j,nH m p ys),(m,kK ys)]
 [(j,nH m (sq p c) (ys++[oy p c])),(m,kK (ys++[oy p c]))] (.rv (.bool (xw p c))):=by
 refine lp Mg [j,m] [nH 1 p ys,kK ys] [nH m p ys,kK ys] [.ptr 0 0,.agg (c.cells.map .rv)] [.ptr j 0,.agg (c.cells.map .rv)] _ _ (by simp) (by simp [aP,gp,bh,bu]) rfl (by simp [bM,tM]) (by simp [dn,nH,kK,lR,aP,bg,fZ,bu]) (fun K hK=>?_)
 have j1:=sF p.top c.top
 have j2:=sF p.cur (oK c)
 have j3:=sF p.cur c.top
 have v1:=AG (fF p.cur (oK c))
 have s1:=fun id=>sE id [p.mb,oC (fF p.cur (oK c))] (by simp)
 have s2:=fun id=>sE id [dU [p.mb,oC (fF p.cur (oK c))],c.high] (by simp)
 have f1:=gF p.mb
 have f2:=gF c.high
 have hl:=aj ys
 have nD:(aJ ys).take ys.length=aJ ys:=List.take_of_length_le (by omega)
 have wC:∀ y:Int,(ys++[y]).length=ys.length+1:=fun y=>by simp
 simp -implicitDefEqProofs only [nH,kK,Pl.cells,sq,oy,xw,wC] at hK
 simp -implicitDefEqProofs only [mz,Su.sv,Su.cells,List.map_cons,List.map_nil,List.length_cons,List.length_nil,Nat.reduceAdd] at j1 j2 j3 v1 s1 s2
 conv in fc _ _ _ _=>reduce
 simp -implicitDefEqProofs only [nH,kK,Pl.cells,Ch.cells,go_sem,Int.reduceNegSucc]
 cases ha:p.nP <;> cases ht:c.through <;> simp -implicitDefEqProofs only [ha,ht,oK,Bool.false_eq_true,if_true,if_false,Bool.false_or,Bool.true_or,Bool.and_true] at hK j1 j2 j3 v1 s1 s2 ⊢
 all_goals ((have br:=j1;have y_2:=j2;have bS:=j3;have bY:=v1;have cu:=s1;have cm:=s2;have cG:=f1;have cH:=f2;repeat' (first | (simp -implicitDefEqProofs only [go_sem,Int.reduceNegSucc,hl,nD,sA]) | (with_reducible refine aA ?_) | (with_reducible first | refine aF br ?_ | refine aG br ?_) | (with_reducible first | refine aF y_2 ?_ | refine aG y_2 ?_) | (with_reducible first | refine aF bS ?_ | refine aG bS ?_) | (with_reducible first | refine aF bY ?_ | refine aG bY ?_) | ((first | refine cC (cu _) ?_ ?_ ?_ | refine cZ (cu _) ?_ ?_ ?_ | fail);(focus (simp [aW,ag] <;> fail));(focus (simp [bk,aZ] <;> fail))) | ((first | refine cC (cm _) ?_ ?_ ?_ | refine cZ (cm _) ?_ ?_ ?_ | fail);(focus (simp [aW,ag] <;> fail));(focus (simp [bk,aZ] <;> fail))) | (with_reducible first | refine aF cG ?_ | refine aG cG ?_) | (with_reducible first | refine aF cH ?_ | refine aG cH ?_) | ((first | refine ai (fun hg=>?_) (fun hg=>?_) | refine aB (fun hg=>?_) (fun hg=>?_) | refine aC (fun hg=>?_) (fun hg=>?_)) <;> try simp -implicitDefEqProofs only [hg,Bool.not_true,Bool.not_false]) | ((with_reducible apply And.intro);focus (first | trivial | omega | decide | (simp -implicitDefEqProofs only [maxLen];omega) | (simp [maxLen,an,ak,au,az,aj,ay,ax] <;> omega))) | fail)))
 all_goals (refine (hK _ _ _ _ [] (dr _ _) ?_).2;clear hK j1 j2 j3 v1 s1 s2 f1 f2;simp [dG,bM,newL,dK,dx,bD,bw,lk,bN,cO,cW,cQ,dZ,dY,ag,dH,bQ,aS,dg,dI,ey,aY,ew,aR,dh,cR,tM,Ne.symm tM] <;> simp_all)
def qZ:List Ch→Pl→List Int→Option (Pl×List Int)
 | [],p,ys=>some (p,ys)
 | c::l,p,ys=>if xw p c=true then qZ l (sq p c) (ys++[oy p c]) else none
def lS (l:List Ch) (o:Bool):Option (Pl×List Int):=qZ l ⟨0,⟨0,0⟩,⟨0,0⟩,o⟩ []
def qU (m:Nat):Option (Pl×List Int)→U
 | some q=>.agg (.row m q.2.length q.2.length::q.1.cells.map .rv)
 | none=>.agg [.rv .bO,.rv (.int .i64 0),.rv (.int .i64 0),.rv (.int .i64 0),.rv (.int .i64 0),.rv (.int .i64 0),.rv (.bool false)]
def pO (m:Nat):Option (Pl×List Int)→List (Nat×HB)
 | some q=>[(m,kK q.2)]
 | none=>[]
theorem PK (l:List Ch) (o:Bool) (hb:l.length≤1000000) (m:Nat):aK Go.Proofs.Try.prog 51 [.rv (.sl 8 (fD l)),.rv (.bool o)] [] (pO m (lS l o)) (.aM [qU m (lS l o),.rv (.bool (lS l o).isSome)]):=by
 refine lp Mh [] [] [] [.rv (.sl 8 (fD l)),.rv (.bool o)] [.rv (.sl 8 (fD l)),.rv (.bool o)] _ _ (by simp) (by simp [aP,bg]) rfl (by simp [bM]) (by simp [dn]) (fun K hK=>?_)
 have hl:=tf l
 conv in fc _ _ _ _=>reduce
 simp -implicitDefEqProofs only [go_sem,Int.reduceNegSucc]
 repeat' (first | (simp -implicitDefEqProofs only [go_sem,Int.reduceNegSucc,hl]) | (with_reducible refine aA ?_) | ((first | refine ai (fun hg=>?_) (fun hg=>?_) | refine aB (fun hg=>?_) (fun hg=>?_) | refine aC (fun hg=>?_) (fun hg=>?_)) <;> try simp -implicitDefEqProofs only [hg,Bool.not_true,Bool.not_false]) | ((with_reducible apply And.intro);focus (first | trivial | omega | decide | (simp -implicitDefEqProofs only [maxLen];omega) | (simp [maxLen,an,ak,au,az,aj,ay,ax] <;> omega))) | fail)
 refine cK (ι:=Nat×Pl×List Int) (fun q=>[(13,.rv (.int .i64 q.1)),(12,.rv (.int .i64 l.length)),(11,.rv (.sl 8 (fD l))),(6,.ptr 1 0),(4,.ptr 0 0)]) (fun q=>[some (.var [.rv .bO,.rv (.int .i64 0),.rv (.int .i64 0),.rv (.int .i64 0),.rv (.int .i64 0),.rv (.int .i64 0),.rv (.bool false)]),some (nH 2 q.2.1 q.2.2),some (kK q.2.2)])
  (fun q=>q.1≤l.length∧q.2.2.length=q.1∧qZ (l.drop q.1) q.2.1 q.2.2=lS l o) (fun q=>l.length - q.1) (0,⟨0,⟨0,0⟩,⟨0,0⟩,o⟩,[]) ⟨Nat.zero_le _,rfl,rfl⟩ ((BL 1 1 0 rfl rfl).trans (bp (by simp [lk,aZ]))) (fun q hq K' hN hX hR=>?_)
 obtain ⟨k,p,ys⟩:=q
 obtain ⟨cz,hk2,dc⟩:=hq
 dsimp only at cz hk2 dc ⊢
 simp -implicitDefEqProofs only [go_sem,Int.reduceNegSucc]
 refine ai (fun hg=>?_) (fun hg=>?_)
 ·have av:k<l.length:=by simp at hg;omega
  have wu:=ct (k:=k) (by omega)
  have hx:=Hi av
  have hp:=Qf p l[k] 1 2 (by decide) ys (by omega)
  rw [List.drop_eq_getElem_cons av,qZ] at dc
  generalize l[k]=c at *
  have q1:(c.cells.map U.rv).take 8=c.cells.map U.rv:=rfl
  have q2:c.cells.take 8=c.cells:=rfl
  have q3:(c.cells.map U.rv).length=8:=rfl
  have q4:(c.cells.map U.rv).drop 8=[]:=rfl
  have q5:c.cells.length=8:=rfl
  cases hok:xw p c with
  | true=>
    rw [hok] at hp
    rw [if_pos hok] at dc
    have cY:=hp;repeat' (first | (simp -implicitDefEqProofs only [go_sem,Int.reduceNegSucc,hl,hx,q1,q2,q3,q4,q5,wu]) | (with_reducible refine aA ?_) | (refine cC cY ?_ ?_ ?_;(focus (simp [aW,ag] <;> fail));(focus (simp [bk,aZ] <;> fail))) | (refine cZ cY ?_ ?_ ?_;(focus (simp [aW,ag] <;> fail));(focus (simp [bk,aZ] <;> fail))) | ((first | refine ai (fun hg=>?_) (fun hg=>?_) | refine aB (fun hg=>?_) (fun hg=>?_) | refine aC (fun hg=>?_) (fun hg=>?_)) <;> try simp -implicitDefEqProofs only [hg,Bool.not_true,Bool.not_false]) | ((with_reducible apply And.intro);focus (first | trivial | omega | decide | (simp -implicitDefEqProofs only [maxLen];omega) | (simp [maxLen,an,ak,au,az,aj,ay,ax] <;> omega))) | fail)
    exact hN (k+1,sq p c,ys++[oy p c]) _ _ ⟨by dsimp only;omega,by simp [hk2],dc⟩ (by dsimp only;omega) (rG (h':=[some (.var [.rv .bO,.rv (.int .i64 0),.rv (.int .i64 0),.rv (.int .i64 0),.rv (.int .i64 0),.rv (.int .i64 0),.rv (.bool false)]),some (nH 2 (sq p c) (ys++[oy p c])),some (kK (ys++[oy p c]))]) (Nat.zero_le _) ⟨nR (rs:=[.bO,.int .i64 0,.int .i64 0,.int .i64 0,.int .i64 0,.int .i64 0,.bool false]),⟨lu.2 (by simp),nR⟩,eJ,trivial⟩ (by simp [fW,lk,ng,nc]))
  | false=>
    rw [hok] at hp
    rw [if_neg (by rw [hok];simp)] at dc
    have dm:=hp;repeat' (first | (simp -implicitDefEqProofs only [go_sem,Int.reduceNegSucc,hl,hx,q1,q2,q3,q4,q5,wu]) | (with_reducible refine aA ?_) | (refine cC dm ?_ ?_ ?_;(focus (simp [aW,ag] <;> fail));(focus (simp [bk,aZ] <;> fail))) | (refine cZ dm ?_ ?_ ?_;(focus (simp [aW,ag] <;> fail));(focus (simp [bk,aZ] <;> fail))) | ((first | refine ai (fun hg=>?_) (fun hg=>?_) | refine aB (fun hg=>?_) (fun hg=>?_) | refine aC (fun hg=>?_) (fun hg=>?_)) <;> try simp -implicitDefEqProofs only [hg,Bool.not_true,Bool.not_false]) | ((with_reducible apply And.intro);focus (first | trivial | omega | decide | (simp -implicitDefEqProofs only [maxLen];omega) | (simp [maxLen,an,ak,au,az,aj,ay,ax] <;> omega))) | fail)
    refine hR _ _ (hK _ _ _ _ [] (dr _ _) ?_).2
    rw [← dc]
    simp [dG,bM,newL,dK,dx,bD,bw,lk,bN,cO,cW,cQ,dZ,dY,ag,dH,bQ,aS,dg,dI,ey,aY,ew,aR,dh,cR,dQ,qU,pO,Pl.cells,aY,aR]
 ·have av:k=l.length:=by simp at hg;omega
  subst av
  simp -implicitDefEqProofs only [go_sem,Int.reduceNegSucc]
  refine hX _ _ _ ?_
  rw [List.drop_length,qZ] at dc
  simp -implicitDefEqProofs only [nH,kK,Pl.cells,go_sem,Int.reduceNegSucc]
  repeat' (first | (simp -implicitDefEqProofs only [go_sem,Int.reduceNegSucc]) | (with_reducible refine aA ?_) | ((first | refine ai (fun hg=>?_) (fun hg=>?_) | refine aB (fun hg=>?_) (fun hg=>?_) | refine aC (fun hg=>?_) (fun hg=>?_)) <;> try simp -implicitDefEqProofs only [hg,Bool.not_true,Bool.not_false]) | ((with_reducible apply And.intro);focus (first | trivial | omega | decide | (simp -implicitDefEqProofs only [maxLen];omega) | (simp [maxLen,an,ak,au,az,aj,ay,ax] <;> omega))) | fail)
  refine (hK _ _ _ _ [none,none,some m] (dr _ _) ?_).2
  rw [← dc]
  simp [dG,bM,newL,dK,dx,bD,bw,lk,bN,cO,cW,cQ,dZ,dY,ag,dH,bQ,aS,dg,dI,ey,aY,ew,aR,dh,cR,dQ,qU,pO,Pl.cells,kK,aY,aR]
theorem BW {cs:List U} (h:∀ y∈cs,dJ y):dJ (.agg cs):=.agg _ fun j y hy=>h y (List.mem_of_getElem? hy)
theorem HN {cs:List U} (h:∀ y∈cs,dJ y):dJ (.aM cs):=.aM _ fun j y hy=>h y (List.mem_of_getElem? hy)
theorem OA (p:Pl):∀ r∈p.cells,eE r:=by
 intro r hr
 simp -implicitDefEqProofs only [Pl.cells,List.mem_cons,List.not_mem_nil,or_false] at hr
 rcases hr with rfl | rfl | rfl | rfl | rfl | rfl <;> first | exact .int _ _ | exact .bool _
theorem Rc (ys:List Int):mT (kK ys):=.row _ _ _ fun i x j y hx hy=>by
 simp -implicitDefEqProofs only [aH,List.getElem?_map,Option.map_eq_some_iff,aJ] at hx
 obtain ⟨a,⟨b,_,rfl⟩,rfl⟩:=hx
 cases j with
 | zero=>simp at hy;subst hy;exact .rv _ (.int _ _)
 | succ j=>simp at hy
theorem Oz (m:Nat) (o:Option (Pl×List Int)):dJ (qU m o):=by
 cases o with
 | none=>
   refine BW fun y hy=>?_
   simp -implicitDefEqProofs only [List.mem_cons,List.not_mem_nil,or_false] at hy
   rcases hy with rfl | rfl | rfl | rfl | rfl | rfl | rfl <;> exact .rv _ (by constructor)
 | some q=>
   refine BW fun y hy=>?_
   rcases List.mem_cons.1 hy with rfl | hy
   ·exact .row _ _ _
   ·obtain ⟨r,hr,rfl⟩:=List.mem_map.1 hy
    exact .rv _ (OA _ r hr)
theorem PL (l:List Ch) (o:Bool) (hb:l.length≤1000000) (j v m:Nat) (tM:j≠m):aK Go.Proofs.Try.prog 51 [.row j v l.length,.rv (.bool o)] [(j,.row 8 v (aH (fD l)))] (pO m (lS l o)) (.aM [qU m (lS l o),.rv (.bool (lS l o).isSome)]):=by
 refine Bj (eG:=[.rv (.sl 8 (fD l)),.rv (.bool o)]) (PK l o hb m) rfl (fun hp hpre k y r hy hr=>?_) (HN fun y hy=>?_) (fun q hq=>?_)
 ·match k with
  | 0=>
    cases hy;cases hr
    have:=qq (h:=hp) (τ:=fun _=>none) (j:=j) (e:=8) (af:=v) (len:=l.length) (xs:=fD l) (hpre _ (.head _)) rfl (by rw [tf];omega) (fun x hx r hr=>by
     obtain ⟨c,_,rfl⟩:=List.mem_map.1 hx
     simp -implicitDefEqProofs only [Ch.cells,List.mem_cons,List.not_mem_nil,or_false] at hr
     rcases hr with rfl | rfl | rfl | rfl | rfl | rfl | rfl | rfl <;> rfl)
    rw [List.take_of_length_le (by rw [tf];omega)] at this
    exact .fz _ _ this
  | 1=>cases hy;cases hr;exact aS.2 rfl
  | k+2=>simp at hy
 ·simp -implicitDefEqProofs only [List.mem_cons,List.not_mem_nil,or_false] at hy
  rcases hy with rfl | rfl
  ·exact Oz _ _
  ·exact .rv _ (.bool _)
 ·revert hq
  cases lS l o with
  | none=>simp [pO]
  | some z=>
    simp -implicitDefEqProofs only [pO,List.mem_singleton]
    rintro rfl
    refine ⟨Rc _,fun p hp=>?_⟩
    subst hp
    exact tM
end Go.aI

namespace Go.aI
open Go
theorem LU:aV Go.Proofs.Try.prog 87 28 (fc Go.Proofs.Try.prog 87 28 [(.t 6)]) [(.t 6)]:=bq (by kernel_rfl)
theorem LS:aV Go.Proofs.Try.prog 69 59 (fc Go.Proofs.Try.prog 69 59 [(.c 8 8 true)]) [(.c 8 8 true)]:=bq (by kernel_rfl)
abbrev Ed.sv (e:Ed):U:=.agg (e.cells.map .rv)
def nO (e:Ed):List Int:=[e.bA.d,e.pad.d.n,e.pad.b.n,e.bA.b]
def ke (e:Ed):List Int:=[e.bA.a,e.pad.a.n,e.pad.c.n,e.bA.c]
theorem PO (e:Ed):aK Go.Proofs.Try.prog 42 [e.sv,.rv (.int .i64 3),.rv (.int .i64 1)] [] [] (.aM [.rv (.int .i64 (dU (nO e))),.rv (.bool (dS (nO e)))]):=by
 refine bG Dk [e.sv,.rv (.int .i64 3),.rv (.int .i64 1)] _ (by simp) (by simp [aP,bh,bu,bg,bn,aq.sv,Ln.sv,Nd.sv]) (fun K hK=>?_)
 have h:=fun id=>sE id (nO e) (by simp [nO])
 simp -implicitDefEqProofs only [mz,nO,List.map_cons,List.map_nil,List.length_cons,List.length_nil,Nat.reduceAdd] at h hK
 conv in fc _ _ _ _=>reduce
 simp -implicitDefEqProofs only [Ed.sv,Ed.cells,Q4.fJ,Q4.ints,go_sem,Int.reduceNegSucc]
 have br:=h;repeat' (first | (simp -implicitDefEqProofs only [go_sem,Int.reduceNegSucc]) | (with_reducible refine aA ?_) | ((first | refine cC (br _) ?_ ?_ ?_ | refine cZ (br _) ?_ ?_ ?_ | fail);(focus (simp [aW,ag] <;> fail));(focus (simp [bk,aZ] <;> fail))) | ((first | refine ai (fun hg=>?_) (fun hg=>?_) | refine aB (fun hg=>?_) (fun hg=>?_) | refine aC (fun hg=>?_) (fun hg=>?_)) <;> try simp -implicitDefEqProofs only [hg,Bool.not_true,Bool.not_false]) | ((with_reducible apply And.intro);focus (first | trivial | omega | decide | (simp -implicitDefEqProofs only [maxLen];omega) | (simp [maxLen,an,ak,au,az,aj,ay,ax] <;> omega))) | fail)
 exact (hK _ _ (kC rfl rfl)).2
theorem PN (e:Ed):aK Go.Proofs.Try.prog 42 [e.sv,.rv (.int .i64 0),.rv (.int .i64 2)] [] [] (.aM [.rv (.int .i64 (dU (ke e))),.rv (.bool (dS (ke e)))]):=by
 refine bG Dk [e.sv,.rv (.int .i64 0),.rv (.int .i64 2)] _ (by simp) (by simp [aP,bh,bu,bg,bn,aq.sv,Ln.sv,Nd.sv]) (fun K hK=>?_)
 have h:=fun id=>sE id (ke e) (by simp [ke])
 simp -implicitDefEqProofs only [mz,ke,List.map_cons,List.map_nil,List.length_cons,List.length_nil,Nat.reduceAdd] at h hK
 conv in fc _ _ _ _=>reduce
 simp -implicitDefEqProofs only [Ed.sv,Ed.cells,Q4.fJ,Q4.ints,go_sem,Int.reduceNegSucc]
 have y_2:=h;repeat' (first | (simp -implicitDefEqProofs only [go_sem,Int.reduceNegSucc]) | (with_reducible refine aA ?_) | ((first | refine cC (y_2 _) ?_ ?_ ?_ | refine cZ (y_2 _) ?_ ?_ ?_ | fail);(focus (simp [aW,ag] <;> fail));(focus (simp [bk,aZ] <;> fail))) | ((first | refine ai (fun hg=>?_) (fun hg=>?_) | refine aB (fun hg=>?_) (fun hg=>?_) | refine aC (fun hg=>?_) (fun hg=>?_)) <;> try simp -implicitDefEqProofs only [hg,Bool.not_true,Bool.not_false]) | ((with_reducible apply And.intro);focus (first | trivial | omega | decide | (simp -implicitDefEqProofs only [maxLen];omega) | (simp [maxLen,an,ak,au,az,aj,ay,ax] <;> omega))) | fail)
 exact (hK _ _ (kC rfl rfl)).2
def xL (e:Ed) (kids:Nat) (p:Pl):Bool:=e.flat && if kids=0 then e.high.auto || (e.high.n == 0) else e.high.auto && p.nP
def pN (y:RV) (p:Pl):List RV:=y::p.cells
theorem Qr (e:Ed) (kids:Nat) (y:RV) (p:Pl):aK Go.Proofs.Try.prog 87 [e.sv,.rv (.int .i64 kids),.agg ((pN y p).map .rv)] [] [] (.rv (.bool (xL e kids p))):=by
 refine bG LU [e.sv,.rv (.int .i64 kids),.agg ((pN y p).map .rv)] _ (by simp) (by simp [aP,bh,bu,bg,bn,aq.sv,Ln.sv,Nd.sv]) (fun K hK=>?_)
 have hk:((kids:Int) == 0)=decide (kids=0):=by rw [Bool.eq_iff_iff];simp
 simp -implicitDefEqProofs only [xL] at hK
 conv in fc _ _ _ _=>reduce
 simp -implicitDefEqProofs only [Ed.sv,Ed.cells,pN,Pl.cells,Q4.fJ,Q4.ints,go_sem,Int.reduceNegSucc]
 by_cases h0:kids=0 <;> simp -implicitDefEqProofs only [h0,decide_true,decide_false] at hk
 all_goals ((repeat' (first | (simp -implicitDefEqProofs only [go_sem,Int.reduceNegSucc,hk]) | (with_reducible refine aA ?_) | ((first | refine ai (fun hg=>?_) (fun hg=>?_) | refine aB (fun hg=>?_) (fun hg=>?_) | refine aC (fun hg=>?_) (fun hg=>?_)) <;> try simp -implicitDefEqProofs only [hg,Bool.not_true,Bool.not_false]) | ((with_reducible apply And.intro);focus (first | trivial | omega | decide | (simp -implicitDefEqProofs only [maxLen];omega) | (simp [maxLen,an,ak,au,az,aj,ay,ax] <;> omega))) | fail)))
 all_goals (refine (hK _ _ (bP ?_)).2;clear hK;simp_all [lk])
def vB (e:Ed) (kids:Nat) (p:Pl) (high:Int):Ch:=
 let b:Su:=⟨max (bl e.bB.c 0) 0,min (bl e.bB.c 0) 0⟩
 let i:=fF ⟨max (bl e.bB.a 0) 0,min (bl e.bB.a 0) 0⟩ p.top
 if xL e kids p=true then ⟨fF i b,fF i b,i,true,high⟩
 else ⟨i,if e.pI=true∧0<kids then fF b p.cur else b,i,false,high⟩
theorem PT (e:Ed) (kids:Nat) (y:RV) (p:Pl) (high:Int):aK Go.Proofs.Try.prog 69 [e.sv,.rv (.int .i64 kids),.agg ((pN y p).map .rv),.rv (.int .i64 high)] [] [] (.agg ((vB e kids p high).cells.map .rv)):=by
 refine bG LS [e.sv,.rv (.int .i64 kids),.agg ((pN y p).map .rv),.rv (.int .i64 high)] _ (by simp) (by simp [aP,bh,bu,bg,bn,aq.sv,Ln.sv,Nd.sv]) (fun K hK=>?_)
 have o1:=kV e.bB.a 0
 have o2:=kV e.bB.c 0
 have s1:=Fv (bl e.bB.a 0)
 have s2:=Fv (bl e.bB.c 0)
 have ht:=Qr e kids y p
 simp -implicitDefEqProofs only [vB] at hK
 generalize (⟨max (bl e.bB.a 0) 0,min (bl e.bB.a 0) 0⟩:Su)=A at *
 generalize (⟨max (bl e.bB.c 0) 0,min (bl e.bB.c 0) 0⟩:Su)=B at *
 have j1:=sF A p.top
 have j2:=sF (fF A p.top) B
 have j3:=sF B p.cur
 have hk:decide ((kids:Int)>0)=decide (0<kids):=by simp
 generalize xL e kids p=T at *
 generalize fF A p.top=I at *
 simp -implicitDefEqProofs only [Ed.sv,Ed.cells,pN,Pl.cells,Q4.fJ,Q4.ints,Su.sv,Su.cells,Sz.sv,Sz.cells,List.map_cons,List.map_nil,List.cons_append,List.nil_append] at o1 o2 s1 s2 ht j1 j2 j3
 conv in fc _ _ _ _=>reduce
 simp -implicitDefEqProofs only [Ed.sv,Ed.cells,pN,Pl.cells,Q4.fJ,Q4.ints,go_sem,Int.reduceNegSucc]
 cases T <;> simp -implicitDefEqProofs only [Bool.false_eq_true,if_true,if_false] at hK ⊢
 all_goals ((have bS:=o1;have bY:=o2;have cu:=s1;have cm:=s2;have cG:=ht;have cH:=j1;have cY:=j2;have dm:=j3;repeat' (first | (simp -implicitDefEqProofs only [go_sem,Int.reduceNegSucc,hk]) | (with_reducible refine aA ?_) | (with_reducible first | refine aF bS ?_ | refine aG bS ?_) | (with_reducible first | refine aF bY ?_ | refine aG bY ?_) | (with_reducible first | refine aF cu ?_ | refine aG cu ?_) | (with_reducible first | refine aF cm ?_ | refine aG cm ?_) | (with_reducible first | refine aF cG ?_ | refine aG cG ?_) | (with_reducible first | refine aF cH ?_ | refine aG cH ?_) | (with_reducible first | refine aF cY ?_ | refine aG cY ?_) | (with_reducible first | refine aF dm ?_ | refine aG dm ?_) | ((first | refine ai (fun hg=>?_) (fun hg=>?_) | refine aB (fun hg=>?_) (fun hg=>?_) | refine aC (fun hg=>?_) (fun hg=>?_)) <;> try simp -implicitDefEqProofs only [hg,Bool.not_true,Bool.not_false]) | ((with_reducible apply And.intro);focus (first | trivial | omega | decide | (simp -implicitDefEqProofs only [maxLen];omega) | (simp [maxLen,an,ak,au,az,aj,ay,ax] <;> omega))) | fail)))
 all_goals (refine (hK _ _ ?_).2;clear hK;simp -implicitDefEqProofs only [go_sem,Int.reduceNegSucc,bw,bD,bN,bQ,aY,aS,aR,Ch.cells] <;>(try simp_all [-Int.not_lt,-Int.not_le,aY,aS,aR,cj,Ch.cells]) <;> try omega)
end Go.aI

namespace Go.aI
open Go
theorem LV:aV Go.Proofs.Try.prog 47 130 (fc Go.Proofs.Try.prog 47 130 [(.c 8 25 true),(.c 9 9 true),(.t 10)]) [(.c 8 25 true),(.c 9 9 true),(.t 10)]:=bq (by kernel_rfl)
theorem LQ:aV Go.Proofs.Try.prog 26 116 (fc Go.Proofs.Try.prog 26 116 [(.c 10 25 true),(.c 11 9 true),(.t 12)]) [(.c 10 25 true),(.c 11 9 true),(.t 12)]:=bq (by kernel_rfl)
structure Fm where
 x:Int
 y:Int
 w:Int
 h:Int
 bB:Q4 Int
 pad:Q4 Int
 bA:Q4 Int
 known:Bool
 child:Ch
 deriving DecidableEq,Inhabited
def Fm.cells (f:Fm):List RV:=[.int .i64 f.x,.int .i64 f.y,.int .i64 f.w,.int .i64 f.h]++f.bB.ints++f.pad.ints++f.bA.ints++(.bool f.known::f.child.cells)
structure La where
 L:List (Nat×Fm)
 p:Pl
 ys:List Int
 high:Int
 deriving DecidableEq,Inhabited
def kT (q:Nat×Fm):List RV:=.int .i64 q.1::q.2.cells
def di (L:List (Nat×Fm)):List (List RV):=L.map kT
def cM:Option La→List RV
 | some t=>.sl 26 (di t.L) :: .sl 1 (aJ t.ys)::(t.p.cells++[.int .i64 t.high])
 | none=>[.bO,.bO,.int .i64 0,.int .i64 0,.int .i64 0,.int .i64 0,.int .i64 0,.bool false,.int .i64 0]
def fj:Option Fm→List RV
 | some f=>f.cells
 | none=>[.int .i64 0,.int .i64 0,.int .i64 0,.int .i64 0,.int .i64 0,.int .i64 0,.int .i64 0,.int .i64 0,.int .i64 0,.int .i64 0,.int .i64 0,.int .i64 0,.int .i64 0,.int .i64 0,.int .i64 0,.int .i64 0,.bool false,.int .i64 0,.int .i64 0,.int .i64 0,.int .i64 0,.int .i64 0,.int .i64 0,.bool false,.int .i64 0]
abbrev lg (r:Option (Fm×La)):U:=.aM [.agg ((fj (r.map (·.1))).map .rv),.agg ((cM (r.map (·.2))).map .rv),.rv (.bool r.isSome)]
def oX (e:Ed):Sz:=if e.high.auto=true then e.high else ⟨false,vD e.high.n e.least e.most⟩
def nv (e:Ed) (t:La):Int:=if e.high.auto=true then vD t.high e.least e.most else vD e.high.n e.least e.most
def vX (e:Ed) (x:Ao) (kids:Nat) (t:La):Fm:=
 ⟨x.l,0,x.w,nv e t,⟨bl e.bB.a 0,x.r,bl e.bB.c 0,x.l⟩,⟨e.pad.a.n,e.pad.b.n,e.pad.c.n,e.pad.d.n⟩,e.bA,!e.high.auto,vB e kids t.p (dU [dU (ke e),nv e t])⟩
def nX (e:Ed) (x:Ao) (kids:Nat) (r:Option La×Bool):Option (Fm×La):=if r.2=true then r.1.bind fun t=>if dS (ke e)=true∧dS [dU (ke e),nv e t]=true then some (vX e x kids t,t) else none else none
theorem PV (l:List Nd) (hb:l.length≤8589934592) (n:Int) (e:Ed) (x:Ao) (r:Option La×Bool) (hr:r.2=true→r.1.isSome=true)
 (hI:aK Go.Proofs.Try.prog 28 [.rv (cc l),.rv (.int .i64 n),.rv (.int .i64 x.w),(oX e).sv,e.sv,.rv (.int .i64 (-1))] [] [] (.aM [.agg ((cM r.1).map .rv),.rv (.bool r.2)])) :
 aK Go.Proofs.Try.prog 47 [.rv (cc l),.rv (.int .i64 n),e.sv,.agg (x.cells.map .rv)] [] [] (lg (nX e x (cB l n).length r)):=by
 refine bG LV [.rv (cc l),.rv (.int .i64 n),e.sv,.agg (x.cells.map .rv)] _ (by simp) (by simp [aP,bh,bu,bg,bn,aq.sv,Ln.sv,Nd.sv]) (fun K hK=>?_)
 obtain ⟨o,ok⟩:=r
 have hc:=Fi e.high.n e.least e.most
 have hf:=Ff l n hb
 have hfl:=wZ (cB l n)
 have o1:=kV e.bB.a 0
 have o2:=kV e.bB.c 0
 have ha:=PN e
 cases ok with
 | false=>
   have e1:nX e x (cB l n).length (o,false)=none:=rfl
   rw [e1] at hK
   obtain ⟨u,hu,lF⟩:∃ u,cM o=u∧u.length=9:=⟨_,rfl,by cases o <;> rfl⟩
   rw [hu] at hI
   have q1:(u.map U.rv).length=9:=by simp [lF]
   have q2:(u.map U.rv).drop 9=[]:=List.drop_of_length_le (by omega)
   have q3:(u.map U.rv).take 9=u.map U.rv:=List.take_of_length_le (by omega)
   simp -implicitDefEqProofs only [oX] at hI
   simp -implicitDefEqProofs only [Ed.sv,Ed.cells,Q4.fJ,Q4.ints,Sz.sv,Sz.cells,List.map_cons,List.map_nil,List.cons_append,List.nil_append] at hI
   conv in fc _ _ _ _=>reduce
   simp -implicitDefEqProofs only [Ed.sv,Ed.cells,Q4.fJ,Q4.ints,Ao.cells,go_sem,Int.reduceNegSucc]
   cases hh:e.high.auto <;> simp -implicitDefEqProofs only [hh,Bool.false_eq_true,if_true,if_false] at hI ⊢
   all_goals ((have br:=hc;have y_2:=hI;repeat' (first | (simp -implicitDefEqProofs only [go_sem,Int.reduceNegSucc,lF,q2,q3,List.length_map,List.append_nil]) | (with_reducible refine aA ?_) | (with_reducible first | refine aF br ?_ | refine aG br ?_) | (with_reducible first | refine aF y_2 ?_ | refine aG y_2 ?_) | ((first | refine ai (fun hg=>?_) (fun hg=>?_) | refine aB (fun hg=>?_) (fun hg=>?_) | refine aC (fun hg=>?_) (fun hg=>?_)) <;> try simp -implicitDefEqProofs only [hg,Bool.not_true,Bool.not_false]) | ((with_reducible apply And.intro);focus (first | trivial | omega | decide | (simp -implicitDefEqProofs only [maxLen];omega) | (simp [maxLen,an,ak,au,az,aj,ay,ax] <;> omega))) | fail)))
   all_goals (refine (hK _ _ ?_).2;simp -implicitDefEqProofs only [go_sem,Int.reduceNegSucc,bw,bD,bN,bQ,aY,aS,aR,fj,cM,Option.map,Option.isSome])
 | true=>
   obtain ⟨t,rfl⟩:=Option.isSome_iff_exists.1 (hr rfl)
   have e1:nX e x (cB l n).length (some t,true)=if dS (ke e)=true∧dS [dU (ke e),nv e t]=true then some (vX e x (cB l n).length t,t) else none:=rfl
   rw [e1] at hK
   have s1:=fun id=>sE id [dU (ke e),nv e t] (by simp)
   have oa:=Fi t.high e.least e.most
   have wo:=PT e (cB l n).length (.sl 1 (aJ t.ys)) t.p (dU [dU (ke e),nv e t])
   simp -implicitDefEqProofs only [vX] at hK
   generalize vB e (cB l n).length t.p (dU [dU (ke e),nv e t])=C at *
   generalize bl e.bB.a 0=O1 at *
   generalize bl e.bB.c 0=O2 at *
   generalize ke e=A at *
   simp -implicitDefEqProofs only [oX,nv] at hI s1 wo hK
   simp -implicitDefEqProofs only [mz,cM,pN,Pl.cells,Ed.sv,Ed.cells,Q4.fJ,Q4.ints,Sz.sv,Sz.cells,Ch.cells,List.map_cons,List.map_nil,List.cons_append,List.nil_append,List.length_cons,List.length_nil,Nat.reduceAdd] at hI wo ha o1 o2 s1
   conv in fc _ _ _ _=>reduce
   simp -implicitDefEqProofs only [Ed.sv,Ed.cells,Q4.fJ,Q4.ints,Ao.cells,go_sem,Int.reduceNegSucc]
   cases hh:e.high.auto <;> simp -implicitDefEqProofs only [hh,Bool.false_eq_true,if_true,if_false] at hI ha s1 wo hK ⊢
   all_goals ((have bS:=hc;have bY:=oa;have cu:=hI;have cm:=ha;have cG:=s1;have cH:=o1;have cY:=o2;repeat' (first | (simp -implicitDefEqProofs only [go_sem,Int.reduceNegSucc]) | (with_reducible refine aA ?_) | (with_reducible first | refine aF bS ?_ | refine aG bS ?_) | (with_reducible first | refine aF bY ?_ | refine aG bY ?_) | (with_reducible first | refine aF cu ?_ | refine aG cu ?_) | (with_reducible first | refine aF cm ?_ | refine aG cm ?_) | ((first | refine cC (cG _) ?_ ?_ ?_ | refine cZ (cG _) ?_ ?_ ?_ | fail);(focus (simp [aW,ag] <;> fail));(focus (simp [bk,aZ] <;> fail))) | (with_reducible first | refine aF cH ?_ | refine aG cH ?_) | (with_reducible first | refine aF cY ?_ | refine aG cY ?_) | ((first | refine ai (fun hg=>?_) (fun hg=>?_) | refine aB (fun hg=>?_) (fun hg=>?_) | refine aC (fun hg=>?_) (fun hg=>?_)) <;> try simp -implicitDefEqProofs only [hg,Bool.not_true,Bool.not_false]) | ((with_reducible apply And.intro);focus (first | trivial | omega | decide | (simp -implicitDefEqProofs only [maxLen];omega) | (simp [maxLen,an,ak,au,az,aj,ay,ax] <;> omega))) | fail)))
   all_goals first | (refine rL 5 ?_;(have dm:=hf;have eZ:=wo;repeat' (first | (simp -implicitDefEqProofs only [go_sem,Int.reduceNegSucc,sK,sL,sM,sN,sO,sP,rz,Int.reduceLT,decide_true,decide_false,Int.reduceToNat,Nat.reduceMul,hfl]) | (with_reducible refine aA ?_) | (with_reducible show G _ _ (It.l _ _::_) _ _ _;refine rK ?_) | (with_reducible first | refine aF dm ?_ | refine aG dm ?_) | (with_reducible first | refine aF eZ ?_ | refine aG eZ ?_) | ((first | refine ai (fun hg=>?_) (fun hg=>?_) | refine aB (fun hg=>?_) (fun hg=>?_) | refine aC (fun hg=>?_) (fun hg=>?_)) <;> try simp -implicitDefEqProofs only [hg,Bool.not_true,Bool.not_false]) | ((with_reducible apply And.intro);focus (first | trivial | omega | decide | (simp -implicitDefEqProofs only [maxLen];omega) | (simp [maxLen,an,ak,au,az,aj,ay,ax] <;> omega))) | fail))) | skip
   all_goals (refine (hK _ _ ?_).2;clear hK;simp -implicitDefEqProofs only [go_sem,Int.reduceNegSucc,bw,bD,bN,bQ,aY,aS,aR,fj,cM,Fm.cells,Q4.ints,Ch.cells,Pl.cells,Option.map,Option.isSome] <;>(try simp_all [-Int.not_lt,-Int.not_le,aY,aS,aR,cj,fj,cM,Fm.cells,Q4.ints,Ch.cells,Pl.cells,Option.map,Option.isSome]) <;> try omega)
end Go.aI
