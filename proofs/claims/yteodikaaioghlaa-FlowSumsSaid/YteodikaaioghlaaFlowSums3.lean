/- Part 3 of the proof: K3, K4, K5, K6, K7, K8, K9, K10, K11, K12, U1, P1, F1, FK, F2, F3, EngZe, EngZf, F4, F5, F6, F7, F8. -/
import Derived.Test.YteodikaaioghlaaFlowSums2
set_option linter.unusedSimpArgs false
set_option linter.unusedVariables false
set_option maxRecDepth 100000
set_option maxHeartbeats 16000000
namespace Go.aH
open Go
theorem KH:aV Go.Proofs.Try.prog 57 94 (fc Go.Proofs.Try.prog 57 94 [(.t 2)]) [(.t 2)]:=bn (by kernel_rfl)
theorem KI:aV Go.Proofs.Try.prog 38 63 (fc Go.Proofs.Try.prog 38 63 [(.t 2)]) [(.t 2)]:=bn (by kernel_rfl)
theorem Cf (s:ai) {k:Nat} (h:k<18):∃ o,kN[k]?=some o∧((s.cells.map U.rv).drop o).take 2=((cm s)[k]'h).cells.map U.rv∧o+2≤48:=by
 have:k=0∨k=1∨k=2∨k=3∨k=4∨k=5∨k=6∨k=7∨k=8∨k=9∨k=10∨k=11∨k=12∨k=13∨k=14∨k=15∨k=16∨k=17:=by omega
 rcases this with rfl | rfl | rfl | rfl | rfl | rfl | rfl | rfl | rfl | rfl | rfl | rfl | rfl | rfl | rfl | rfl | rfl | rfl <;> exact ⟨_,rfl,rfl,by decide⟩
theorem Lg (s:ai) {k o:Nat} (h:k<18) (ho:kN[k]?=some o):(s.cells.map U.rv)[o]?=some (.rv (.int .i64 ((cm s)[k]'h).kind))∧(s.cells.map U.rv)[o+1]?=some (.rv (.int .i64 ((cm s)[k]'h).n)):=by
 have:k=0∨k=1∨k=2∨k=3∨k=4∨k=5∨k=6∨k=7∨k=8∨k=9∨k=10∨k=11∨k=12∨k=13∨k=14∨k=15∨k=16∨k=17:=by omega
 rcases this with rfl | rfl | rfl | rfl | rfl | rfl | rfl | rfl | rfl | rfl | rfl | rfl | rfl | rfl | rfl | rfl | rfl | rfl <;>(cases ho;exact ⟨rfl,rfl⟩)
theorem CS {k:Nat} {i o:Nat} (h:kN[k]?=some o):(cU i kN)[k]?.getD []=[.ptr i o]:=by
 simp [cU,List.getElem?_map,h]
def oL (s:ai):List Ln:=[s.width,s.height,s.eV,s.eU,s.fl,s.fk]
def oC (s:ai) (k:Nat):Bool:=(List.range k).all fun j=>gf (kS s.pad j) (kS s.aX j)
theorem Ml (s:ai) (k:Nat):oC s (k+1)=(oC s k && gf (kS s.pad k) (kS s.aX k)):=by simp [oC,List.range_succ]
theorem Mk (s:ai):oC s 4=(gf s.pad.a s.aX.a && gf s.pad.b s.aX.b && gf s.pad.c s.aX.c && gf s.pad.d s.aX.d):=by
 simp [oC,List.range_succ,kS,Bool.and_assoc]
theorem DF (s:ai):aJ Go.Proofs.Try.prog 57 [s.sv] [] [] (.rv (.bool (eL s))):=by
 refine bJ KH [s.sv] _ (by simp) (by simp [aN,bl,bz,bf,bq,ai.sv,Ln.sv,Nd.sv]) (fun K hK=>?_)
 have bad:∀ e h,lk e 2 = .rv (.bool false)→eL s=false→K .ret ⟨e,h⟩:=fun e h l2 hf=>(hK _ _ (bX (by rw [l2,hf]))).2
 conv in fc _ _ _ _=>reduce
 simp -implicitDefEqProofs only [ai.sv,go_sem,Int.reduceNegSucc]
 refine cD (Dz 0 1 s (by decide)) (by simp [aW,ag]) (by simp [bp,bk]) ?_
 simp -implicitDefEqProofs only [go_sem,Int.reduceNegSucc]
 refine cN (ι:=Nat) (fun k=>[(10,.rv (.int .i64 k)),(9,.rv (.int .i64 18)),(8,.row 1 13 18),(1,.ptr 0 0)]) (fun k=>[some (.var (s.cells.map .rv)),some (.row 1 13 (cU 0 kN))]) (fun k=>k≤18∧((cm s).drop k).all lW=(cm s).all lW) (fun k=>18 - k) 0 (by simp) (bA (by simp [lk])) (fun k hk K' hN hX hR=>?_)
 obtain ⟨ct,hk2⟩:=hk
 simp -implicitDefEqProofs only [go_sem,Int.reduceNegSucc]
 refine aj (fun hg=>?_) (fun hg=>?_)
 ·have ay:k<18:=by simp at hg;omega
  obtain ⟨o,ho,sJ,Io⟩:=Cf s ay
  have dr:=CS (i:=0) ho
  have pS:(cU 0 kN).length=18:=rfl
  have br:=Ov ((cm s)[k]'ay);repeat' (first | (simp -implicitDefEqProofs only [go_sem,Int.reduceNegSucc,dr,pS,sJ]) | (with_reducible refine aB ?_) | (with_reducible first | refine aF br ?_ | refine aG br ?_) | ((first | refine aj (fun hg=>?_) (fun hg=>?_) | refine aC (fun hg=>?_) (fun hg=>?_) | refine aD (fun hg=>?_) (fun hg=>?_)) <;> try simp -implicitDefEqProofs only [hg,Bool.not_true,Bool.not_false]) | ((with_reducible apply And.intro);focus (first | trivial | omega | decide | (simp -implicitDefEqProofs only [maxLen];omega) | (simp [maxLen,an,aq,au,aA,ak,ax,av] <;> omega))) | fail)
  ·refine hR _ _ (bad _ _ rfl ?_)
   simp -implicitDefEqProofs only [eL,mX ay hk2 (by simpa using hg),Bool.false_and]
  ·rw [cr (by omega)]
   exact hN (k+1) _ _ ⟨by omega,mY ay hk2 (by simpa using hg)⟩ (by omega) (bA (by simp [lk]))
 ·have ay:k=18:=by simp at hg;omega
  subst ay
  have hall:=mW (by rw [av];omega) hk2
  simp -implicitDefEqProofs only [go_sem,Int.reduceNegSucc]
  refine hX _ _ _ ?_
  repeat' (first | (simp -implicitDefEqProofs only [go_sem,Int.reduceNegSucc,gl,iJ,gn,iK,gE,iV,gP,jg,hD,jt,iq,jC,ir,jD,iu,jE,iw,jF,iy,jG,gp,iL,gq,iM,gu,iN,gw,iO,gx,iP,gz,iQ,gA,iR,gB,iS,gC,iT,gD,iU,gF,iW,gG,iX,gH,iY,gI,iZ,gJ,ja,gK,jb,gL,jc,gM,jd,gN,je,gO,jf,gQ,jh,gR,ji,gS,jk,gT,jl,gU,jm,gV,jn,gW,jo,gX,jq,gY,jr,gZ,js,hJ,ju,hU,jv,fT,jw,ia,jx,ic,jy,ie,jz,ig,jA,ij,jB,iE,iz,iA,iB,iC,iD,iF,iG,iH,iI,gk,fS,an,Ln.cells]) | (with_reducible refine aB ?_) | ((first | refine aj (fun hg=>?_) (fun hg=>?_) | refine aC (fun hg=>?_) (fun hg=>?_) | refine aD (fun hg=>?_) (fun hg=>?_)) <;> try simp -implicitDefEqProofs only [hg,Bool.not_true,Bool.not_false]) | ((with_reducible apply And.intro);focus (first | trivial | omega | decide | (simp -implicitDefEqProofs only [maxLen];omega) | (simp [maxLen,an,aq,au,aA,ak,ax,av] <;> omega))) | fail)
  refine cN (ι:=Nat) (fun k=>[(34,.rv (.int .i64 k)),(33,.rv (.int .i64 6)),(32,.row 2 0 6),(1,.ptr 0 0)]) (fun k=>[some (.var (s.cells.map .rv)),some (.row 1 13 (cU 0 kN)),some (.row 2 0 (aI (ga (oL s))))]) (fun k=>k≤6∧((oL s).drop k).all (fun x=>decide (0≤x.n))=(oL s).all (fun x=>decide (0≤x.n))) (fun k=>6 - k) 0 (by simp) (bA (by simp [lk])) (fun k hk K' hN hX hR=>?_)
  obtain ⟨ct,hk2⟩:=hk
  simp -implicitDefEqProofs only [go_sem,Int.reduceNegSucc]
  refine aj (fun hg=>?_) (fun hg=>?_)
  ·have ay:k<6:=by simp at hg;omega
   have hx:=yJ (l:=oL s) ay
   have Ie:(ga (oL s)).length=6:=rfl
   repeat' (first | (simp -implicitDefEqProofs only [go_sem,Int.reduceNegSucc,hx,Ie,Ln.cells]) | (with_reducible refine aB ?_) | ((first | refine aj (fun hg=>?_) (fun hg=>?_) | refine aC (fun hg=>?_) (fun hg=>?_) | refine aD (fun hg=>?_) (fun hg=>?_)) <;> try simp -implicitDefEqProofs only [hg,Bool.not_true,Bool.not_false]) | ((with_reducible apply And.intro);focus (first | trivial | omega | decide | (simp -implicitDefEqProofs only [maxLen];omega) | (simp [maxLen,an,aq,au,aA,ak,ax,av] <;> omega))) | fail)
   ·refine hR _ _ (bad _ _ rfl ?_)
    simp -implicitDefEqProofs only [eL]
    rw [show [s.width,s.height,s.eV,s.eU,s.fl,s.fk]=oL s from rfl,mX ay hk2 (by simp at hg ⊢;omega)]
    simp
   ·rw [cr (by omega)]
    exact hN (k+1) _ _ ⟨by omega,mY ay hk2 (by simp at hg ⊢;omega)⟩ (by omega) (qE _ (by simp) (by simp [nF,ag,cG,cL,wk,dy,di]) (by simp [lk,aR,dz,cV,di]))
  ·have ay:k=6:=by simp at hg;omega
   subst ay
   have Hy:=mW (by simp [oL]) hk2
   simp -implicitDefEqProofs only [go_sem,Int.reduceNegSucc]
   refine hX _ _ _ ?_
   repeat' (first | (simp -implicitDefEqProofs only [go_sem,Int.reduceNegSucc]) | (with_reducible refine aB ?_) | ((first | refine aj (fun hg=>?_) (fun hg=>?_) | refine aC (fun hg=>?_) (fun hg=>?_) | refine aD (fun hg=>?_) (fun hg=>?_)) <;> try simp -implicitDefEqProofs only [hg,Bool.not_true,Bool.not_false]) | ((with_reducible apply And.intro);focus (first | trivial | omega | decide | (simp -implicitDefEqProofs only [maxLen];omega) | (simp [maxLen,an,aq,au,aA,ak,ax,av] <;> omega))) | fail)
   refine cN (ι:=Nat) (fun k=>[(42,.rv (.int .i64 k)),(1,.ptr 0 0)]) (fun k=>[some (.var (s.cells.map .rv))]) (fun k=>k≤4∧oC s k=true) (fun k=>4 - k) 0 (by simp [oC]) (qE _ (by simp) (by simp [nF,ag,cG,cL,di]) (by simp [lk,aR,dz,cV,di])) (fun k hk K' hN hX hR=>?_)
   obtain ⟨ct,hk2⟩:=hk
   simp -implicitDefEqProofs only [go_sem,Int.reduceNegSucc]
   refine aj (fun hg=>?_) (fun hg=>?_)
   ·have ay:k<4:=by simp at hg;omega
    have hn:gf (kS s.pad k) (kS s.aX k)=true→oC s (k+1)=true:=fun h=>by rw [Ml,hk2,h];rfl
    have hb:gf (kS s.pad k) (kS s.aX k)=false→eL s=false:=fun h=>by
     have:k=0∨k=1∨k=2∨k=3:=by omega
     rcases this with rfl | rfl | rfl | rfl <;> simp_all [eL,kS]
    have:k=0∨k=1∨k=2∨k=3:=by omega
    rcases this with rfl | rfl | rfl | rfl
    all_goals
     repeat' (first | (simp -implicitDefEqProofs only [go_sem,Int.reduceNegSucc,gl,iJ,gn,iK,gE,iV,gP,jg,hD,jt,iq,jC,ir,jD,iu,jE,iw,jF,iy,jG,gp,iL,gq,iM,gu,iN,gw,iO,gx,iP,gz,iQ,gA,iR,gB,iS,gC,iT,gD,iU,gF,iW,gG,iX,gH,iY,gI,iZ,gJ,ja,gK,jb,gL,jc,gM,jd,gN,je,gO,jf,gQ,jh,gR,ji,gS,jk,gT,jl,gU,jm,gV,jn,gW,jo,gX,jq,gY,jr,gZ,js,hJ,ju,hU,jv,fT,jw,ia,jx,ic,jy,ie,jz,ig,jA,ij,jB,iE,iz,iA,iB,iC,iD,iF,iG,iH,iI,gk,fS,an]) | (with_reducible refine aB ?_) | ((first | refine aj (fun hg=>?_) (fun hg=>?_) | refine aC (fun hg=>?_) (fun hg=>?_) | refine aD (fun hg=>?_) (fun hg=>?_)) <;> try simp -implicitDefEqProofs only [hg,Bool.not_true,Bool.not_false]) | ((with_reducible apply And.intro);focus (first | trivial | omega | decide | (simp -implicitDefEqProofs only [maxLen];omega) | (simp [maxLen,an,aq,au,aA,ak,ax,av] <;> omega))) | fail)
    all_goals first
     | (refine hR _ _ (bad _ _ rfl (hb ?_));clear hN hX hR hb hn bad hK;simp_all [gf,kS,ck];done)
     | (rw [cr (by omega)];refine hN _ _ _ ⟨by omega,hn ?_⟩ (by omega) (bA (by simp [lk]));clear hN hX hR hb hn bad hK;simp_all [gf,kS,ck];done)
   ·have ay:k=4:=by simp at hg;omega
    subst ay
    rw [Mk] at hk2
    simp -implicitDefEqProofs only [go_sem,Int.reduceNegSucc]
    refine hX _ _ _ ?_
    have fin:∀ e h,lk e 2 = .rv (.bool (rE s))→K .ret ⟨e,h⟩:=fun e h l2=>(hK _ _ (bX (by rw [l2,eL,hall,hk2];rw [show [s.width,s.height,s.eV,s.eU,s.fl,s.fk]=oL s from rfl,Hy];rfl))).2
    clear hK hN hX hR bad
    repeat' (first | (simp -implicitDefEqProofs only [go_sem,Int.reduceNegSucc,gl,iJ,gn,iK,gE,iV,gP,jg,hD,jt,iq,jC,ir,jD,iu,jE,iw,jF,iy,jG,gp,iL,gq,iM,gu,iN,gw,iO,gx,iP,gz,iQ,gA,iR,gB,iS,gC,iT,gD,iU,gF,iW,gG,iX,gH,iY,gI,iZ,gJ,ja,gK,jb,gL,jc,gM,jd,gN,je,gO,jf,gQ,jh,gR,ji,gS,jk,gT,jl,gU,jm,gV,jn,gW,jo,gX,jq,gY,jr,gZ,js,hJ,ju,hU,jv,fT,jw,ia,jx,ic,jy,ie,jz,ig,jA,ij,jB,iE,iz,iA,iB,iC,iD,iF,iG,iH,iI,gk,fS,an]) | (with_reducible refine aB ?_) | ((first | refine aj (fun hg=>?_) (fun hg=>?_) | refine aC (fun hg=>?_) (fun hg=>?_) | refine aD (fun hg=>?_) (fun hg=>?_)) <;> try simp -implicitDefEqProofs only [hg,Bool.not_true,Bool.not_false]) | ((with_reducible apply And.intro);focus (first | trivial | omega | decide | (simp -implicitDefEqProofs only [maxLen];omega) | (simp [maxLen,an,aq,au,aA,ak,ax,av] <;> omega))) | fail)
    all_goals (refine fin _ _ ?_;(simp_all [lk,rE,ck]) <;>(try (intros;omega)))
theorem Ou (s:ai):aJ Go.Proofs.Try.prog 38 [s.sv] [] [] (.rv (.bool (fI s))):=by
 refine bJ KI [s.sv] _ (by simp) (by simp [aN,bl,bz,bf,bq,ai.sv,Ln.sv,Nd.sv]) (fun K hK=>?_)
 have bad:∀ e h,lk e 2 = .rv (.bool false)→fI s=false→K .ret ⟨e,h⟩:=fun e h l2 hf=>(hK _ _ (bX (by rw [l2,hf]))).2
 conv in fc _ _ _ _=>reduce
 simp -implicitDefEqProofs only [ai.sv,go_sem,Int.reduceNegSucc]
 refine cD (Dz 0 1 s (by decide)) (by simp [aW,ag]) (by simp [bp,bk]) ?_
 simp -implicitDefEqProofs only [go_sem,Int.reduceNegSucc]
 refine cN (ι:=Nat) (fun k=>[(9,.rv (.int .i64 k)),(8,.rv (.int .i64 18)),(7,.row 1 13 18),(1,.ptr 0 0)]) (fun k=>[some (.var (s.cells.map .rv)),some (.row 1 13 (cU 0 kN))]) (fun k=>k≤18∧((cm s).drop k).all mO=(cm s).all mO) (fun k=>18 - k) 0 (by simp) (bA (by simp [lk])) (fun k hk K' hN hX hR=>?_)
 obtain ⟨ct,hk2⟩:=hk
 simp -implicitDefEqProofs only [go_sem,Int.reduceNegSucc]
 refine aj (fun hg=>?_) (fun hg=>?_)
 ·have ay:k<18:=by simp at hg;omega
  obtain ⟨o,ho,sJ,Io⟩:=Cf s ay
  have dr:=CS (i:=0) ho
  have pS:(cU 0 kN).length=18:=rfl
  obtain ⟨hc0,od⟩:=Lg s ay ho
  have ya:o<48:=by omega
  have Ip:o+1<48:=by omega
  have fy:∀ e h,lk e 2 = .rv (.bool false)→mO ((cm s)[k]'ay)=false→K .ret ⟨e,h⟩:=fun e h l2 hf=>bad e h l2 (by simp -implicitDefEqProofs only [fI,mX ay hk2 hf,Bool.false_and])
  have nx:∀ e h,mO ((cm s)[k]'ay)=true→cB 0 ⟨e,h⟩ ⟨[(9,.rv (.int .i64 (k+1:Nat))),(8,.rv (.int .i64 18)),(7,.row 1 13 18),(1,.ptr 0 0)],[some (.var (s.cells.map .rv)),some (.row 1 13 (cU 0 kN))]⟩→K' .normal ⟨e,h⟩:=fun e h hf he=>hN (k+1) _ _ ⟨by omega,mY ay hk2 hf⟩ (by omega) he
  have wu:=cr (k:=k) (by omega)
  generalize (cm s)[k]'ay=x at *
  have y_2:=zw x.n 1099511627776 (by decide) (by decide);have bP:=zw x.n 1000000 (by decide) (by decide);repeat' (first | (simp -implicitDefEqProofs only [go_sem,Int.reduceNegSucc,dr,pS,hc0,od,wu]) | (with_reducible refine aB ?_) | (with_reducible first | refine aF y_2 ?_ | refine aG y_2 ?_) | (with_reducible first | refine aF bP ?_ | refine aG bP ?_) | ((first | refine aj (fun hg=>?_) (fun hg=>?_) | refine aC (fun hg=>?_) (fun hg=>?_) | refine aD (fun hg=>?_) (fun hg=>?_)) <;> try simp -implicitDefEqProofs only [hg,Bool.not_true,Bool.not_false]) | ((with_reducible apply And.intro);focus (first | trivial | omega | decide | (simp -implicitDefEqProofs only [maxLen];omega) | (simp [maxLen,an,aq,au,aA,ak,ax,av] <;> omega))) | fail)
  all_goals first
   | (refine hR _ _ (fy _ _ rfl ?_);clear hN hX hR bad fy nx hK;simp_all [mO,ck];done)
   | (refine nx _ _ ?_ (bA (by simp [lk]));clear hN hX hR bad fy nx hK;simp_all [mO,ck];done)
 ·have ay:k=18:=by simp at hg;omega
  subst ay
  have hall:=mW (by rw [av];omega) hk2
  simp -implicitDefEqProofs only [go_sem,Int.reduceNegSucc]
  refine hX _ _ _ ?_
  repeat' (first | (simp -implicitDefEqProofs only [go_sem,Int.reduceNegSucc,gl,iJ,gn,iK,gE,iV,gP,jg,hD,jt,iq,jC,ir,jD,iu,jE,iw,jF,iy,jG,gp,iL,gq,iM,gu,iN,gw,iO,gx,iP,gz,iQ,gA,iR,gB,iS,gC,iT,gD,iU,gF,iW,gG,iX,gH,iY,gI,iZ,gJ,ja,gK,jb,gL,jc,gM,jd,gN,je,gO,jf,gQ,jh,gR,ji,gS,jk,gT,jl,gU,jm,gV,jn,gW,jo,gX,jq,gY,jr,gZ,js,hJ,ju,hU,jv,fT,jw,ia,jx,ic,jy,ie,jz,ig,jA,ij,jB,iE,iz,iA,iB,iC,iD,iF,iG,iH,iI,gk,fS,an]) | (with_reducible refine aB ?_) | ((first | refine aj (fun hg=>?_) (fun hg=>?_) | refine aC (fun hg=>?_) (fun hg=>?_) | refine aD (fun hg=>?_) (fun hg=>?_)) <;> try simp -implicitDefEqProofs only [hg,Bool.not_true,Bool.not_false]) | ((with_reducible apply And.intro);focus (first | trivial | omega | decide | (simp -implicitDefEqProofs only [maxLen];omega) | (simp [maxLen,an,aq,au,aA,ak,ax,av] <;> omega))) | fail)
  refine cN (ι:=Nat) (fun k=>[(44,.rv (.int .i64 k)),(43,.agg (s.aX.ints.map .rv)),(1,.ptr 0 0)]) (fun k=>[some (.var (s.cells.map .rv))]) (fun k=>k≤4∧(s.aX.list.drop k).all (fun n=>decide (n≤1099511627776))=s.aX.list.all (fun n=>decide (n≤1099511627776))) (fun k=>4 - k) 0 (by simp) (qE _ (by simp) (by simp [nF,ag,cG,cL,di]) (by simp [lk,aR,dz,cV,aZ,cL,di])) (fun k hk K' hN hX hR=>?_)
  obtain ⟨ct,hk2⟩:=hk
  simp -implicitDefEqProofs only [go_sem,Int.reduceNegSucc]
  refine aj (fun hg=>?_) (fun hg=>?_)
  ·have ay:k<4:=by simp at hg;omega
   have hx:(s.aX.ints.map U.rv)[k*1]?.getD .dead = .rv (.int .i64 (s.aX.list[k]'ay)):=by
    have:k=0∨k=1∨k=2∨k=3:=by omega
    rcases this with rfl | rfl | rfl | rfl <;> rfl
   have Ic:s.aX.ints.length=4:=rfl
   repeat' (first | (simp -implicitDefEqProofs only [go_sem,Int.reduceNegSucc,hx,Ic]) | (with_reducible refine aB ?_) | ((first | refine aj (fun hg=>?_) (fun hg=>?_) | refine aC (fun hg=>?_) (fun hg=>?_) | refine aD (fun hg=>?_) (fun hg=>?_)) <;> try simp -implicitDefEqProofs only [hg,Bool.not_true,Bool.not_false]) | ((with_reducible apply And.intro);focus (first | trivial | omega | decide | (simp -implicitDefEqProofs only [maxLen];omega) | (simp [maxLen,an,aq,au,aA,ak,ax,av] <;> omega))) | fail)
   ·refine hR _ _ (bad _ _ rfl ?_)
    simp -implicitDefEqProofs only [fI]
    rw [mX (l:=s.aX.list) ay hk2 (by simp at hg ⊢;omega)]
    simp
   ·rw [cr (by omega)]
    exact hN (k+1) _ _ ⟨by omega,mY (l:=s.aX.list) ay hk2 (by simp at hg ⊢;omega)⟩ (by omega) (bA (by simp [lk]))
  ·have ay:k=4:=by simp at hg;omega
   subst ay
   have hb:=mW (l:=s.aX.list) (by simp [Q4.list]) hk2
   simp -implicitDefEqProofs only [go_sem,Int.reduceNegSucc]
   refine hX _ _ _ ?_
   have fin:∀ e h,lk e 2 = .rv (.bool (ou s.z 1073741824 && decide (s.back≤16777216) && decide (s.line≤16777216)))→K .ret ⟨e,h⟩:=fun e h l2=>(hK _ _ (bX (by rw [l2,fI,hall,hb];rfl))).2
   clear hK hN hX hR bad
   have bV:=zw s.z 1073741824 (by decide) (by decide);repeat' (first | (simp -implicitDefEqProofs only [go_sem,Int.reduceNegSucc,gl,iJ,gn,iK,gE,iV,gP,jg,hD,jt,iq,jC,ir,jD,iu,jE,iw,jF,iy,jG,gp,iL,gq,iM,gu,iN,gw,iO,gx,iP,gz,iQ,gA,iR,gB,iS,gC,iT,gD,iU,gF,iW,gG,iX,gH,iY,gI,iZ,gJ,ja,gK,jb,gL,jc,gM,jd,gN,je,gO,jf,gQ,jh,gR,ji,gS,jk,gT,jl,gU,jm,gV,jn,gW,jo,gX,jq,gY,jr,gZ,js,hJ,ju,hU,jv,fT,jw,ia,jx,ic,jy,ie,jz,ig,jA,ij,jB,iE,iz,iA,iB,iC,iD,iF,iG,iH,iI,gk,fS,an]) | (with_reducible refine aB ?_) | (with_reducible first | refine aF bV ?_ | refine aG bV ?_) | ((first | refine aj (fun hg=>?_) (fun hg=>?_) | refine aC (fun hg=>?_) (fun hg=>?_) | refine aD (fun hg=>?_) (fun hg=>?_)) <;> try simp -implicitDefEqProofs only [hg,Bool.not_true,Bool.not_false]) | ((with_reducible apply And.intro);focus (first | trivial | omega | decide | (simp -implicitDefEqProofs only [maxLen];omega) | (simp [maxLen,an,aq,au,aA,ak,ax,av] <;> omega))) | fail)
   all_goals (refine fin _ _ ?_;(simp_all [lk,ck]) <;>(try (intros;omega)))
end Go.aH

namespace Go.aH
open Go
theorem JN:aV Go.Proofs.Try.prog 33 31 (fc Go.Proofs.Try.prog 33 31 [(.t 2)]) [(.t 2)]:=bn (by kernel_rfl)
theorem JM:aV Go.Proofs.Try.prog 32 110 (fc Go.Proofs.Try.prog 32 110 [(.t 2)]) [(.t 2)]:=bn (by kernel_rfl)
theorem JO:aV Go.Proofs.Try.prog 20 89 (fc Go.Proofs.Try.prog 20 89 [(.t 2)]) [(.t 2)]:=bn (by kernel_rfl)
theorem Lo (l:List Ln):∀ x∈ga l,∀ r∈x,r.one=true:=by
 intro x hx r hr
 obtain ⟨n,_,rfl⟩:=List.mem_map.1 hx
 simp [Ln.cells] at hr
 rcases hr with rfl | rfl <;> rfl
theorem DA (s:ai):aJ Go.Proofs.Try.prog 33 [s.sv] [] [] (.rv (.sl 2 (ga (cm s)))):=by
 refine bJ JN [s.sv] _ (by simp) (by simp [aN,bl,bz,bf,bq,ai.sv,Ln.sv,Nd.sv]) (fun K hK=>?_)
 conv in fc _ _ _ _=>reduce
 simp -implicitDefEqProofs only [ai.sv,go_sem,Int.reduceNegSucc]
 repeat' (first | (simp -implicitDefEqProofs only [go_sem,Int.reduceNegSucc,an]) | (with_reducible refine aB ?_) | ((first | refine aj (fun hg=>?_) (fun hg=>?_) | refine aC (fun hg=>?_) (fun hg=>?_) | refine aD (fun hg=>?_) (fun hg=>?_)) <;> try simp -implicitDefEqProofs only [hg,Bool.not_true,Bool.not_false]) | ((with_reducible apply And.intro);focus (first | trivial | omega | decide | (simp -implicitDefEqProofs only [maxLen];omega) | (simp [maxLen,an,aq,au,aA,ak,ax,av] <;> omega))) | fail)
 exact (hK _ _ ⟨trivial,zh (xs:=ga (cm s)) rfl rfl rfl (Lo _)⟩).2
def cO (k:Nat) (x:Ln):Bool:=!(decide (x.kind<0) || decide (x.kind>2) || (decide (x.kind=0) && !decide (x.n=0))) && !((decide (x.n<0) && ((decide (4≤k) && decide (k<10)) || decide (14≤k))) || (decide (14≤k) && decide (x.kind=0)))
def nI (s:ai) (k:Nat):Bool:=(List.range k).all fun j=>cO j ((cm s).getD j default)
theorem LU {s:ai} {k:Nat} (h:k<18):nI s (k+1)=(nI s k && cO k ((cm s)[k]'h)):=by
 have:(cm s).getD k default=(cm s)[k]'h:=by rw [List.getD_eq_getElem?_getD,List.getElem?_eq_getElem h];rfl
 simp -implicitDefEqProofs only [nI,List.range_succ,List.all_append,List.all_cons,List.all_nil,Bool.and_true,this]
theorem LS {s:ai} {k:Nat} (h:k<18) (hf:cO k ((cm s)[k]'h)=false):nI s 18=false:=by
 have:(cm s).getD k default=(cm s)[k]'h:=by rw [List.getD_eq_getElem?_getD,List.getElem?_eq_getElem h];rfl
 rw [Bool.eq_false_iff]
 intro ht
 have:=List.all_eq_true.1 ht k (by simp;omega)
 simp_all
theorem zx (s:ai):eL s=(nI s 18 && (s.aX.list.all fun n=>!decide (n<0)) && rE s):=by
 have:nI s 18=(cO 0 s.off.a && cO 1 s.off.b && cO 2 s.off.c && cO 3 s.off.d && cO 4 s.width && cO 5 s.height && cO 6 s.eV && cO 7 s.eU && cO 8 s.fl && cO 9 s.fk && cO 10 s.aY.a && cO 11 s.aY.b && cO 12 s.aY.c && cO 13 s.aY.d && cO 14 s.pad.a && cO 15 s.pad.b && cO 16 s.pad.c && cO 17 s.pad.d):=by
  simp [nI,List.range_succ,cm,Q4.list,Bool.and_assoc]
 rw [this]
 have e1:∀ k x,(k<4∨(10≤k∧k<14))→cO k x=lW x:=fun k x hk=>by
  have h1:decide (14≤k)=false:=decide_eq_false (by omega)
  have h2:(decide (4≤k) && decide (k<10))=false:=by simp;omega
  simp -implicitDefEqProofs only [cO,lW,h1,h2]
  rw [Bool.eq_iff_iff];simp;omega
 have e2:∀ k x,(4≤k∧k<10)→cO k x=(lW x && decide (0≤x.n)):=fun k x hk=>by
  have h1:decide (14≤k)=false:=decide_eq_false (by omega)
  have h2:(decide (4≤k) && decide (k<10))=true:=by simp;omega
  simp -implicitDefEqProofs only [cO,lW,h1,h2]
  rw [Bool.eq_iff_iff];simp;omega
 have e3:∀ k x,14≤k→cO k x=(lW x && !(decide (x.kind=0) || decide (x.n<0))):=fun k x hk=>by
  have h1:decide (14≤k)=true:=decide_eq_true (by omega)
  simp -implicitDefEqProofs only [cO,lW,h1]
  rw [Bool.eq_iff_iff];simp;omega
 rw [e1 0 _ (by omega),e1 1 _ (by omega),e1 2 _ (by omega),e1 3 _ (by omega),e2 4 _ (by omega),e2 5 _ (by omega),e2 6 _ (by omega),e2 7 _ (by omega),e2 8 _ (by omega),e2 9 _ (by omega),e1 10 _ (by omega),e1 11 _ (by omega),e1 12 _ (by omega),e1 13 _ (by omega),e3 14 _ (by omega),e3 15 _ (by omega),e3 16 _ (by omega),e3 17 _ (by omega)]
 rw [Bool.eq_iff_iff]
 simp -implicitDefEqProofs only [eL,cm,Q4.list,gf,List.all_append,List.all_cons,List.all_nil,Bool.and_true,Bool.and_eq_true,Bool.not_eq_true',Bool.or_eq_false_iff,decide_eq_true_eq,decide_eq_false_iff_not]
 constructor <;>(intro h;simp -implicitDefEqProofs only [h,not_false_eq_true,and_self])
theorem Oj (s:ai):aJ Go.Proofs.Try.prog 32 [s.sv] [] [] (.rv (.bool (eL s))):=by
 refine bJ JM [s.sv] _ (by simp) (by simp [aN,bl,bz,bf,bq,ai.sv,Ln.sv,Nd.sv]) (fun K hK=>?_)
 have bad:∀ e h,lk e 2 = .rv (.bool false)→eL s=false→K .ret ⟨e,h⟩:=fun e h l2 hf=>(hK _ _ (bX (by rw [l2,hf]))).2
 conv in fc _ _ _ _=>reduce
 simp -implicitDefEqProofs only [ai.sv,go_sem,Int.reduceNegSucc]
 have br:=DA s;repeat' (first | (simp -implicitDefEqProofs only [go_sem,Int.reduceNegSucc,gl,iJ,gn,iK,gE,iV,gP,jg,hD,jt,iq,jC,ir,jD,iu,jE,iw,jF,iy,jG,gp,iL,gq,iM,gu,iN,gw,iO,gx,iP,gz,iQ,gA,iR,gB,iS,gC,iT,gD,iU,gF,iW,gG,iX,gH,iY,gI,iZ,gJ,ja,gK,jb,gL,jc,gM,jd,gN,je,gO,jf,gQ,jh,gR,ji,gS,jk,gT,jl,gU,jm,gV,jn,gW,jo,gX,jq,gY,jr,gZ,js,hJ,ju,hU,jv,fT,jw,ia,jx,ic,jy,ie,jz,ig,jA,ij,jB,iE,iz,iA,iB,iC,iD,iF,iG,iH,iI,gk,fS,an,aA,av]) | (with_reducible refine aB ?_) | (with_reducible first | refine aF br ?_ | refine aG br ?_) | ((first | refine aj (fun hg=>?_) (fun hg=>?_) | refine aC (fun hg=>?_) (fun hg=>?_) | refine aD (fun hg=>?_) (fun hg=>?_)) <;> try simp -implicitDefEqProofs only [hg,Bool.not_true,Bool.not_false]) | ((with_reducible apply And.intro);focus (first | trivial | omega | decide | (simp -implicitDefEqProofs only [maxLen];omega) | (simp [maxLen,an,aq,au,aA,ak,ax,av] <;> omega))) | fail)
 refine cN (ι:=Nat) (fun k=>[(10,.rv (.int .i64 k)),(9,.rv (.int .i64 18)),(3,.rv (.sl 2 (ga (cm s)))),(1,.ptr 0 0)]) (fun k=>[some (.var (s.cells.map .rv))]) (fun k=>k≤18∧nI s k=true) (fun k=>18 - k) 0 (by simp [nI]) (bA (by simp [lk])) (fun k hk K' hN hX hR=>?_)
 obtain ⟨ct,hk2⟩:=hk
 simp -implicitDefEqProofs only [go_sem,Int.reduceNegSucc]
 refine aj (fun hg=>?_) (fun hg=>?_)
 ·have ay:k<18:=by simp at hg;omega
  have hx:=yJ (l:=cm s) ay
  have fy:∀ e h,lk e 2 = .rv (.bool false)→cO k ((cm s)[k]'ay)=false→K .ret ⟨e,h⟩:=fun e h l2 hf=>bad e h l2 (by rw [zx,LS ay hf];rfl)
  have nx:∀ e h,cO k ((cm s)[k]'ay)=true→cB 0 ⟨e,h⟩ ⟨[(10,.rv (.int .i64 (k+1:Nat))),(9,.rv (.int .i64 18)),(3,.rv (.sl 2 (ga (cm s)))),(1,.ptr 0 0)],[some (.var (s.cells.map .rv))]⟩→K' .normal ⟨e,h⟩:=fun e h hf he=>hN (k+1) _ _ ⟨by omega,by rw [LU ay,hk2,hf];rfl⟩ (by omega) he
  have wu:=cr (k:=k) (by omega)
  have qN:(ga (cm s)).length=18:=rfl
  clear hN hX hK bad
  generalize yq:(cm s)[k]'ay=x at *
  repeat' (first | (simp -implicitDefEqProofs only [go_sem,Int.reduceNegSucc,hx,qN,Ln.cells,wu]) | (with_reducible refine aB ?_) | ((first | refine aj (fun hg=>?_) (fun hg=>?_) | refine aC (fun hg=>?_) (fun hg=>?_) | refine aD (fun hg=>?_) (fun hg=>?_)) <;> try simp -implicitDefEqProofs only [hg,Bool.not_true,Bool.not_false]) | ((with_reducible apply And.intro);focus (first | trivial | omega | decide | (simp -implicitDefEqProofs only [maxLen];omega) | (simp [maxLen,an,aq,au,aA,ak,ax,av] <;> omega))) | fail)
  all_goals first
   | (refine hR _ _ (fy _ _ rfl ?_);clear hR fy nx;simp_all [cO,ck];done)
   | (refine nx _ _ ?_ (bA (by simp [lk]));clear hR fy nx;simp_all [cO,ck];done)
   | (refine hR _ _ (fy _ _ rfl ?_);clear hR fy nx;simp_all [cO,ck];omega)
   | (refine nx _ _ ?_ (bA (by simp [lk]));clear hR fy nx;simp_all [cO,ck];omega)
 ·have ay:k=18:=by simp at hg;omega
  subst ay
  simp -implicitDefEqProofs only [go_sem,Int.reduceNegSucc]
  refine hX _ _ _ ?_
  repeat' (first | (simp -implicitDefEqProofs only [go_sem,Int.reduceNegSucc,gl,iJ,gn,iK,gE,iV,gP,jg,hD,jt,iq,jC,ir,jD,iu,jE,iw,jF,iy,jG,gp,iL,gq,iM,gu,iN,gw,iO,gx,iP,gz,iQ,gA,iR,gB,iS,gC,iT,gD,iU,gF,iW,gG,iX,gH,iY,gI,iZ,gJ,ja,gK,jb,gL,jc,gM,jd,gN,je,gO,jf,gQ,jh,gR,ji,gS,jk,gT,jl,gU,jm,gV,jn,gW,jo,gX,jq,gY,jr,gZ,js,hJ,ju,hU,jv,fT,jw,ia,jx,ic,jy,ie,jz,ig,jA,ij,jB,iE,iz,iA,iB,iC,iD,iF,iG,iH,iI,gk,fS,an]) | (with_reducible refine aB ?_) | ((first | refine aj (fun hg=>?_) (fun hg=>?_) | refine aC (fun hg=>?_) (fun hg=>?_) | refine aD (fun hg=>?_) (fun hg=>?_)) <;> try simp -implicitDefEqProofs only [hg,Bool.not_true,Bool.not_false]) | ((with_reducible apply And.intro);focus (first | trivial | omega | decide | (simp -implicitDefEqProofs only [maxLen];omega) | (simp [maxLen,an,aq,au,aA,ak,ax,av] <;> omega))) | fail)
  refine cN (ι:=Nat) (fun k=>[(74,.rv (.int .i64 k)),(1,.ptr 0 0)]) (fun k=>[some (.var (s.cells.map .rv))]) (fun k=>k≤4∧(s.aX.list.drop k).all (fun n=>!decide (n<0))=s.aX.list.all (fun n=>!decide (n<0))) (fun k=>4 - k) 0 (by simp) (bA (by simp [lk])) (fun k hk K' hN hX hR=>?_)
  obtain ⟨ct,cT⟩:=hk
  simp -implicitDefEqProofs only [go_sem,Int.reduceNegSucc]
  refine aj (fun hg=>?_) (fun hg=>?_)
  ·have ay:k<4:=by simp at hg;omega
   have hx:(s.cells.map U.rv)[38+k*1]?=some (.rv (.int .i64 (s.aX.list[k]'ay))):=by
    have:k=0∨k=1∨k=2∨k=3:=by omega
    rcases this with rfl | rfl | rfl | rfl <;> rfl
   repeat' (first | (simp -implicitDefEqProofs only [go_sem,Int.reduceNegSucc,hx,an]) | (with_reducible refine aB ?_) | ((first | refine aj (fun hg=>?_) (fun hg=>?_) | refine aC (fun hg=>?_) (fun hg=>?_) | refine aD (fun hg=>?_) (fun hg=>?_)) <;> try simp -implicitDefEqProofs only [hg,Bool.not_true,Bool.not_false]) | ((with_reducible apply And.intro);focus (first | trivial | omega | decide | (simp -implicitDefEqProofs only [maxLen];omega) | (simp [maxLen,an,aq,au,aA,ak,ax,av] <;> omega))) | fail)
   ·refine hR _ _ (bad _ _ rfl ?_)
    rw [zx,mX (l:=s.aX.list) ay cT (by simp at hg ⊢;omega)]
    simp
   ·rw [cr (by omega)]
    exact hN (k+1) _ _ ⟨by omega,mY (l:=s.aX.list) ay cT (by simp at hg ⊢;omega)⟩ (by omega) (bA (by simp [lk]))
  ·have ay:k=4:=by simp at hg;omega
   subst ay
   have hb:=mW (l:=s.aX.list) (by simp [Q4.list]) cT
   simp -implicitDefEqProofs only [go_sem,Int.reduceNegSucc]
   refine hX _ _ _ ?_
   have fin:∀ e h,lk e 2 = .rv (.bool (rE s))→K .ret ⟨e,h⟩:=fun e h l2=>(hK _ _ (bX (by rw [l2,zx,hk2,hb];rfl))).2
   clear hK hN hX hR bad
   repeat' (first | (simp -implicitDefEqProofs only [go_sem,Int.reduceNegSucc,gl,iJ,gn,iK,gE,iV,gP,jg,hD,jt,iq,jC,ir,jD,iu,jE,iw,jF,iy,jG,gp,iL,gq,iM,gu,iN,gw,iO,gx,iP,gz,iQ,gA,iR,gB,iS,gC,iT,gD,iU,gF,iW,gG,iX,gH,iY,gI,iZ,gJ,ja,gK,jb,gL,jc,gM,jd,gN,je,gO,jf,gQ,jh,gR,ji,gS,jk,gT,jl,gU,jm,gV,jn,gW,jo,gX,jq,gY,jr,gZ,js,hJ,ju,hU,jv,fT,jw,ia,jx,ic,jy,ie,jz,ig,jA,ij,jB,iE,iz,iA,iB,iC,iD,iF,iG,iH,iI,gk,fS,an]) | (with_reducible refine aB ?_) | ((first | refine aj (fun hg=>?_) (fun hg=>?_) | refine aC (fun hg=>?_) (fun hg=>?_) | refine aD (fun hg=>?_) (fun hg=>?_)) <;> try simp -implicitDefEqProofs only [hg,Bool.not_true,Bool.not_false]) | ((with_reducible apply And.intro);focus (first | trivial | omega | decide | (simp -implicitDefEqProofs only [maxLen];omega) | (simp [maxLen,an,aq,au,aA,ak,ax,av] <;> omega))) | fail)
   all_goals (refine fin _ _ ?_;(simp_all [lk,rE,ck]) <;>(try (intros;omega)))
def kO (x:Ln):Bool:=!(((!decide (x.kind=0) && decide (x.kind<3)) && decide (x.kind>0)) && (decide (x.n>if x.kind=2 then 1000000 else 1099511627776) || decide (x.n < - if x.kind=2 then 1000000 else 1099511627776)))
theorem Lm (x:Ln):mO x=kO x:=by
 rw [Bool.eq_iff_iff]
 unfold mO kO ou
 by_cases h2:x.kind=2
 ·simp [h2];omega
 ·by_cases h1:x.kind=1
  ·simp [h1];omega
  ·simp [h1,h2];omega
theorem DN (s:ai):fI s=((cm s).all kO && (s.aX.list.all fun n=>decide (n≤1099511627776)) && (decide (s.z≤1073741824) && decide (s.z≥-1073741824) && decide (s.back≤16777216) && decide (s.line≤16777216))):=by
 unfold fI
 rw [show mO=kO from funext Lm]
 rw [Bool.eq_iff_iff]
 simp [ou];omega
theorem Ok (s:ai):aJ Go.Proofs.Try.prog 20 [s.sv] [] [] (.rv (.bool (fI s))):=by
 refine bJ JO [s.sv] _ (by simp) (by simp [aN,bl,bz,bf,bq,ai.sv,Ln.sv,Nd.sv]) (fun K hK=>?_)
 have bad:∀ e h,lk e 2 = .rv (.bool false)→fI s=false→K .ret ⟨e,h⟩:=fun e h l2 hf=>(hK _ _ (bX (by rw [l2,hf]))).2
 conv in fc _ _ _ _=>reduce
 simp -implicitDefEqProofs only [ai.sv,go_sem,Int.reduceNegSucc]
 have y_2:=DA s;repeat' (first | (simp -implicitDefEqProofs only [go_sem,Int.reduceNegSucc,gl,iJ,gn,iK,gE,iV,gP,jg,hD,jt,iq,jC,ir,jD,iu,jE,iw,jF,iy,jG,gp,iL,gq,iM,gu,iN,gw,iO,gx,iP,gz,iQ,gA,iR,gB,iS,gC,iT,gD,iU,gF,iW,gG,iX,gH,iY,gI,iZ,gJ,ja,gK,jb,gL,jc,gM,jd,gN,je,gO,jf,gQ,jh,gR,ji,gS,jk,gT,jl,gU,jm,gV,jn,gW,jo,gX,jq,gY,jr,gZ,js,hJ,ju,hU,jv,fT,jw,ia,jx,ic,jy,ie,jz,ig,jA,ij,jB,iE,iz,iA,iB,iC,iD,iF,iG,iH,iI,gk,fS,an,aA,av]) | (with_reducible refine aB ?_) | (with_reducible first | refine aF y_2 ?_ | refine aG y_2 ?_) | ((first | refine aj (fun hg=>?_) (fun hg=>?_) | refine aC (fun hg=>?_) (fun hg=>?_) | refine aD (fun hg=>?_) (fun hg=>?_)) <;> try simp -implicitDefEqProofs only [hg,Bool.not_true,Bool.not_false]) | ((with_reducible apply And.intro);focus (first | trivial | omega | decide | (simp -implicitDefEqProofs only [maxLen];omega) | (simp [maxLen,an,aq,au,aA,ak,ax,av] <;> omega))) | fail)
 refine cN (ι:=Nat) (fun k=>[(11,.rv (.int .i64 k)),(10,.rv (.int .i64 18)),(3,.rv (.sl 2 (ga (cm s)))),(1,.ptr 0 0)]) (fun k=>[some (.var (s.cells.map .rv))]) (fun k=>k≤18∧((cm s).drop k).all kO=(cm s).all kO) (fun k=>18 - k) 0 (by simp) (bA (by simp [lk])) (fun k hk K' hN hX hR=>?_)
 obtain ⟨ct,hk2⟩:=hk
 simp -implicitDefEqProofs only [go_sem,Int.reduceNegSucc]
 refine aj (fun hg=>?_) (fun hg=>?_)
 ·have ay:k<18:=by simp at hg;omega
  have hx:=yJ (l:=cm s) ay
  have fy:∀ e h,lk e 2 = .rv (.bool false)→kO ((cm s)[k]'ay)=false→K .ret ⟨e,h⟩:=fun e h l2 hf=>bad e h l2 (by rw [DN,mX ay hk2 hf];rfl)
  have nx:∀ e h,kO ((cm s)[k]'ay)=true→cB 0 ⟨e,h⟩ ⟨[(11,.rv (.int .i64 (k+1:Nat))),(10,.rv (.int .i64 18)),(3,.rv (.sl 2 (ga (cm s)))),(1,.ptr 0 0)],[some (.var (s.cells.map .rv))]⟩→K' .normal ⟨e,h⟩:=fun e h hf he=>hN (k+1) _ _ ⟨by omega,mY ay hk2 hf⟩ (by omega) he
  have wu:=cr (k:=k) (by omega)
  have qN:(ga (cm s)).length=18:=rfl
  have w1:=Ef (m:=1000000) (by decide) (by decide)
  have w2:=Ef (m:=1099511627776) (by decide) (by decide)
  clear hN hX hK bad
  generalize yq:(cm s)[k]'ay=x at *
  repeat' (first | (simp -implicitDefEqProofs only [go_sem,Int.reduceNegSucc,hx,qN,Ln.cells,wu,w1,w2]) | (with_reducible refine aB ?_) | ((first | refine aj (fun hg=>?_) (fun hg=>?_) | refine aC (fun hg=>?_) (fun hg=>?_) | refine aD (fun hg=>?_) (fun hg=>?_)) <;> try simp -implicitDefEqProofs only [hg,Bool.not_true,Bool.not_false]) | ((with_reducible apply And.intro);focus (first | trivial | omega | decide | (simp -implicitDefEqProofs only [maxLen];omega) | (simp [maxLen,an,aq,au,aA,ak,ax,av] <;> omega))) | fail)
  all_goals first
   | (refine hR _ _ (fy _ _ rfl ?_);clear hR fy nx;simp_all [kO,ck];done)
   | (refine nx _ _ ?_ (bA (by simp [lk]));clear hR fy nx;simp_all [kO,ck];done)
   | (refine hR _ _ (fy _ _ rfl ?_);clear hR fy nx;simp_all [kO,ck];omega)
   | (refine nx _ _ ?_ (bA (by simp [lk]));clear hR fy nx;simp_all [kO,ck];omega)
 ·have ay:k=18:=by simp at hg;omega
  subst ay
  have hall:=mW (by rw [av];omega) hk2
  simp -implicitDefEqProofs only [go_sem,Int.reduceNegSucc]
  refine hX _ _ _ ?_
  repeat' (first | (simp -implicitDefEqProofs only [go_sem,Int.reduceNegSucc,gl,iJ,gn,iK,gE,iV,gP,jg,hD,jt,iq,jC,ir,jD,iu,jE,iw,jF,iy,jG,gp,iL,gq,iM,gu,iN,gw,iO,gx,iP,gz,iQ,gA,iR,gB,iS,gC,iT,gD,iU,gF,iW,gG,iX,gH,iY,gI,iZ,gJ,ja,gK,jb,gL,jc,gM,jd,gN,je,gO,jf,gQ,jh,gR,ji,gS,jk,gT,jl,gU,jm,gV,jn,gW,jo,gX,jq,gY,jr,gZ,js,hJ,ju,hU,jv,fT,jw,ia,jx,ic,jy,ie,jz,ig,jA,ij,jB,iE,iz,iA,iB,iC,iD,iF,iG,iH,iI,gk,fS,an]) | (with_reducible refine aB ?_) | ((first | refine aj (fun hg=>?_) (fun hg=>?_) | refine aC (fun hg=>?_) (fun hg=>?_) | refine aD (fun hg=>?_) (fun hg=>?_)) <;> try simp -implicitDefEqProofs only [hg,Bool.not_true,Bool.not_false]) | ((with_reducible apply And.intro);focus (first | trivial | omega | decide | (simp -implicitDefEqProofs only [maxLen];omega) | (simp [maxLen,an,aq,au,aA,ak,ax,av] <;> omega))) | fail)
  refine cN (ι:=Nat) (fun k=>[(62,.rv (.int .i64 k)),(1,.ptr 0 0)]) (fun k=>[some (.var (s.cells.map .rv))]) (fun k=>k≤4∧(s.aX.list.drop k).all (fun n=>decide (n≤1099511627776))=s.aX.list.all (fun n=>decide (n≤1099511627776))) (fun k=>4 - k) 0 (by simp) (bA (by simp [lk])) (fun k hk K' hN hX hR=>?_)
  obtain ⟨ct,cT⟩:=hk
  simp -implicitDefEqProofs only [go_sem,Int.reduceNegSucc]
  refine aj (fun hg=>?_) (fun hg=>?_)
  ·have ay:k<4:=by simp at hg;omega
   have hx:(s.cells.map U.rv)[38+k*1]?=some (.rv (.int .i64 (s.aX.list[k]'ay))):=by
    have:k=0∨k=1∨k=2∨k=3:=by omega
    rcases this with rfl | rfl | rfl | rfl <;> rfl
   repeat' (first | (simp -implicitDefEqProofs only [go_sem,Int.reduceNegSucc,hx,an]) | (with_reducible refine aB ?_) | ((first | refine aj (fun hg=>?_) (fun hg=>?_) | refine aC (fun hg=>?_) (fun hg=>?_) | refine aD (fun hg=>?_) (fun hg=>?_)) <;> try simp -implicitDefEqProofs only [hg,Bool.not_true,Bool.not_false]) | ((with_reducible apply And.intro);focus (first | trivial | omega | decide | (simp -implicitDefEqProofs only [maxLen];omega) | (simp [maxLen,an,aq,au,aA,ak,ax,av] <;> omega))) | fail)
   ·refine hR _ _ (bad _ _ rfl ?_)
    simp -implicitDefEqProofs only [fI]
    rw [mX (l:=s.aX.list) ay cT (by simp at hg ⊢;omega)]
    simp
   ·rw [cr (by omega)]
    exact hN (k+1) _ _ ⟨by omega,mY (l:=s.aX.list) ay cT (by simp at hg ⊢;omega)⟩ (by omega) (bA (by simp [lk]))
  ·have ay:k=4:=by simp at hg;omega
   subst ay
   have hb:=mW (l:=s.aX.list) (by simp [Q4.list]) cT
   simp -implicitDefEqProofs only [go_sem,Int.reduceNegSucc]
   refine hX _ _ _ ?_
   have fin:∀ e h,lk e 2 = .rv (.bool (decide (s.z≤1073741824) && decide (s.z≥-1073741824) && decide (s.back≤16777216) && decide (s.line≤16777216)))→K .ret ⟨e,h⟩:=fun e h l2=>(hK _ _ (bX (by rw [l2,DN,hall,hb];rfl))).2
   clear hK hN hX hR bad
   repeat' (first | (simp -implicitDefEqProofs only [go_sem,Int.reduceNegSucc,gl,iJ,gn,iK,gE,iV,gP,jg,hD,jt,iq,jC,ir,jD,iu,jE,iw,jF,iy,jG,gp,iL,gq,iM,gu,iN,gw,iO,gx,iP,gz,iQ,gA,iR,gB,iS,gC,iT,gD,iU,gF,iW,gG,iX,gH,iY,gI,iZ,gJ,ja,gK,jb,gL,jc,gM,jd,gN,je,gO,jf,gQ,jh,gR,ji,gS,jk,gT,jl,gU,jm,gV,jn,gW,jo,gX,jq,gY,jr,gZ,js,hJ,ju,hU,jv,fT,jw,ia,jx,ic,jy,ie,jz,ig,jA,ij,jB,iE,iz,iA,iB,iC,iD,iF,iG,iH,iI,gk,fS,an]) | (with_reducible refine aB ?_) | ((first | refine aj (fun hg=>?_) (fun hg=>?_) | refine aC (fun hg=>?_) (fun hg=>?_) | refine aD (fun hg=>?_) (fun hg=>?_)) <;> try simp -implicitDefEqProofs only [hg,Bool.not_true,Bool.not_false]) | ((with_reducible apply And.intro);focus (first | trivial | omega | decide | (simp -implicitDefEqProofs only [maxLen];omega) | (simp [maxLen,an,aq,au,aA,ak,ax,av] <;> omega))) | fail)
   all_goals (refine fin _ _ ?_;(simp_all [lk,ck]) <;>(try (intros;omega)))
end Go.aH

namespace Go.aH
open Go
theorem KR:aV Go.Proofs.Try.prog 56 27 (fc Go.Proofs.Try.prog 56 27 [(.t 4),(.t 5)]) [(.t 4),(.t 5)]:=bn (by kernel_rfl)
theorem KP:aV Go.Proofs.Try.prog 34 39 (fc Go.Proofs.Try.prog 34 39 [(.t 2)]) [(.t 2)]:=bn (by kernel_rfl)
theorem mP (x:Nd):(x.cells.drop 48)[0]?=some (.int .i64 x.parent):=rfl
theorem tn (x:Nd):(x.cells.take 48).map U.rv=x.s.cells.map U.rv:=rfl
theorem Oz (l:List Nd) (k:Nat) (h0:0<k) (hk:k<l.length) (hw:WF l k) (hb:l.length≤8589934592) :
 aJ Go.Proofs.Try.prog 56 [.rv (.sl 49 (bg l)),.rv (.int .i64 k)] [] [] (.aM [.rv (.int .i64 ((kq l k).getD 0:Nat)),.rv (.bool (kq l k).isSome)]):=by
 refine bJ KR [.rv (.sl 49 (bg l)),.rv (.int .i64 k)] _ (by simp) (by simp [aN,bl,bz,bf,bq,ai.sv,Ln.sv,Nd.sv]) (fun K hK=>?_)
 have wd:=rK h0 (by omega)
 have IN:=fG hk
 have hlen:=au l
 have hpk:=mb hk
 conv in fc _ _ _ _=>reduce
 simp -implicitDefEqProofs only [wd,go_sem,Int.reduceNegSucc]
 refine cN (ι:=Nat) (fun i=>[(7,.rv (.int .i64 (fu (aO l (k - 1)) i))),(6,.rv (.int .i64 i)),(0,.rv (.sl 49 (bg l))),(1,.rv (.int .i64 k))]) (fun _=>[]) (fun i=>i≤(aO l (k - 1)).length∧∀ j,(h:j<(aO l (k - 1)).length)→j<i→(((aO l (k - 1))[j]'h:Nat):Int)≠aQ l k) (fun i=>(aO l (k - 1)).length - i) 0 (by simp) (by rw [uj];exact bA (by simp [lk])) (fun i hi K' hN hX hR=>?_)
 obtain ⟨hi1,hi2⟩:=hi
 have dr:=ri (l:=l) (k - 1)
 simp -implicitDefEqProofs only [go_sem,Int.reduceNegSucc]
 refine aj (fun hg=>?_) (fun hg=>?_)
 ·have dn:i<(aO l (k - 1)).length:=qq.1 (by simpa using hg)
  have lF:=uh dn
  have hlt:(aO l (k - 1))[i]<k:=yX (by omega) dn
  have hx:=fG (l:=l) (i:=(aO l (k - 1))[i]) (by omega)
  have hpar:=mb (l:=l) (n:=(aO l (k - 1))[i]) (by omega)
  have nD:=yU hw (k - 1) (by omega) i dn
  repeat' (first | (simp -implicitDefEqProofs only [go_sem,Int.reduceNegSucc,IN,hlen,aq,mP,hpk,lF,hx,hpar,nD]) | (with_reducible refine aB ?_) | ((first | refine aj (fun hg=>?_) (fun hg=>?_) | refine aC (fun hg=>?_) (fun hg=>?_) | refine aD (fun hg=>?_) (fun hg=>?_)) <;> try simp -implicitDefEqProofs only [hg,Bool.not_true,Bool.not_false]) | ((with_reducible apply And.intro);focus (first | trivial | omega | decide | (simp -implicitDefEqProofs only [maxLen];omega) | (simp [maxLen,an,aq,au,aA,ak,ax,av] <;> omega))) | fail)
  ·refine hR _ _ (hK _ _ ?_).2
   rw [OR dn (by simpa using hg) hi2]
   exact jT rfl rfl
  ·rw [cr (by omega)]
   refine hN (i+1) _ _ ⟨by omega,fun j hj hji=>?_⟩ (by omega) (bA (by simp [lk]))
   rcases Nat.lt_or_ge j i with h | h
   ·exact hi2 j hj h
   ·obtain rfl:j=i:=by omega
    simpa using hg
 ·simp -implicitDefEqProofs only [go_sem,Int.reduceNegSucc]
  refine hX _ _ _ ?_
  repeat' (first | (simp -implicitDefEqProofs only [go_sem,Int.reduceNegSucc]) | (with_reducible refine aB ?_) | ((first | refine aj (fun hg=>?_) (fun hg=>?_) | refine aC (fun hg=>?_) (fun hg=>?_) | refine aD (fun hg=>?_) (fun hg=>?_)) <;> try simp -implicitDefEqProofs only [hg,Bool.not_true,Bool.not_false]) | ((with_reducible apply And.intro);focus (first | trivial | omega | decide | (simp -implicitDefEqProofs only [maxLen];omega) | (simp [maxLen,an,aq,au,aA,ak,ax,av] <;> omega))) | fail)
  refine (hK _ _ ?_).2
  have dn:¬ i<(aO l (k - 1)).length:=fun h=>by have:=qq.2 h;simp at hg;omega
  rw [OS fun j hj=>hi2 j hj (by omega)]
  exact jT rfl rfl
theorem DH (l:List Nd) (hb:l.length≤8589934592):aJ Go.Proofs.Try.prog 34 [.rv (.sl 49 (bg l))] [] [] (.rv (.bool (cZ l))):=by
 refine bJ KP [.rv (.sl 49 (bg l))] _ (by simp) (by simp [aN,bl,bz,bf,bq,ai.sv,Ln.sv,Nd.sv]) (fun K hK=>?_)
 have bad:∀ e h,lk e 2 = .rv (.bool false)→cZ l=false→K .ret ⟨e,h⟩:=fun e h l2 hf=>(hK _ _ (bX (by rw [l2,hf]))).2
 have hlen:=au l
 conv in fc _ _ _ _=>reduce
 simp -implicitDefEqProofs only [hlen,go_sem,Int.reduceNegSucc]
 by_cases mI:l.length=0
 ·have e0:(((l.length:Nat):Int) == 0)=true:=by simp [mI]
  repeat' (first | (simp -implicitDefEqProofs only [go_sem,Int.reduceNegSucc,e0,hlen]) | (with_reducible refine aB ?_) | ((first | refine aj (fun hg=>?_) (fun hg=>?_) | refine aC (fun hg=>?_) (fun hg=>?_) | refine aD (fun hg=>?_) (fun hg=>?_)) <;> try simp -implicitDefEqProofs only [hg,Bool.not_true,Bool.not_false]) | ((with_reducible apply And.intro);focus (first | trivial | omega | decide | (simp -implicitDefEqProofs only [maxLen];omega) | (simp [maxLen,an,aq,au,aA,ak,ax,av] <;> omega))) | fail)
  exact bad _ _ rfl (by simp [cZ,fH,mI])
 ·have e0:(((l.length:Nat):Int) == 0)=false:=by simp [mI]
  have hx0:=fG (l:=l) (i:=0) (by omega)
  have eR:=mb (l:=l) (n:=0) (by omega)
  repeat' (first | (simp -implicitDefEqProofs only [go_sem,Int.reduceNegSucc,e0,hlen,hx0,aq,mP,eR]) | (with_reducible refine aB ?_) | ((first | refine aj (fun hg=>?_) (fun hg=>?_) | refine aC (fun hg=>?_) (fun hg=>?_) | refine aD (fun hg=>?_) (fun hg=>?_)) <;> try simp -implicitDefEqProofs only [hg,Bool.not_true,Bool.not_false]) | ((with_reducible apply And.intro);focus (first | trivial | omega | decide | (simp -implicitDefEqProofs only [maxLen];omega) | (simp [maxLen,an,aq,au,aA,ak,ax,av] <;> omega))) | fail)
  ·exact bad _ _ rfl (by simp [cZ,fH];intro _ h;simp at hg;exact absurd h hg)
  ·have sN:aQ l 0 = -1:=by simpa using hg
   refine cN (ι:=Nat) (fun k=>[(18,.rv (.int .i64 k)),(17,.rv (.int .i64 l.length)),(0,.rv (.sl 49 (bg l)))]) (fun _=>[]) (fun k=>k≤l.length∧(∀ j,j<k→eB l j=true)∧((l.drop k).all fun x=>eL x.s)=l.all fun x=>eL x.s) (fun k=>l.length - k) 0 (by simp) (bA (by simp [lk])) (fun k hk K' hN hX hR=>?_)
   obtain ⟨ct,hk2,cT⟩:=hk
   have hw:=Ec sN hk2
   simp -implicitDefEqProofs only [go_sem,Int.reduceNegSucc]
   refine aj (fun hg=>?_) (fun hg=>?_)
   ·have ay:k<l.length:=by simp at hg;omega
    have hx:=fG ay
    have h48:(l[k]'ay).cells.drop 0=(l[k]'ay).cells:=rfl
    have rR:eB l k=false→cZ l=false:=fun h=>by
     simp -implicitDefEqProofs only [cZ,Bool.and_eq_false_iff]
     left
     rw [Bool.eq_false_iff]
     intro ht
     simp -implicitDefEqProofs only [fH,Bool.and_eq_true,List.all_eq_true,List.mem_range] at ht
     have:=ht.2 k ay
     rw [h] at this;cases this
    have zK:eL (l[k]'ay).s=false→cZ l=false:=fun h=>by
     have:(l.all fun x=>eL x.s)=false:=mX ay cT h
     simp -implicitDefEqProofs only [cZ,this,Bool.and_false]
    have nx:∀ e h,eB l k=true→eL (l[k]'ay).s=true→cB 0 ⟨e,h⟩ ⟨[(18,.rv (.int .i64 (k+1:Nat))),(17,.rv (.int .i64 l.length)),(0,.rv (.sl 49 (bg l)))],[]⟩→K' .normal ⟨e,h⟩:=fun e h h1 h2 he=>hN (k+1) _ _ ⟨by omega,fun j hj=>by
     rcases Nat.lt_or_ge j k with h | h
     ·exact hk2 j h
     ·obtain rfl:j=k:=by omega
      exact h1,mY ay cT h2⟩ (by omega) he
    have wu:=cr (k:=k) (by omega)
    clear hN hX hK
    by_cases cK:0<k
    ·have hn:eB l k=(kq l k).isSome:=by simp [eB];intro h;omega
     have hgt:decide ((k:Int)>0)=true:=decide_eq_true (by omega)
     have br:=Oz l k cK ay hw hb;have y_2:=DF (l[k]'ay).s;repeat' (first | (simp -implicitDefEqProofs only [go_sem,Int.reduceNegSucc,hgt,hlen,hx,aq,mP,tn,wu]) | (with_reducible refine aB ?_) | (with_reducible first | refine aF br ?_ | refine aG br ?_) | (with_reducible first | refine aF y_2 ?_ | refine aG y_2 ?_) | ((first | refine aj (fun hg=>?_) (fun hg=>?_) | refine aC (fun hg=>?_) (fun hg=>?_) | refine aD (fun hg=>?_) (fun hg=>?_)) <;> try simp -implicitDefEqProofs only [hg,Bool.not_true,Bool.not_false]) | ((with_reducible apply And.intro);focus (first | trivial | omega | decide | (simp -implicitDefEqProofs only [maxLen];omega) | (simp [maxLen,an,aq,au,aA,ak,ax,av] <;> omega))) | fail)
     all_goals first
      | (refine hR _ _ (bad _ _ rfl (rR ?_));rw [hn];simpa using hg;done)
      | (refine hR _ _ (bad _ _ rfl (zK ?_));simpa using hg;done)
      | (refine nx _ _ ?_ ?_ (bA (by simp [lk])) <;> simp_all;done)
    ·obtain rfl:k=0:=by omega
     have hn:eB l 0=true:=by simp [eB]
     have hgt:decide (((0:Nat):Int)>0)=false:=rfl
     have bP:=DF (l[0]'ay).s;repeat' (first | (simp -implicitDefEqProofs only [go_sem,Int.reduceNegSucc,hgt,hlen,hx,aq,mP,tn,wu]) | (with_reducible refine aB ?_) | (with_reducible first | refine aF bP ?_ | refine aG bP ?_) | ((first | refine aj (fun hg=>?_) (fun hg=>?_) | refine aC (fun hg=>?_) (fun hg=>?_) | refine aD (fun hg=>?_) (fun hg=>?_)) <;> try simp -implicitDefEqProofs only [hg,Bool.not_true,Bool.not_false]) | ((with_reducible apply And.intro);focus (first | trivial | omega | decide | (simp -implicitDefEqProofs only [maxLen];omega) | (simp [maxLen,an,aq,au,aA,ak,ax,av] <;> omega))) | fail)
     all_goals first
      | (refine hR _ _ (bad _ _ rfl (zK ?_));simpa using hg;done)
      | (refine nx _ _ hn ?_ (bA (by simp [lk]));simpa using hg)
   ·have ay:k=l.length:=by simp at hg;omega
    subst ay
    have hall:=mW (Nat.le_refl _) cT
    have hs:fH l=true:=by
     simp -implicitDefEqProofs only [fH,Bool.and_eq_true,decide_eq_true_eq,List.all_eq_true,List.mem_range]
     exact ⟨⟨by omega,sN⟩,hk2⟩
    simp -implicitDefEqProofs only [go_sem,Int.reduceNegSucc]
    refine hX _ _ _ ?_
    repeat' (first | (simp -implicitDefEqProofs only [go_sem,Int.reduceNegSucc]) | (with_reducible refine aB ?_) | ((first | refine aj (fun hg=>?_) (fun hg=>?_) | refine aC (fun hg=>?_) (fun hg=>?_) | refine aD (fun hg=>?_) (fun hg=>?_)) <;> try simp -implicitDefEqProofs only [hg,Bool.not_true,Bool.not_false]) | ((with_reducible apply And.intro);focus (first | trivial | omega | decide | (simp -implicitDefEqProofs only [maxLen];omega) | (simp [maxLen,an,aq,au,aA,ak,ax,av] <;> omega))) | fail)
    exact (hK _ _ (bX (by rw [cZ,hs,hall];rfl))).2
end Go.aH

namespace Go.aH
open Go
theorem KD:aV Go.Proofs.Try.prog 58 25 (fc Go.Proofs.Try.prog 58 25 [(.t 2)]) [(.t 2)]:=bn (by kernel_rfl)
theorem KQ:aV Go.Proofs.Try.prog 35 33 (fc Go.Proofs.Try.prog 35 33 [(.t 2)]) [(.t 2)]:=bn (by kernel_rfl)
theorem KO:aV Go.Proofs.Try.prog 37 7 (fc Go.Proofs.Try.prog 37 7 [(.t 2)]) [(.t 2)]:=bn (by kernel_rfl)
theorem KA:aV Go.Proofs.Try.prog 59 19 (fc Go.Proofs.Try.prog 59 19 [(.t 4)]) [(.t 4)]:=bn (by kernel_rfl)
theorem Kx:aV Go.Proofs.Try.prog 36 9 (fc Go.Proofs.Try.prog 36 9 [(.t 4)]) [(.t 4)]:=bn (by kernel_rfl)
theorem KN:aV Go.Proofs.Try.prog 22 18 (fc Go.Proofs.Try.prog 22 18 [(.t 2)]) [(.t 2)]:=bn (by kernel_rfl)
def lY (ys:List Int) (m:Int) (k:Nat):Int:=(ys.drop k).foldl (fun a b=>if b>a then b else a) m
theorem LG {ys:List Int} {m:Int} {k:Nat} (h:k<ys.length):lY ys m k=lY ys (if ys[k]'h>m then ys[k]'h else m) (k+1):=by
 unfold lY;rw [List.drop_eq_getElem_cons h];rfl
theorem LD {ys:List Int} {m:Int} {k:Nat} (h:ys.length≤k):lY ys m k=m:=by
 unfold lY;rw [List.drop_of_length_le h];rfl
theorem NL (ys:List Int) (h0:0<ys.length) (hb:ys.length≤8589934592):aJ Go.Proofs.Try.prog 58 [.rv (.sl 1 (aK ys))] [] [] (.rv (.int .i64 (lY ys (ys[0]'h0) 1))):=by
 refine bJ KD [.rv (.sl 1 (aK ys))] _ (by simp) (by simp [aN,bl,bz,bf,bq,ai.sv,Ln.sv,Nd.sv]) (fun K hK=>?_)
 have hlen:=ak ys
 have e0:decide (((ys.length:Nat):Int)<1)=false:=decide_eq_false (by omega)
 have hx0:=ow h0
 conv in fc _ _ _ _=>reduce
 simp -implicitDefEqProofs only [go_sem,Int.reduceNegSucc]
 repeat' (first | (simp -implicitDefEqProofs only [go_sem,Int.reduceNegSucc,hlen,e0,hx0]) | (with_reducible refine aB ?_) | ((first | refine aj (fun hg=>?_) (fun hg=>?_) | refine aC (fun hg=>?_) (fun hg=>?_) | refine aD (fun hg=>?_) (fun hg=>?_)) <;> try simp -implicitDefEqProofs only [hg,Bool.not_true,Bool.not_false]) | ((with_reducible apply And.intro);focus (first | trivial | omega | decide | (simp -implicitDefEqProofs only [maxLen];omega) | (simp [maxLen,an,aq,au,aA,ak,ax,av] <;> omega))) | fail)
 refine cN (ι:=Nat×Int) (fun i=>[(4,.rv (.int .i64 i.1)),(3,.rv (.int .i64 i.2)),(0,.rv (.sl 1 (aK ys)))]) (fun _=>[]) (fun i=>i.1≤ys.length∧lY ys i.2 i.1=lY ys (ys[0]'h0) 1) (fun i=>ys.length - i.1) (1,ys[0]'h0) ⟨by dsimp only;omega,rfl⟩ (bA (by simp [lk])) (fun i hi K' hN hX hR=>?_)
 obtain ⟨k,m⟩:=i
 obtain ⟨ct,hk2⟩:=hi
 dsimp only at ct hk2 ⊢
 simp -implicitDefEqProofs only [hlen,go_sem,Int.reduceNegSucc]
 refine aj (fun hg=>?_) (fun hg=>?_)
 ·have ay:k<ys.length:=by simp at hg;omega
  have hx:=ow ay
  repeat' (first | (simp -implicitDefEqProofs only [go_sem,Int.reduceNegSucc,hlen,hx]) | (with_reducible refine aB ?_) | ((first | refine aj (fun hg=>?_) (fun hg=>?_) | refine aC (fun hg=>?_) (fun hg=>?_) | refine aD (fun hg=>?_) (fun hg=>?_)) <;> try simp -implicitDefEqProofs only [hg,Bool.not_true,Bool.not_false]) | ((with_reducible apply And.intro);focus (first | trivial | omega | decide | (simp -implicitDefEqProofs only [maxLen];omega) | (simp [maxLen,an,aq,au,aA,ak,ax,av] <;> omega))) | fail)
  rw [cr (by omega)]
  exact hN (k+1,if ys[k]'ay>m then ys[k]'ay else m) _ _ ⟨by dsimp only;omega,by rw [← hk2];exact (LG ay).symm⟩ (by dsimp only;omega) (bA (by simp [lk]))
 ·simp -implicitDefEqProofs only [go_sem,Int.reduceNegSucc]
  refine hX _ _ _ ?_
  repeat' (first | (simp -implicitDefEqProofs only [go_sem,Int.reduceNegSucc]) | (with_reducible refine aB ?_) | ((first | refine aj (fun hg=>?_) (fun hg=>?_) | refine aC (fun hg=>?_) (fun hg=>?_) | refine aD (fun hg=>?_) (fun hg=>?_)) <;> try simp -implicitDefEqProofs only [hg,Bool.not_true,Bool.not_false]) | ((with_reducible apply And.intro);focus (first | trivial | omega | decide | (simp -implicitDefEqProofs only [maxLen];omega) | (simp [maxLen,an,aq,au,aA,ak,ax,av] <;> omega))) | fail)
  refine (hK _ _ (bX ?_)).2
  rw [← hk2,LD (by simp at hg;omega)];rfl
def bG (l:List Nd) (k:Nat):List Int:=(List.range l.length).map fun j=>if j<k then (depth l j:Int) else 0
theorem qA (l:List Nd) (k:Nat):(bG l k).length=l.length:=by simp [bG]
theorem uQ {l:List Nd} {k:Nat} (hk:k<l.length):(bG l k).set k (depth l k)=bG l (k+1):=by
 refine List.ext_getElem (by simp [bG]) (fun i h1 h2=>?_)
 simp -implicitDefEqProofs only [List.getElem_set,bG,List.getElem_map,List.getElem_range]
 by_cases h:k=i
 ·subst h;simp
 ·rw [if_neg h]
  by_cases hi:i<k
  ·rw [if_pos hi,if_pos (by omega)]
  ·rw [if_neg hi,if_neg (by omega)]
theorem xl (l:List Nd):bG l 0=List.replicate l.length 0:=by
 refine List.ext_getElem (by simp [bG]) (fun i h1 h2=>?_)
 simp [bG]
theorem xj {l:List Nd} {k j:Nat} (hj:j<k) (hl:j<l.length):((bG l k).set k 1).getD j 0=depth l j:=by
 rw [List.getD_eq_getElem?_getD,List.getElem?_set_ne (by omega)]
 simp [bG,hl,hj]
theorem xk {l:List Nd} {k:Nat} (hk:k<l.length):((bG l k).set k 1).set k (depth l k)=bG l (k+1):=by
 rw [List.set_set,uQ hk]
def sg (l:List Nd):Int:=lY (bG l l.length) ((bG l l.length).getD 0 0) 1
theorem Oy (l:List Nd) (h0:0<l.length) (hw:WF l l.length) (hb:l.length≤8589934592):aJ Go.Proofs.Try.prog 35 [.rv (.sl 49 (bg l))] [] [] (.rv (.int .i64 (sg l))):=by
 refine bJ KQ [.rv (.sl 49 (bg l))] _ (by simp) (by simp [aN,bl,bz,bf,bq,ai.sv,Ln.sv,Nd.sv]) (fun K hK=>?_)
 have hlen:=au l
 conv in fc _ _ _ _=>reduce
 simp -implicitDefEqProofs only [go_sem,Int.reduceNegSucc]
 repeat' (first | (simp -implicitDefEqProofs only [go_sem,Int.reduceNegSucc,hlen,tF]) | (with_reducible refine aB ?_) | ((first | refine aj (fun hg=>?_) (fun hg=>?_) | refine aC (fun hg=>?_) (fun hg=>?_) | refine aD (fun hg=>?_) (fun hg=>?_)) <;> try simp -implicitDefEqProofs only [hg,Bool.not_true,Bool.not_false]) | ((with_reducible apply And.intro);focus (first | trivial | omega | decide | (simp -implicitDefEqProofs only [maxLen];omega) | (simp [maxLen,an,aq,au,aA,ak,ax,av] <;> omega))) | fail)
 refine cN (ι:=Nat) (fun k=>[(11,.rv (.int .i64 k)),(10,.rv (.int .i64 l.length)),(9,.rv (.sl 49 (bg l))),(3,.row 0 0 l.length)]) (fun k=>[some (.row 1 0 (aI (aK (bG l k))))]) (fun k=>k≤l.length) (fun k=>l.length - k) 0 (by simp) (by rw [xl];exact bA (by simp [lk])) (fun k hk K' hN hX hR=>?_)
 simp -implicitDefEqProofs only [go_sem,Int.reduceNegSucc]
 refine aj (fun hg=>?_) (fun hg=>?_)
 ·have ay:k<l.length:=by simp at hg;omega
  have hx:=fG ay
  have fP:=qA l k
  have mE:=fE (l:=bG l k) (i:=k) (by omega)
  have fO:=ak (bG l k)
  have kJ:((bG l k).set k 1).length=l.length:=by simp [fP]
  have hpk:=mb ay
  have wu:=cr (k:=k) (by omega)
  have nx:∀ e,cB 0 ⟨e,[some (.row 1 0 (aI (aK (bG l (k+1))))),some (.var ((l[k]'ay).cells.map .rv))]⟩ ⟨[(11,.rv (.int .i64 (k+1:Nat))),(10,.rv (.int .i64 l.length)),(9,.rv (.sl 49 (bg l))),(3,.row 0 0 l.length)],[some (.row 1 0 (aI (aK (bG l (k+1)))))]⟩→K' .normal ⟨e,_⟩:=fun e he=>hN (k+1) _ _ (by omega) (by omega) he
  have hds:=uQ ay
  have pM:=xk ay
  by_cases cK:0<k
  ·have hgt:decide ((k:Int)>0)=true:=decide_eq_true (by omega)
   obtain ⟨p1,p2⟩:=hw.2 k cK ay
   obtain ⟨p,hp⟩:∃ p:Nat,aQ l k=p:=⟨(aQ l k).toNat,by omega⟩
   have mF:=fE (l:=(bG l k).set k 1) (i:=p) (by omega)
   have pL:=fE (l:=(bG l k).set k 1) (i:=k) (by omega)
   rw [xj (by omega) (by omega)] at mF
   have pN:=ak ((bG l k).set k 1)
   have oe:=xm hw cK ay
   rw [hp,Int.toNat_natCast] at oe
   have wd:=cr (k:=depth l p) (by have:=ri (l:=l) p;unfold depth;omega)
   rw [← oe] at wd
   repeat' (first | (simp -implicitDefEqProofs only [go_sem,Int.reduceNegSucc,hgt,hlen,hx,aq,qa,nH,wu,mE,fP,fO,gh,hpk,hp,mF,pL,kJ,pN,wd,pM]) | (with_reducible refine aB ?_) | ((first | refine aj (fun hg=>?_) (fun hg=>?_) | refine aC (fun hg=>?_) (fun hg=>?_) | refine aD (fun hg=>?_) (fun hg=>?_)) <;> try simp -implicitDefEqProofs only [hg,Bool.not_true,Bool.not_false]) | ((with_reducible apply And.intro);focus (first | trivial | omega | decide | (simp -implicitDefEqProofs only [maxLen];omega) | (simp [maxLen,an,aq,au,aA,ak,ax,av] <;> omega))) | fail)
   exact nx _ (qE _ (by simp) (by simp [nF,ag,cG,dy]) (by simp [lk,aR,cV,di]))
  ·obtain rfl:k=0:=by omega
   have hgt:decide (((0:Nat):Int)>0)=false:=rfl
   rw [xo] at hds
   repeat' (first | (simp -implicitDefEqProofs only [go_sem,Int.reduceNegSucc,hgt,hlen,hx,aq,qa,nH,wu,mE,fP,fO,gh]) | (with_reducible refine aB ?_) | ((first | refine aj (fun hg=>?_) (fun hg=>?_) | refine aC (fun hg=>?_) (fun hg=>?_) | refine aD (fun hg=>?_) (fun hg=>?_)) <;> try simp -implicitDefEqProofs only [hg,Bool.not_true,Bool.not_false]) | ((with_reducible apply And.intro);focus (first | trivial | omega | decide | (simp -implicitDefEqProofs only [maxLen];omega) | (simp [maxLen,an,aq,au,aA,ak,ax,av] <;> omega))) | fail)
   rw [show (1:Int)=((1:Nat):Int) from rfl,hds]
   exact nx _ (qE _ (by simp) (by simp [nF,ag,cG,dy]) (by simp [lk,aR,cV,di]))
 ·have ay:k=l.length:=by simp at hg;omega
  subst ay
  have hpos:0<(bG l l.length).length:=by rw [qA];exact h0
  have hm:=NL (bG l l.length) hpos (by rw [qA];exact hb)
  have hml:=Ci (id:=0) (v:=0) (n:=l.length) (bs:=[]) hm (.int _ _) (by simp [aK,bG]) (lQ _)
  simp -implicitDefEqProofs only [go_sem,Int.reduceNegSucc]
  refine hX _ _ _ ?_
  have br:=hml;repeat' (first | (simp -implicitDefEqProofs only [go_sem,Int.reduceNegSucc]) | (with_reducible refine aB ?_) | (refine cD br ?_ ?_ ?_;(focus (simp [aW,ag] <;> fail));(focus (simp [bp,bk] <;> fail))) | (refine cY br ?_ ?_ ?_;(focus (simp [aW,ag] <;> fail));(focus (simp [bp,bk] <;> fail))) | ((first | refine aj (fun hg=>?_) (fun hg=>?_) | refine aC (fun hg=>?_) (fun hg=>?_) | refine aD (fun hg=>?_) (fun hg=>?_)) <;> try simp -implicitDefEqProofs only [hg,Bool.not_true,Bool.not_false]) | ((with_reducible apply And.intro);focus (first | trivial | omega | decide | (simp -implicitDefEqProofs only [maxLen];omega) | (simp [maxLen,an,aq,au,aA,ak,ax,av] <;> omega))) | fail)
  refine (hK _ _ (bX ?_)).2
  rw [sg,List.getD_eq_getElem?_getD,List.getElem?_eq_getElem hpos];rfl
theorem LF {ys:List Int} {m b:Int} {k:Nat}:lY ys m k≤b↔m≤b∧∀ x∈ys.drop k,x≤b:=by
 unfold lY
 induction ys.drop k generalizing m with
 | nil=>simp
 | cons a r ih=>
   rw [List.foldl_cons,ih]
   by_cases h:a>m
   ·rw [if_pos h];simp;intro _;omega
   ·rw [if_neg h];simp;intro _ _;omega
theorem FB (l:List Nd) (h0:0<l.length):decide (sg l>256)=(List.range l.length).any (fun k=>decide (depth l k>256)):=by
 have hg:∀ k,k<l.length→(bG l l.length)[k]?=some (depth l k:Int):=fun k hk=>by simp [bG,hk]
 have:sg l≤256↔∀ k,k<l.length→depth l k≤256:=by
  rw [sg,LF]
  constructor
  ·rintro ⟨h1,h2⟩ k hk
   rcases Nat.eq_zero_or_pos k with rfl | cK
   ·rw [List.getD_eq_getElem?_getD,hg 0 hk] at h1;simp at h1;omega
   ·have:=h2 (depth l k) (List.mem_iff_getElem?.2 ⟨k - 1,by rw [List.getElem?_drop,show 1+(k - 1)=k by omega,hg k hk]⟩)
    omega
  ·intro h
   refine ⟨by rw [List.getD_eq_getElem?_getD,hg 0 h0];have:=h 0 h0;simp;omega,fun x hx=>?_⟩
   obtain ⟨i,hi⟩:=List.mem_iff_getElem?.1 hx
   rw [List.getElem?_drop] at hi
   have hlt:1+i<l.length:=by have:=(List.getElem?_eq_some_iff.1 hi).1;rwa [qA] at this
   rw [hg _ hlt] at hi
   have:=h _ hlt
   simp at hi;omega
 rw [Bool.eq_iff_iff]
 simp -implicitDefEqProofs only [decide_eq_true_eq,List.any_eq_true,List.mem_range]
 constructor
 ·intro h
  apply Classical.byContradiction
  intro hn
  have:=this.2 (fun k hk=>by apply Classical.byContradiction;intro h2;exact hn ⟨k,hk,by omega⟩)
  omega
 ·rintro ⟨k,hk,h⟩
  apply Classical.byContradiction
  intro hn
  have:=this.1 (by omega) k hk
  omega
theorem Ox (x:Nd):aJ Go.Proofs.Try.prog 37 [x.sv] [] [] (.rv (.bool (!fI x.s))):=by
 refine bJ KO [x.sv] _ (by simp) (by simp [aN,bl,bz,bf,bq,ai.sv,Ln.sv,Nd.sv]) (fun K hK=>?_)
 conv in fc _ _ _ _=>reduce
 simp -implicitDefEqProofs only [go_sem,Int.reduceNegSucc]
 have h48:(x.cells.map U.rv).take 48=x.s.cells.map U.rv:=rfl
 have y_2:=Ou x.s;repeat' (first | (simp -implicitDefEqProofs only [go_sem,Int.reduceNegSucc,aq,h48]) | (with_reducible refine aB ?_) | (with_reducible first | refine aF y_2 ?_ | refine aG y_2 ?_) | ((first | refine aj (fun hg=>?_) (fun hg=>?_) | refine aC (fun hg=>?_) (fun hg=>?_) | refine aD (fun hg=>?_) (fun hg=>?_)) <;> try simp -implicitDefEqProofs only [hg,Bool.not_true,Bool.not_false]) | ((with_reducible apply And.intro);focus (first | trivial | omega | decide | (simp -implicitDefEqProofs only [maxLen];omega) | (simp [maxLen,an,aq,au,aA,ak,ax,av] <;> omega))) | fail)
 exact (hK _ _ (bX rfl)).2
theorem NG (l:List Nd) (f:Nat) (p:Nd→Bool) (hf:∀ x:Nd,aJ Go.Proofs.Try.prog f [x.sv] [] [] (.rv (.bool (p x)))) (hb:l.length≤8589934592) :
 aJ Go.Proofs.Try.prog 59 [.rv (.sl 49 (bg l)),.fn f []] [] [] (.rv (.int .i64 (match l.findIdx? p with | some i=>((i:Nat):Int) | none=>-1))):=by
 refine bJ KA [.rv (.sl 49 (bg l)),.fn f []] _ (by simp) (by simp [aN,bl,bz,bf,bq,ai.sv,Ln.sv,Nd.sv]) (fun K hK=>?_)
 have hlen:=au l
 conv in fc _ _ _ _=>reduce
 simp -implicitDefEqProofs only [hlen,go_sem,Int.reduceNegSucc]
 refine cN (ι:=Nat) (fun k=>[(8,.rv (.int .i64 k)),(7,.rv (.int .i64 l.length)),(0,.rv (.sl 49 (bg l))),(1,.fn f [])]) (fun _=>[]) (fun k=>k≤l.length∧∀ j,(h:j<l.length)→j<k→p (l[j]'h)=false) (fun k=>l.length - k) 0 (by simp) (bA (by simp [lk])) (fun k hk K' hN hX hR=>?_)
 obtain ⟨ct,hk2⟩:=hk
 simp -implicitDefEqProofs only [go_sem,Int.reduceNegSucc]
 refine aj (fun hg=>?_) (fun hg=>?_)
 ·have ay:k<l.length:=by simp at hg;omega
  have hx:=fG ay
  have bP:=hf (l[k]'ay);repeat' (first | (simp -implicitDefEqProofs only [go_sem,Int.reduceNegSucc,hlen,hx,aq,nH]) | (with_reducible refine aB ?_) | (with_reducible first | refine aF bP ?_ | refine aG bP ?_) | ((first | refine aj (fun hg=>?_) (fun hg=>?_) | refine aC (fun hg=>?_) (fun hg=>?_) | refine aD (fun hg=>?_) (fun hg=>?_)) <;> try simp -implicitDefEqProofs only [hg,Bool.not_true,Bool.not_false]) | ((with_reducible apply And.intro);focus (first | trivial | omega | decide | (simp -implicitDefEqProofs only [maxLen];omega) | (simp [maxLen,an,aq,au,aA,ak,ax,av] <;> omega))) | fail)
  ·refine hR _ _ (hK _ _ (bX ?_)).2
   have:l.findIdx? p=some k:=by
    rw [List.findIdx?_eq_some_iff_getElem]
    exact ⟨ay,by simpa using hg,fun j hj=>by rw [hk2 j (by omega) hj];simp⟩
   rw [this];rfl
  ·rw [cr (by omega)]
   refine hN (k+1) _ _ ⟨by omega,fun j hj hji=>?_⟩ (by omega) (bA (by simp [lk]))
   rcases Nat.lt_or_ge j k with h | h
   ·exact hk2 j hj h
   ·obtain rfl:j=k:=by omega
    simpa using hg
 ·have ay:k=l.length:=by simp at hg;omega
  subst ay
  simp -implicitDefEqProofs only [go_sem,Int.reduceNegSucc]
  refine hX _ _ _ ?_
  repeat' (first | (simp -implicitDefEqProofs only [go_sem,Int.reduceNegSucc]) | (with_reducible refine aB ?_) | ((first | refine aj (fun hg=>?_) (fun hg=>?_) | refine aC (fun hg=>?_) (fun hg=>?_) | refine aD (fun hg=>?_) (fun hg=>?_)) <;> try simp -implicitDefEqProofs only [hg,Bool.not_true,Bool.not_false]) | ((with_reducible apply And.intro);focus (first | trivial | omega | decide | (simp -implicitDefEqProofs only [maxLen];omega) | (simp [maxLen,an,aq,au,aA,ak,ax,av] <;> omega))) | fail)
  refine (hK _ _ (bX ?_)).2
  have:l.findIdx? p=none:=by
   rw [List.findIdx?_eq_none_iff]
   intro x hx
   obtain ⟨j,hj,rfl⟩:=List.getElem_of_mem hx
   exact hk2 j hj hj
  rw [this];rfl
theorem Ny (l:List Nd) (f:Nat) (p:Nd→Bool) (hf:∀ x:Nd,aJ Go.Proofs.Try.prog f [x.sv] [] [] (.rv (.bool (p x)))) (hb:l.length≤8589934592) :
 aJ Go.Proofs.Try.prog 36 [.rv (.sl 49 (bg l)),.fn f []] [] [] (.rv (.bool (l.any p))):=by
 refine bJ Kx [.rv (.sl 49 (bg l)),.fn f []] _ (by simp) (by simp [aN,bl,bz,bf,bq,ai.sv,Ln.sv,Nd.sv]) (fun K hK=>?_)
 conv in fc _ _ _ _=>reduce
 simp -implicitDefEqProofs only [go_sem,Int.reduceNegSucc]
 have bV:=NG l f p hf hb;repeat' (first | (simp -implicitDefEqProofs only [go_sem,Int.reduceNegSucc]) | (with_reducible refine aB ?_) | (with_reducible first | refine aF bV ?_ | refine aG bV ?_) | ((first | refine aj (fun hg=>?_) (fun hg=>?_) | refine aC (fun hg=>?_) (fun hg=>?_) | refine aD (fun hg=>?_) (fun hg=>?_)) <;> try simp -implicitDefEqProofs only [hg,Bool.not_true,Bool.not_false]) | ((with_reducible apply And.intro);focus (first | trivial | omega | decide | (simp -implicitDefEqProofs only [maxLen];omega) | (simp [maxLen,an,aq,au,aA,ak,ax,av] <;> omega))) | fail)
 refine (hK _ _ (bX ?_)).2
 have:(l.findIdx? p).isSome=l.any p:=List.findIdx?_isSome
 rw [← this]
 cases l.findIdx? p <;> simp [lk]
theorem DG (l:List Nd) (hb:l.length≤8589934592):aJ Go.Proofs.Try.prog 22 [.rv (.sl 49 (bg l))] [] [] (.rv (.int .i64 (fA l))):=by
 refine bJ KN [.rv (.sl 49 (bg l))] _ (by simp) (by simp [aN,bl,bz,bf,bq,ai.sv,Ln.sv,Nd.sv]) (fun K hK=>?_)
 have hlen:=au l
 conv in fc _ _ _ _=>reduce
 simp -implicitDefEqProofs only [go_sem,Int.reduceNegSucc]
 cases ht:cZ l with
 | false=>
   have hc:=DH l hb
   rw [ht] at hc
   have cq:=hc;repeat' (first | (simp -implicitDefEqProofs only [go_sem,Int.reduceNegSucc]) | (with_reducible refine aB ?_) | (with_reducible first | refine aF cq ?_ | refine aG cq ?_) | ((first | refine aj (fun hg=>?_) (fun hg=>?_) | refine aC (fun hg=>?_) (fun hg=>?_) | refine aD (fun hg=>?_) (fun hg=>?_)) <;> try simp -implicitDefEqProofs only [hg,Bool.not_true,Bool.not_false]) | ((with_reducible apply And.intro);focus (first | trivial | omega | decide | (simp -implicitDefEqProofs only [maxLen];omega) | (simp [maxLen,an,aq,au,aA,ak,ax,av] <;> omega))) | fail)
   exact (hK _ _ (bX (by simp [fA,ht,lk]))).2
 | true=>
   have hc:=DH l hb
   rw [ht] at hc
   have hs:dJ l:=tG.1 (by unfold cZ at ht;simp -implicitDefEqProofs only [Bool.and_eq_true] at ht;exact ht.1)
   have hd:=FB l hs.pos
   have cg:=hc;have cz:=Oy l hs.pos hs.wf hb;have cA:=Ny l 37 (fun x=>!fI x.s) Ox hb;repeat' (first | (simp -implicitDefEqProofs only [go_sem,Int.reduceNegSucc,hlen]) | (with_reducible refine aB ?_) | (with_reducible first | refine aF cg ?_ | refine aG cg ?_) | (with_reducible first | refine aF cz ?_ | refine aG cz ?_) | (with_reducible first | refine aF cA ?_ | refine aG cA ?_) | ((first | refine aj (fun hg=>?_) (fun hg=>?_) | refine aC (fun hg=>?_) (fun hg=>?_) | refine aD (fun hg=>?_) (fun hg=>?_)) <;> try simp -implicitDefEqProofs only [hg,Bool.not_true,Bool.not_false]) | ((with_reducible apply And.intro);focus (first | trivial | omega | decide | (simp -implicitDefEqProofs only [maxLen];omega) | (simp [maxLen,an,aq,au,aA,ak,ax,av] <;> omega))) | fail)
   all_goals (refine (hK _ _ (bX ?_)).2;clear hK;(simp_all [fA,lk]) <;>(try (intros;omega)))
end Go.aH

namespace Go.aH
open Go
theorem JP:aV Go.Proofs.Try.prog 55 17 (fc Go.Proofs.Try.prog 55 17 [(.t 6)]) [(.t 6)]:=bn (by kernel_rfl)
theorem JT:aV Go.Proofs.Try.prog 31 41 (fc Go.Proofs.Try.prog 31 41 [(.t 2)]) [(.t 2)]:=bn (by kernel_rfl)
theorem JS:aV Go.Proofs.Try.prog 19 20 (fc Go.Proofs.Try.prog 19 20 [(.t 2)]) [(.t 2)]:=bn (by kernel_rfl)
theorem JR:aV Go.Proofs.Try.prog 21 16 (fc Go.Proofs.Try.prog 21 16 [(.t 4)]) [(.t 4)]:=bn (by kernel_rfl)
theorem JQ:aV Go.Proofs.Try.prog 8 29 (fc Go.Proofs.Try.prog 8 29 [(.t 2)]) [(.t 2)]:=bn (by kernel_rfl)
def mU (l:List Nd) (a:Int) (n:Nat):Bool:=(aO l n).any fun (j:Nat)=>decide ((j:Int)=a)
theorem En {l:List Nd} {a:Int} {n i:Nat} (h:i<(aO l n).length) (hp:(((aO l n)[i]'h:Nat):Int)=a):mU l a n=true:=by
 unfold mU;rw [List.any_eq_true];exact ⟨_,List.getElem_mem h,by simpa using hp⟩
theorem Eo {l:List Nd} {a:Int} {n:Nat} (hn:∀ j,(h:j<(aO l n).length)→(((aO l n)[j]'h:Nat):Int)≠a):mU l a n=false:=by
 unfold mU;rw [List.any_eq_false]
 intro x hx
 obtain ⟨j,hj,rfl⟩:=List.getElem_of_mem hx
 simpa using hn j hj
theorem Ol (l:List Nd) (a:Int) (n:Nat) (hw:WF l (n+1)) (hn:n<l.length) (hb:l.length≤8589934592) :
 aJ Go.Proofs.Try.prog 55 [.rv (.sl 49 (bg l)),.rv (.int .i64 a),.rv (.int .i64 n)] [] [] (.rv (.bool (mU l a n))):=by
 refine bJ JP [.rv (.sl 49 (bg l)),.rv (.int .i64 a),.rv (.int .i64 n)] _ (by simp) (by simp [aN,bl,bz,bf,bq,ai.sv,Ln.sv,Nd.sv]) (fun K hK=>?_)
 have hlen:=au l
 conv in fc _ _ _ _=>reduce
 simp -implicitDefEqProofs only [go_sem,Int.reduceNegSucc]
 refine cN (ι:=Nat) (fun i=>[(2,.rv (.int .i64 (fu (aO l n) i))),(0,.rv (.sl 49 (bg l))),(1,.rv (.int .i64 a))]) (fun _=>[]) (fun i=>i≤(aO l n).length∧∀ j,(h:j<(aO l n).length)→j<i→(((aO l n)[j]'h:Nat):Int)≠a) (fun i=>(aO l n).length - i) 0 (by simp) (by rw [uj];exact bA (by simp [lk])) (fun i hi K' hN hX hR=>?_)
 obtain ⟨hi1,hi2⟩:=hi
 have dr:=ri (l:=l) n
 simp -implicitDefEqProofs only [go_sem,Int.reduceNegSucc]
 refine aj (fun hg=>?_) (fun hg=>?_)
 ·have dn:i<(aO l n).length:=qq.1 (by simpa using hg)
  have lF:=uh dn
  have hlt:(aO l n)[i]<n+1:=yX (by omega) dn
  have hx:=fG (l:=l) (i:=(aO l n)[i]) (by omega)
  have hpar:=mb (l:=l) (n:=(aO l n)[i]) (by omega)
  have nD:=yU hw n (by omega) i dn
  repeat' (first | (simp -implicitDefEqProofs only [go_sem,Int.reduceNegSucc,hlen,aq,mP,lF,hx,hpar,nD]) | (with_reducible refine aB ?_) | ((first | refine aj (fun hg=>?_) (fun hg=>?_) | refine aC (fun hg=>?_) (fun hg=>?_) | refine aD (fun hg=>?_) (fun hg=>?_)) <;> try simp -implicitDefEqProofs only [hg,Bool.not_true,Bool.not_false]) | ((with_reducible apply And.intro);focus (first | trivial | omega | decide | (simp -implicitDefEqProofs only [maxLen];omega) | (simp [maxLen,an,aq,au,aA,ak,ax,av] <;> omega))) | fail)
  ·exact hR _ _ (hK _ _ (bX (by rw [En dn (by simpa using hg)];rfl))).2
  ·refine hN (i+1) _ _ ⟨by omega,fun j hj hji=>?_⟩ (by omega) (bA (by simp [lk]))
   rcases Nat.lt_or_ge j i with h | h
   ·exact hi2 j hj h
   ·obtain rfl:j=i:=by omega
    simpa using hg
 ·have dn:¬ i<(aO l n).length:=fun h=>by have:=qq.2 h;simp at hg;omega
  simp -implicitDefEqProofs only [go_sem,Int.reduceNegSucc]
  refine hX _ _ _ ?_
  repeat' (first | (simp -implicitDefEqProofs only [go_sem,Int.reduceNegSucc]) | (with_reducible refine aB ?_) | ((first | refine aj (fun hg=>?_) (fun hg=>?_) | refine aC (fun hg=>?_) (fun hg=>?_) | refine aD (fun hg=>?_) (fun hg=>?_)) <;> try simp -implicitDefEqProofs only [hg,Bool.not_true,Bool.not_false]) | ((with_reducible apply And.intro);focus (first | trivial | omega | decide | (simp -implicitDefEqProofs only [maxLen];omega) | (simp [maxLen,an,aq,au,aA,ak,ax,av] <;> omega))) | fail)
  exact (hK _ _ (bX (by rw [Eo fun j hj=>hi2 j hj (by omega)];rfl))).2
theorem LN {l:List Nd} {k:Nat} (hk:0<k):eB l k=(!(decide (aQ l k<0) || decide (aQ l k≥k) || !mU l (aQ l k) (k - 1))):=by
 have h1:eB l k=mU l (aQ l k) (k - 1):=by
  have:decide (k=0)=false:=decide_eq_false (by omega)
  simp -implicitDefEqProofs only [eB,this,Bool.false_or,kq,mU,List.findIdx?_isSome]
 rw [h1]
 cases h:mU l (aQ l k) (k - 1) with
 | false=>simp
 | true=>
   rw [← h1] at h
   have cK:¬ k=0:=by omega
   simp [eB,cK] at h
   obtain ⟨a,b,_⟩:=zC h
   simp;omega
theorem Oq (l:List Nd) (hb:l.length≤8589934592):aJ Go.Proofs.Try.prog 31 [.rv (.sl 49 (bg l))] [] [] (.rv (.bool (fH l))):=by
 refine bJ JT [.rv (.sl 49 (bg l))] _ (by simp) (by simp [aN,bl,bz,bf,bq,ai.sv,Ln.sv,Nd.sv]) (fun K hK=>?_)
 have bad:∀ e h,lk e 2 = .rv (.bool false)→fH l=false→K .ret ⟨e,h⟩:=fun e h l2 hf=>(hK _ _ (bX (by rw [l2,hf]))).2
 have hlen:=au l
 conv in fc _ _ _ _=>reduce
 simp -implicitDefEqProofs only [hlen,go_sem,Int.reduceNegSucc]
 by_cases mI:l.length=0
 ·have e0:(((l.length:Nat):Int) == 0)=true:=by simp [mI]
  repeat' (first | (simp -implicitDefEqProofs only [go_sem,Int.reduceNegSucc,e0,hlen]) | (with_reducible refine aB ?_) | ((first | refine aj (fun hg=>?_) (fun hg=>?_) | refine aC (fun hg=>?_) (fun hg=>?_) | refine aD (fun hg=>?_) (fun hg=>?_)) <;> try simp -implicitDefEqProofs only [hg,Bool.not_true,Bool.not_false]) | ((with_reducible apply And.intro);focus (first | trivial | omega | decide | (simp -implicitDefEqProofs only [maxLen];omega) | (simp [maxLen,an,aq,au,aA,ak,ax,av] <;> omega))) | fail)
  exact bad _ _ rfl (by simp [fH,mI])
 ·have e0:(((l.length:Nat):Int) == 0)=false:=by simp [mI]
  have hx0:=fG (l:=l) (i:=0) (by omega)
  have eR:=mb (l:=l) (n:=0) (by omega)
  repeat' (first | (simp -implicitDefEqProofs only [go_sem,Int.reduceNegSucc,e0,hlen,hx0,aq,mP,eR]) | (with_reducible refine aB ?_) | ((first | refine aj (fun hg=>?_) (fun hg=>?_) | refine aC (fun hg=>?_) (fun hg=>?_) | refine aD (fun hg=>?_) (fun hg=>?_)) <;> try simp -implicitDefEqProofs only [hg,Bool.not_true,Bool.not_false]) | ((with_reducible apply And.intro);focus (first | trivial | omega | decide | (simp -implicitDefEqProofs only [maxLen];omega) | (simp [maxLen,an,aq,au,aA,ak,ax,av] <;> omega))) | fail)
  ·exact bad _ _ rfl (by simp [fH];intro _ h;simp at hg;exact absurd h hg)
  ·have sN:aQ l 0 = -1:=by simpa using hg
   refine cN (ι:=Nat) (fun k=>[(3,.rv (.int .i64 k)),(0,.rv (.sl 49 (bg l)))]) (fun _=>[]) (fun k=>0<k∧k≤l.length∧(∀ j,j<k→eB l j=true)) (fun k=>l.length - k) 1 ⟨by omega,by omega,fun j hj=>by simp [eB];omega⟩ (bA (by simp [lk])) (fun k hk K' hN hX hR=>?_)
   obtain ⟨cK,ct,hk2⟩:=hk
   have hw:=Ec sN hk2
   simp -implicitDefEqProofs only [hlen,go_sem,Int.reduceNegSucc]
   refine aj (fun hg=>?_) (fun hg=>?_)
   ·have ay:k<l.length:=by simp at hg;omega
    have hx:=fG ay
    have hpk:=mb ay
    have wd:=rK cK (by omega)
    have wu:=cr (k:=k) (by omega)
    have vr:=LN (l:=l) cK
    have rR:eB l k=false→fH l=false:=fun h=>by
     rw [Bool.eq_false_iff]
     intro ht
     simp -implicitDefEqProofs only [fH,Bool.and_eq_true,List.all_eq_true,List.mem_range] at ht
     have:=ht.2 k ay
     rw [h] at this;cases this
    have nx:∀ e h,eB l k=true→cB 0 ⟨e,h⟩ ⟨[(3,.rv (.int .i64 (k+1:Nat))),(0,.rv (.sl 49 (bg l)))],[]⟩→K' .normal ⟨e,h⟩:=fun e h h1 he=>hN (k+1) _ _ ⟨by omega,by omega,fun j hj=>by
     rcases Nat.lt_or_ge j k with h | h
     ·exact hk2 j h
     ·obtain rfl:j=k:=by omega
      exact h1⟩ (by omega) he
    have hwk:WF l (k - 1+1):=by rw [show k - 1+1=k by omega];exact hw
    have br:=Ol l (aQ l k) (k - 1) hwk (by omega) hb;repeat' (first | (simp -implicitDefEqProofs only [go_sem,Int.reduceNegSucc,hlen,hx,hpk,aq,mP,wd,wu]) | (with_reducible refine aB ?_) | (with_reducible first | refine aF br ?_ | refine aG br ?_) | ((first | refine aj (fun hg=>?_) (fun hg=>?_) | refine aC (fun hg=>?_) (fun hg=>?_) | refine aD (fun hg=>?_) (fun hg=>?_)) <;> try simp -implicitDefEqProofs only [hg,Bool.not_true,Bool.not_false]) | ((with_reducible apply And.intro);focus (first | trivial | omega | decide | (simp -implicitDefEqProofs only [maxLen];omega) | (simp [maxLen,an,aq,au,aA,ak,ax,av] <;> omega))) | fail)
    all_goals first
     | (refine hR _ _ (bad _ _ rfl (rR ?_));rw [vr];clear vr rR nx hK hN hX hR bad;simp_all;done)
     | (refine nx _ _ ?_ (bA (by simp [lk]));rw [vr];clear vr rR nx hK hN hX hR bad;(simp_all) <;> omega)
   ·have ay:k=l.length:=by simp at hg;omega
    subst ay
    simp -implicitDefEqProofs only [go_sem,Int.reduceNegSucc]
    refine hX _ _ _ ?_
    repeat' (first | (simp -implicitDefEqProofs only [go_sem,Int.reduceNegSucc]) | (with_reducible refine aB ?_) | ((first | refine aj (fun hg=>?_) (fun hg=>?_) | refine aC (fun hg=>?_) (fun hg=>?_) | refine aD (fun hg=>?_) (fun hg=>?_)) <;> try simp -implicitDefEqProofs only [hg,Bool.not_true,Bool.not_false]) | ((with_reducible apply And.intro);focus (first | trivial | omega | decide | (simp -implicitDefEqProofs only [maxLen];omega) | (simp [maxLen,an,aq,au,aA,ak,ax,av] <;> omega))) | fail)
    refine (hK _ _ (bX ?_)).2
    have hs:fH l=true:=by
     simp -implicitDefEqProofs only [fH,Bool.and_eq_true,decide_eq_true_eq,List.all_eq_true,List.mem_range]
     exact ⟨⟨by omega,sN⟩,hk2⟩
    rw [hs];rfl
theorem Oo (l:List Nd) (hb:l.length≤8589934592):aJ Go.Proofs.Try.prog 19 [.rv (.sl 49 (bg l))] [] [] (.rv (.bool (cZ l))):=by
 refine bJ JS [.rv (.sl 49 (bg l))] _ (by simp) (by simp [aN,bl,bz,bf,bq,ai.sv,Ln.sv,Nd.sv]) (fun K hK=>?_)
 have bad:∀ e h,lk e 2 = .rv (.bool false)→cZ l=false→K .ret ⟨e,h⟩:=fun e h l2 hf=>(hK _ _ (bX (by rw [l2,hf]))).2
 have hlen:=au l
 conv in fc _ _ _ _=>reduce
 simp -implicitDefEqProofs only [go_sem,Int.reduceNegSucc]
 have y_2:=Oq l hb;repeat' (first | (simp -implicitDefEqProofs only [go_sem,Int.reduceNegSucc]) | (with_reducible refine aB ?_) | (with_reducible first | refine aF y_2 ?_ | refine aG y_2 ?_) | ((first | refine aj (fun hg=>?_) (fun hg=>?_) | refine aC (fun hg=>?_) (fun hg=>?_) | refine aD (fun hg=>?_) (fun hg=>?_)) <;> try simp -implicitDefEqProofs only [hg,Bool.not_true,Bool.not_false]) | ((with_reducible apply And.intro);focus (first | trivial | omega | decide | (simp -implicitDefEqProofs only [maxLen];omega) | (simp [maxLen,an,aq,au,aA,ak,ax,av] <;> omega))) | fail)
 ·exact bad _ _ rfl (by simp at hg;simp [cZ,hg])
 ·have hs:fH l=true:=by simpa using hg
  simp -implicitDefEqProofs only [hlen,go_sem,Int.reduceNegSucc]
  refine cN (ι:=Nat) (fun k=>[(9,.rv (.int .i64 k)),(8,.rv (.int .i64 l.length)),(0,.rv (.sl 49 (bg l)))]) (fun _=>[]) (fun k=>k≤l.length∧((l.drop k).all fun x=>eL x.s)=l.all fun x=>eL x.s) (fun k=>l.length - k) 0 (by simp) (bA (by simp [lk])) (fun k hk K' hN hX hR=>?_)
  obtain ⟨ct,cT⟩:=hk
  simp -implicitDefEqProofs only [go_sem,Int.reduceNegSucc]
  refine aj (fun hg=>?_) (fun hg=>?_)
  ·have ay:k<l.length:=by simp at hg;omega
   have hx:=fG ay
   have wu:=cr (k:=k) (by omega)
   have bP:=Oj (l[k]'ay).s;repeat' (first | (simp -implicitDefEqProofs only [go_sem,Int.reduceNegSucc,hlen,hx,aq,mP,tn,wu]) | (with_reducible refine aB ?_) | (with_reducible first | refine aF bP ?_ | refine aG bP ?_) | ((first | refine aj (fun hg=>?_) (fun hg=>?_) | refine aC (fun hg=>?_) (fun hg=>?_) | refine aD (fun hg=>?_) (fun hg=>?_)) <;> try simp -implicitDefEqProofs only [hg,Bool.not_true,Bool.not_false]) | ((with_reducible apply And.intro);focus (first | trivial | omega | decide | (simp -implicitDefEqProofs only [maxLen];omega) | (simp [maxLen,an,aq,au,aA,ak,ax,av] <;> omega))) | fail)
   ·refine hR _ _ (bad _ _ rfl ?_)
    have:(l.all fun x=>eL x.s)=false:=mX ay cT (by simpa using hg)
    simp -implicitDefEqProofs only [cZ,this,Bool.and_false]
   ·exact hN (k+1) _ _ ⟨by omega,mY ay cT (by simpa using hg)⟩ (by omega) (bA (by simp [lk]))
  ·have ay:k=l.length:=by simp at hg;omega
   subst ay
   have hall:=mW (Nat.le_refl _) cT
   simp -implicitDefEqProofs only [go_sem,Int.reduceNegSucc]
   refine hX _ _ _ ?_
   repeat' (first | (simp -implicitDefEqProofs only [go_sem,Int.reduceNegSucc]) | (with_reducible refine aB ?_) | ((first | refine aj (fun hg=>?_) (fun hg=>?_) | refine aC (fun hg=>?_) (fun hg=>?_) | refine aD (fun hg=>?_) (fun hg=>?_)) <;> try simp -implicitDefEqProofs only [hg,Bool.not_true,Bool.not_false]) | ((with_reducible apply And.intro);focus (first | trivial | omega | decide | (simp -implicitDefEqProofs only [maxLen];omega) | (simp [maxLen,an,aq,au,aA,ak,ax,av] <;> omega))) | fail)
   exact (hK _ _ (bX (by rw [cZ,hs,hall];rfl))).2
theorem On (l:List Nd) (n:Nat) (hw:WF l (n+1)) (hn:n<l.length) (hb:l.length≤8589934592) :
 aJ Go.Proofs.Try.prog 21 [.rv (.sl 49 (bg l)),.rv (.int .i64 n)] [] [] (.rv (.int .i64 (depth l n))):=by
 refine bJ JR [.rv (.sl 49 (bg l)),.rv (.int .i64 n)] _ (by simp) (by simp [aN,bl,bz,bf,bq,ai.sv,Ln.sv,Nd.sv]) (fun K hK=>?_)
 have hlen:=au l
 conv in fc _ _ _ _=>reduce
 simp -implicitDefEqProofs only [go_sem,Int.reduceNegSucc]
 refine cN (ι:=Nat) (fun i=>[(1,.rv (.int .i64 (fu (aO l n) i))),(0,.rv (.sl 49 (bg l))),(5,.rv (.int .i64 i))]) (fun _=>[]) (fun i=>i≤(aO l n).length) (fun i=>(aO l n).length - i) 0 (by simp) (by rw [uj];exact bA (by simp [lk])) (fun i hi1 K' hN hX hR=>?_)
 have dr:=ri (l:=l) n
 simp -implicitDefEqProofs only [go_sem,Int.reduceNegSucc]
 refine aj (fun hg=>?_) (fun hg=>?_)
 ·have dn:i<(aO l n).length:=qq.1 (by simpa using hg)
  have lF:=uh dn
  have hlt:(aO l n)[i]<n+1:=yX (by omega) dn
  have hx:=fG (l:=l) (i:=(aO l n)[i]) (by omega)
  have hpar:=mb (l:=l) (n:=(aO l n)[i]) (by omega)
  have nD:=yU hw n (by omega) i dn
  have wu:=cr (k:=i) (by omega)
  repeat' (first | (simp -implicitDefEqProofs only [go_sem,Int.reduceNegSucc,hlen,aq,mP,lF,hx,hpar,nD,wu]) | (with_reducible refine aB ?_) | ((first | refine aj (fun hg=>?_) (fun hg=>?_) | refine aC (fun hg=>?_) (fun hg=>?_) | refine aD (fun hg=>?_) (fun hg=>?_)) <;> try simp -implicitDefEqProofs only [hg,Bool.not_true,Bool.not_false]) | ((with_reducible apply And.intro);focus (first | trivial | omega | decide | (simp -implicitDefEqProofs only [maxLen];omega) | (simp [maxLen,an,aq,au,aA,ak,ax,av] <;> omega))) | fail)
  exact hN (i+1) _ _ (by omega) (by omega) (bA (by simp [lk]))
 ·have dn:¬ i<(aO l n).length:=fun h=>by have:=qq.2 h;simp at hg;omega
  have:i=(aO l n).length:=by omega
  subst this
  simp -implicitDefEqProofs only [go_sem,Int.reduceNegSucc]
  refine hX _ _ _ ?_
  repeat' (first | (simp -implicitDefEqProofs only [go_sem,Int.reduceNegSucc]) | (with_reducible refine aB ?_) | ((first | refine aj (fun hg=>?_) (fun hg=>?_) | refine aC (fun hg=>?_) (fun hg=>?_) | refine aD (fun hg=>?_) (fun hg=>?_)) <;> try simp -implicitDefEqProofs only [hg,Bool.not_true,Bool.not_false]) | ((with_reducible apply And.intro);focus (first | trivial | omega | decide | (simp -implicitDefEqProofs only [maxLen];omega) | (simp [maxLen,an,aq,au,aA,ak,ax,av] <;> omega))) | fail)
  exact (hK _ _ (bX rfl)).2
theorem Om (l:List Nd) (hb:l.length≤8589934592):aJ Go.Proofs.Try.prog 8 [.rv (.sl 49 (bg l))] [] [] (.rv (.int .i64 (fA l))):=by
 refine bJ JQ [.rv (.sl 49 (bg l))] _ (by simp) (by simp [aN,bl,bz,bf,bq,ai.sv,Ln.sv,Nd.sv]) (fun K hK=>?_)
 have hlen:=au l
 conv in fc _ _ _ _=>reduce
 simp -implicitDefEqProofs only [go_sem,Int.reduceNegSucc]
 have bV:=Oo l hb;repeat' (first | (simp -implicitDefEqProofs only [go_sem,Int.reduceNegSucc]) | (with_reducible refine aB ?_) | (with_reducible first | refine aF bV ?_ | refine aG bV ?_) | ((first | refine aj (fun hg=>?_) (fun hg=>?_) | refine aC (fun hg=>?_) (fun hg=>?_) | refine aD (fun hg=>?_) (fun hg=>?_)) <;> try simp -implicitDefEqProofs only [hg,Bool.not_true,Bool.not_false]) | ((with_reducible apply And.intro);focus (first | trivial | omega | decide | (simp -implicitDefEqProofs only [maxLen];omega) | (simp [maxLen,an,aq,au,aA,ak,ax,av] <;> omega))) | fail)
 ·exact (hK _ _ (bX (by simp at hg;simp [fA,hg,lk]))).2
 ·have ht:cZ l=true:=by simpa using hg
  have hs:dJ l:=tG.1 (by unfold cZ at ht;simp -implicitDefEqProofs only [Bool.and_eq_true] at ht;exact ht.1)
  simp -implicitDefEqProofs only [hlen,go_sem,Int.reduceNegSucc]
  refine cN (ι:=Nat) (fun k=>[(9,.rv (.int .i64 k)),(8,.rv (.int .i64 l.length)),(0,.rv (.sl 49 (bg l)))]) (fun _=>[]) (fun k=>k≤l.length∧∀ j,(h:j<l.length)→j<k→fI (l[j]'h).s=true∧depth l j≤256) (fun k=>l.length - k) 0 (by simp) (bA (by simp [lk])) (fun k hk K' hN hX hR=>?_)
  obtain ⟨ct,cT⟩:=hk
  simp -implicitDefEqProofs only [go_sem,Int.reduceNegSucc]
  refine aj (fun hg=>?_) (fun hg=>?_)
  ·have ay:k<l.length:=by simp at hg;omega
   have hx:=fG ay
   have wu:=cr (k:=k) (by omega)
   have bad:∀ e h,lk e 2 = .rv (.int .i64 3)→(fI (l[k]'ay).s=false∨depth l k>256)→K' .ret ⟨e,h⟩:=fun e h l2 hf=>hR _ _ (hK _ _ (bX (by
    rw [l2];unfold fA
    rw [if_neg (by rw [ht];simp),if_pos]
    simp -implicitDefEqProofs only [Bool.or_eq_true,List.any_eq_true,List.mem_range,decide_eq_true_eq,Bool.not_eq_true']
    rcases hf with h | h
    ·exact .inr ⟨_,List.getElem_mem ay,h⟩
    ·exact .inl (.inr ⟨k,ay,h⟩)))).2
   have nx:∀ e h,fI (l[k]'ay).s=true→depth l k≤256→cB 0 ⟨e,h⟩ ⟨[(9,.rv (.int .i64 (k+1:Nat))),(8,.rv (.int .i64 l.length)),(0,.rv (.sl 49 (bg l)))],[]⟩→K' .normal ⟨e,h⟩:=fun e h h1 h2 he=>hN (k+1) _ _ ⟨by omega,fun j hj hji=>by
    rcases Nat.lt_or_ge j k with h | h
    ·exact cT j hj h
    ·obtain rfl:j=k:=by omega
     exact ⟨h1,h2⟩⟩ (by omega) he
   have cq:=Ok (l[k]'ay).s;have cg:=On l k (hs.wf.mono (by omega)) ay hb;repeat' (first | (simp -implicitDefEqProofs only [go_sem,Int.reduceNegSucc,hlen,hx,aq,mP,tn,wu]) | (with_reducible refine aB ?_) | (with_reducible first | refine aF cq ?_ | refine aG cq ?_) | (with_reducible first | refine aF cg ?_ | refine aG cg ?_) | ((first | refine aj (fun hg=>?_) (fun hg=>?_) | refine aC (fun hg=>?_) (fun hg=>?_) | refine aD (fun hg=>?_) (fun hg=>?_)) <;> try simp -implicitDefEqProofs only [hg,Bool.not_true,Bool.not_false]) | ((with_reducible apply And.intro);focus (first | trivial | omega | decide | (simp -implicitDefEqProofs only [maxLen];omega) | (simp [maxLen,an,aq,au,aA,ak,ax,av] <;> omega))) | fail)
   all_goals first
    | (refine bad _ _ rfl ?_;clear bad nx hK hN hX hR;(simp_all) <;> omega)
    | (refine nx _ _ ?_ ?_ (bA (by simp [lk])) <;> clear bad nx hK hN hX hR <;>(simp_all) <;> omega)
  ·have ay:k=l.length:=by simp at hg;omega
   subst ay
   simp -implicitDefEqProofs only [go_sem,Int.reduceNegSucc]
   refine hX _ _ _ ?_
   have hno:((List.range l.length).any (fun k=>decide (depth l k>256)) || l.any fun x=>!fI x.s)=false:=by
    rw [Bool.or_eq_false_iff,List.any_eq_false,List.any_eq_false]
    refine ⟨fun k hk=>?_,fun x hx=>?_⟩
    ·have:=(cT k (by simpa using hk) (by simpa using hk)).2;simp;omega
    ·obtain ⟨j,hj,rfl⟩:=List.getElem_of_mem hx
     simp [(cT j hj hj).1]
   have fin:fA l=if (l.length:Int)>65535 then 3 else 0:=by
    unfold fA
    rw [if_neg (by rw [ht];simp),Bool.or_assoc,hno]
    by_cases h:l.length>65535
    ·have:(l.length:Int)>65535:=by omega
     simp [h,this]
    ·have:¬ (l.length:Int)>65535:=by omega
     simp [h,this]
   repeat' (first | (simp -implicitDefEqProofs only [go_sem,Int.reduceNegSucc,hlen]) | (with_reducible refine aB ?_) | ((first | refine aj (fun hg=>?_) (fun hg=>?_) | refine aC (fun hg=>?_) (fun hg=>?_) | refine aD (fun hg=>?_) (fun hg=>?_)) <;> try simp -implicitDefEqProofs only [hg,Bool.not_true,Bool.not_false]) | ((with_reducible apply And.intro);focus (first | trivial | omega | decide | (simp -implicitDefEqProofs only [maxLen];omega) | (simp [maxLen,an,aq,au,aA,ak,ax,av] <;> omega))) | fail)
   all_goals (refine (hK _ _ (bX ?_)).2;rw [fin];clear fin hK hN hX hR;(simp_all [lk]) <;> omega)
end Go.aH

namespace Go.aH
open Go
theorem BX:aV Go.Proofs.Try.prog 23 8 (fc Go.Proofs.Try.prog 23 8 [(.t 2)]) [(.t 2)]:=bn (by kernel_rfl)
theorem BY:aV Go.Proofs.Try.prog 89 8 (fc Go.Proofs.Try.prog 89 8 [(.t 2)]) [(.t 2)]:=bn (by kernel_rfl)
theorem Ds (xs:List (List RV)) (m:Nat) (hb:xs.length≤8589934592):aJ Go.Proofs.Try.prog 23 [.rv (.sl 49 xs)] [] [(m,.row 49 1 (aI xs))] (.row m 1 xs.length):=by
 have nz:∀ r:RV,(r = .jU∧xs=[])∨(r = .sl 49 xs∧0<xs.length)→aJ Go.Proofs.Try.prog 23 [.rv r] [] [(m,.row 49 1 (aI xs))] (.row m 1 xs.length):=fun r hr=>by
  refine kC BX [] [] [] [.rv r] [.rv r] _ _ (by simp) (by simp [aN,fW,fL,bf,bl,lg,bq,lp,lf,de,kV,bK]) rfl (by simp [bK]) (by simp [de]) (fun K hK=>?_)
  conv in fc _ _ _ _=>reduce
  simp -implicitDefEqProofs only [go_sem,Int.reduceNegSucc]
  rcases hr with ⟨rfl,rfl⟩ | ⟨rfl,h0⟩
  ·repeat' (first | (simp -implicitDefEqProofs only [go_sem,Int.reduceNegSucc]) | (with_reducible refine aB ?_) | ((first | refine aj (fun hg=>?_) (fun hg=>?_) | refine aC (fun hg=>?_) (fun hg=>?_) | refine aD (fun hg=>?_) (fun hg=>?_)) <;> try simp -implicitDefEqProofs only [hg,Bool.not_true,Bool.not_false]) | ((with_reducible apply And.intro);focus (first | trivial | omega | decide | (simp -implicitDefEqProofs only [maxLen];omega) | (simp [maxLen,an,aq,au,aA,ak,ax,av] <;> omega))) | fail)
   refine (hK _ _ _ _ [some m] (dg _ _) ?_).2
   simp [dx,bK,newL,dD,dh,bD,bw,lk,bL,cG,cQ,cJ,dS,dR,ag,dy,bN,aR,cV,dz,ek,aZ,eg,aP,cW,cL]
   exact ⟨by simp [aI],fun i x y hx=>by simp at hx⟩
  ·repeat' (first | (simp -implicitDefEqProofs only [go_sem,Int.reduceNegSucc,zl]) | (with_reducible refine aB ?_) | ((first | refine aj (fun hg=>?_) (fun hg=>?_) | refine aC (fun hg=>?_) (fun hg=>?_) | refine aD (fun hg=>?_) (fun hg=>?_)) <;> try simp -implicitDefEqProofs only [hg,Bool.not_true,Bool.not_false]) | ((with_reducible apply And.intro);focus (first | trivial | omega | decide | (simp -implicitDefEqProofs only [maxLen];omega) | (simp [maxLen,an,aq,au,aA,ak,ax,av] <;> omega))) | fail)
   refine (hK _ _ _ _ [some m] (dg _ _) ?_).2
   simp [dx,bK,newL,dD,dh,bD,bw,lk,bL,cG,cQ,cJ,dS,dR,ag,dy,bN,aR,cV,dz,ek,aZ,eg,aP,cW,cL]
 by_cases h0:xs=[]
 ·subst h0
  refine @zV _ _ _ [] [] _ _ _ ?_ (nz _ (.inl ⟨rfl,rfl⟩))
  show aJ _ _ [.rv .bS] _ _ _
  refine kC BX [] [] [] [.rv .bS] [.rv .bS] _ _ (by simp) (by simp [aN,fW,fL,bf,bl,lg,bq,lp,lf,de,kV,bK]) rfl (by simp [bK]) (by simp [de]) (fun K hK=>?_)
  conv in fc _ _ _ _=>reduce
  simp -implicitDefEqProofs only [go_sem,Int.reduceNegSucc]
  repeat' (first | (simp -implicitDefEqProofs only [go_sem,Int.reduceNegSucc]) | (with_reducible refine aB ?_) | ((first | refine aj (fun hg=>?_) (fun hg=>?_) | refine aC (fun hg=>?_) (fun hg=>?_) | refine aD (fun hg=>?_) (fun hg=>?_)) <;> try simp -implicitDefEqProofs only [hg,Bool.not_true,Bool.not_false]) | ((with_reducible apply And.intro);focus (first | trivial | omega | decide | (simp -implicitDefEqProofs only [maxLen];omega) | (simp [maxLen,an,aq,au,aA,ak,ax,av] <;> omega))) | fail)
  refine (hK _ _ _ _ [some m] (si 2 49 1 rfl) ?_).2
  simp [dx,bK,newL,dD,dh,bD,bw,lk,bL,cG,cQ,cJ,dS,dR,ag,dy,bN,aR,cV,dz,ek,aZ,eg,aP,cW,cL]
  exact ⟨by simp [aI],fun i x y hx=>by simp at hx⟩
 ·exact nz _ (.inr ⟨rfl,List.length_pos_iff.2 h0⟩)
theorem Nx (xs:List (List RV)) (m:Nat) (hb:xs.length≤8589934592):aJ Go.Proofs.Try.prog 89 [.rv (.sl 1 xs)] [] [(m,.row 1 1 (aI xs))] (.row m 1 xs.length):=by
 have nz:∀ r:RV,(r = .jU∧xs=[])∨(r = .sl 1 xs∧0<xs.length)→aJ Go.Proofs.Try.prog 89 [.rv r] [] [(m,.row 1 1 (aI xs))] (.row m 1 xs.length):=fun r hr=>by
  refine kC BY [] [] [] [.rv r] [.rv r] _ _ (by simp) (by simp [aN,fW,fL,bf,bl,lg,bq,lp,lf,de,kV,bK]) rfl (by simp [bK]) (by simp [de]) (fun K hK=>?_)
  conv in fc _ _ _ _=>reduce
  simp -implicitDefEqProofs only [go_sem,Int.reduceNegSucc]
  rcases hr with ⟨rfl,rfl⟩ | ⟨rfl,h0⟩
  ·repeat' (first | (simp -implicitDefEqProofs only [go_sem,Int.reduceNegSucc]) | (with_reducible refine aB ?_) | ((first | refine aj (fun hg=>?_) (fun hg=>?_) | refine aC (fun hg=>?_) (fun hg=>?_) | refine aD (fun hg=>?_) (fun hg=>?_)) <;> try simp -implicitDefEqProofs only [hg,Bool.not_true,Bool.not_false]) | ((with_reducible apply And.intro);focus (first | trivial | omega | decide | (simp -implicitDefEqProofs only [maxLen];omega) | (simp [maxLen,an,aq,au,aA,ak,ax,av] <;> omega))) | fail)
   refine (hK _ _ _ _ [some m] (dg _ _) ?_).2
   simp [dx,bK,newL,dD,dh,bD,bw,lk,bL,cG,cQ,cJ,dS,dR,ag,dy,bN,aR,cV,dz,ek,aZ,eg,aP,cW,cL]
   exact ⟨by simp [aI],fun i x y hx=>by simp at hx⟩
  ·repeat' (first | (simp -implicitDefEqProofs only [go_sem,Int.reduceNegSucc,zl]) | (with_reducible refine aB ?_) | ((first | refine aj (fun hg=>?_) (fun hg=>?_) | refine aC (fun hg=>?_) (fun hg=>?_) | refine aD (fun hg=>?_) (fun hg=>?_)) <;> try simp -implicitDefEqProofs only [hg,Bool.not_true,Bool.not_false]) | ((with_reducible apply And.intro);focus (first | trivial | omega | decide | (simp -implicitDefEqProofs only [maxLen];omega) | (simp [maxLen,an,aq,au,aA,ak,ax,av] <;> omega))) | fail)
   refine (hK _ _ _ _ [some m] (dg _ _) ?_).2
   simp [dx,bK,newL,dD,dh,bD,bw,lk,bL,cG,cQ,cJ,dS,dR,ag,dy,bN,aR,cV,dz,ek,aZ,eg,aP,cW,cL]
 by_cases h0:xs=[]
 ·subst h0
  refine @zV _ _ _ [] [] _ _ _ ?_ (nz _ (.inl ⟨rfl,rfl⟩))
  show aJ _ _ [.rv .bS] _ _ _
  refine kC BY [] [] [] [.rv .bS] [.rv .bS] _ _ (by simp) (by simp [aN,fW,fL,bf,bl,lg,bq,lp,lf,de,kV,bK]) rfl (by simp [bK]) (by simp [de]) (fun K hK=>?_)
  conv in fc _ _ _ _=>reduce
  simp -implicitDefEqProofs only [go_sem,Int.reduceNegSucc]
  repeat' (first | (simp -implicitDefEqProofs only [go_sem,Int.reduceNegSucc]) | (with_reducible refine aB ?_) | ((first | refine aj (fun hg=>?_) (fun hg=>?_) | refine aC (fun hg=>?_) (fun hg=>?_) | refine aD (fun hg=>?_) (fun hg=>?_)) <;> try simp -implicitDefEqProofs only [hg,Bool.not_true,Bool.not_false]) | ((with_reducible apply And.intro);focus (first | trivial | omega | decide | (simp -implicitDefEqProofs only [maxLen];omega) | (simp [maxLen,an,aq,au,aA,ak,ax,av] <;> omega))) | fail)
  refine (hK _ _ _ _ [some m] (si 2 1 1 rfl) ?_).2
  simp [dx,bK,newL,dD,dh,bD,bw,lk,bL,cG,cQ,cJ,dS,dR,ag,dy,bN,aR,cV,dz,ek,aZ,eg,aP,cW,cL]
  exact ⟨by simp [aI],fun i x y hx=>by simp at hx⟩
 ·exact nz _ (.inr ⟨rfl,List.length_pos_iff.2 h0⟩)
end Go.aH

namespace Go.aH
open Go
theorem BW:aV Go.Proofs.Try.prog 9 157 (fc Go.Proofs.Try.prog 9 157 [(.t 2),(.t 3)]) [(.t 2),(.t 3)]:=bn (by kernel_rfl)
def bt (l:List Nat):List Int:=l.map fun (n:Nat)=>(n:Int)
def ez (bs:List Bool):List (List RV):=bs.map fun b=>[.bool b]
theorem uv (bs:List Bool):(ez bs).length=bs.length:=by simp [ez]
theorem qv {bs:List Bool} {i:Nat} (h:i<bs.length):(ez bs)[i]?.getD []=[.bool (bs.getD i false)]:=by simp [ez,h]
theorem rA {ys:List Bool} {k:Nat} {v:Bool}:(aI (ez ys)).set k [.rv (.bool v)]=aI (ez (ys.set k v)):=by simp [aI,ez,List.map_set]
theorem Dk {n:Nat}:List.replicate n [U.rv (.bool false)]=aI (ez (List.replicate n false)):=by simp [aI,ez]
theorem zQ (l:List Bool):∀ x∈ez l,∀ r∈x,r.one=true:=by
 intro x hx r hr
 obtain ⟨n,_,rfl⟩:=List.mem_map.1 hx
 simp at hr;rw [hr];rfl
def cn (l:List Nd) (k:Nat):List Bool:=(List.range l.length).map fun j=>if j<k then kP l j else false
theorem Ct (l:List Nd) (k:Nat):(cn l k).length=l.length:=by simp [cn]
theorem Cu (l:List Nd):cn l 0=List.replicate l.length false:=by
 refine List.ext_getElem (by simp [cn]) (fun i h1 h2=>?_)
 simp [cn]
theorem vI {l:List Nd} {k:Nat} (hk:k<l.length):(cn l k).set k (kP l k)=cn l (k+1):=by
 refine List.ext_getElem (by simp [cn]) (fun i h1 h2=>?_)
 simp -implicitDefEqProofs only [List.getElem_set,cn,List.getElem_map,List.getElem_range]
 by_cases h:k=i
 ·subst h;simp
 ·rw [if_neg h]
  by_cases hi:i<k
  ·rw [if_pos hi,if_pos (by omega)]
  ·rw [if_neg hi,if_neg (by omega)]
theorem Cs {l:List Nd} {k j:Nat} {b:Bool} (hj:j<k) (hl:j<l.length):((cn l k).set k b).getD j false=kP l j:=by
 rw [List.getD_eq_getElem?_getD,List.getElem?_set_ne (by omega)]
 simp [cn,hl,hj]
def dU (l:List Nd) (k:Nat):List (List U):=(List.range l.length).map fun p=>[.row (p+6) (aS l k p).length (aS l k p).length]
def dM (l:List Nd) (k:Nat):List (Option HB):=(List.range l.length).map fun p=>some (.row 1 (aS l k p).length (aI (aK (bt (aS l k p)))))
theorem sZ (l:List Nd) (k:Nat):(dU l k).length=l.length:=by simp [dU]
theorem kL (l:List Nd) (k:Nat):(dM l k).length=l.length:=by simp [dM]
theorem BR {l:List Nd} {k p:Nat} (hp:p<l.length):(dU l k)[p]?.getD []=[.row (p+6) (aS l k p).length (aS l k p).length]:=by simp [dU,hp]
theorem yD {l:List Nd} {k p:Nat} {C:List (Option HB)} (hp:p<l.length):ag (dM l k++C) p=some (.row 1 (aS l k p).length (aI (aK (bt (aS l k p))))):=by
 unfold ag
 rw [List.getElem?_append_left (by rw [kL];exact hp)]
 simp [dM,hp]
theorem yB {l:List Nd} {k:Nat} {x:Option HB} {C:List (Option HB)}:ag (dM l k++x::C) l.length=x:=by
 unfold ag
 rw [List.getElem?_append_right (by rw [kL];exact Nat.le_refl _),kL]
 simp
theorem BN {l:List Nd} {k:Nat} {x y:Option HB} {C:List (Option HB)}:ag (dM l k++x::y::C) (l.length+1)=y:=by
 unfold ag
 rw [List.getElem?_append_right (by rw [kL];omega),kL,show l.length+1 - l.length=1 by omega]
 simp
theorem BP {l:List Nd} {k p:Nat} {hb:Option HB} {x y:Option HB} {C:List (Option HB)}:ag ((dM l k).set p hb++x::C) l.length=x:=by
 unfold ag
 rw [List.getElem?_append_right (by rw [List.length_set,kL];exact Nat.le_refl _),List.length_set,kL]
 simp
theorem yF {l:List Nd} {k:Nat} {x y:Option HB} {C:List (Option HB)}:(dM l k++x::C).set l.length y=dM l k++y::C:=by
 rw [List.set_append_right _ _ (by rw [kL];exact Nat.le_refl _),kL,Nat.sub_self];rfl
theorem Jv {l:List Nd} {k p:Nat} {y:Option HB} {C:List (Option HB)} (hp:p<l.length):(dM l k++C).set p y=(dM l k).set p y++C:=by
 rw [List.set_append_left _ _ (by rw [kL];exact hp)]
theorem Jx (l:List Nd):dM l 0=dP l.length 1:=by
 refine List.ext_getElem (by simp [dM,dP]) (fun i h1 h2=>?_)
 simp [dM,dP,td,bt,aK,aI]
theorem BT (l:List Nd):dU l 0=dj 6 l.length l.length:=by
 refine List.ext_getElem (by simp [dU,dj]) (fun i h1 h2=>?_)
 simp [dU] at h1
 simp [dU,dj,td,h1];omega
theorem Jt {l:List Nd} {k p:Nat} (h0:0<k) (hp:aQ l k=p) (hl:p<l.length) :
 (dM l k).set p (some (.row 1 ((aS l k p).length+1) (aI (aK (bt (aS l k p)++[(k:Int)])))))=dM l (k+1):=by
 refine List.ext_getElem (by simp [dM]) (fun i h1 h2=>?_)
 simp -implicitDefEqProofs only [List.getElem_set,dM,List.getElem_map,List.getElem_range,tc]
 by_cases h:p=i
 ·subst h;simp [h0,hp,bt]
 ·rw [if_neg h,if_neg (by rw [hp];omega)];simp
theorem JB {l:List Nd} {k p:Nat} (h0:0<k) (hp:aQ l k=p) (hl:p<l.length) :
 (dU l k).set p [.row (p+6) ((aS l k p).length+1) ((aS l k p).length+1)]=dU l (k+1):=by
 refine List.ext_getElem (by simp [dU]) (fun i h1 h2=>?_)
 simp -implicitDefEqProofs only [List.getElem_set,dU,List.getElem_map,List.getElem_range,tc]
 by_cases h:p=i
 ·subst h;simp [h0,hp]
 ·rw [if_neg h,if_neg (by rw [hp];omega)];simp
theorem Jr (l:List Nd):dM l 1=dM l 0:=by
 refine List.ext_getElem (by simp [dM]) (fun i h1 h2=>?_)
 simp [dM,aS,List.range_succ]
theorem Jz (l:List Nd):dU l 1=dU l 0:=by
 refine List.ext_getElem (by simp [dU]) (fun i h1 h2=>?_)
 simp [dU,aS,List.range_succ]
def fZ (l:List Nd):List (List RV):=(List.range l.length).map fun p=>[.sl 1 (aK (bt (dw l p)))]
def pF (l:List Nd):List Int:=(List.range l.length).map fun n=>(cX l n:Int)
abbrev bZ (l:List Nd):RV:=.rop [.sl 49 (bg l),.sl 1 (fZ l),.sl 1 (aK (pF l)),.sl 1 (aK (bG l l.length)),.sl 1 (ez (cn l l.length))]
def oy (l:List Nd) (k:Nat) (es ds:List Int) (bs:List Bool):List (Option HB):=some (.row 49 1 (aI (bg l)))::some (.row 1 0 (dU l k))::some (.row 1 0 (aI (aK es)))::some (.row 1 0 (aI (aK ds)))::some (.row 1 0 (aI (ez bs)))::some (.var [.row 0 1 l.length,.row 1 0 l.length,.row 2 0 l.length,.row 3 0 l.length,.row 4 0 l.length])::dM l k
theorem BM {l:List Nd} {k:Nat} {es ds:List Int} {bs:List Bool}:(oy l k es ds bs).length=l.length+6:=by simp [oy,kL]
theorem Jp {l:List Nd} {k:Nat} {es ds:List Int} {bs:List Bool}:kr (mT (l.length+6)) (oy l k es ds bs):=by
 refine ⟨fM,fun i x hx=>?_,fM,fM,fM,by simp [mT,ku,lz],kr.of fun j x hx=>?_⟩
 ·obtain ⟨hl,rfl⟩:=List.getElem?_eq_some_iff.1 hx
  simp [sZ] at hl
  simp [dU,ku,lz,hl]
 ·obtain ⟨hl,rfl⟩:=List.getElem?_eq_some_iff.1 hx
  exact ⟨.row 1 (aS l k j).length (aI (aK (bt (aS l k j)))),by simp [dM],fM⟩
theorem yz {l:List Nd} {k:Nat} {es ds:List Int} {bs:List Bool} {env env':List (Nat×U)} {C:List (Option HB)} (he:fU (l.length+6) env env'):cB 0 ⟨env,oy l k es ds bs++C⟩ ⟨env',oy l k es ds bs⟩:=
 sj (Nat.zero_le _) (by rw [BM];exact Jp) (by rw [BM];exact he)
def cP (l:List Nd) (k:Nat):List Int:=(List.range l.length).map fun j=>if k≤j then (cX l j:Int) else 0
theorem Aq (l:List Nd) (k:Nat):(cP l k).length=l.length:=by simp [cP]
theorem As (l:List Nd):cP l l.length=List.replicate l.length 0:=by
 refine List.ext_getElem (by simp [cP]) (fun i h1 h2=>?_)
 simp [cP] at h1
 simp [cP];omega
theorem At (l:List Nd):cP l 0=pF l:=by simp [cP,pF]
theorem Ar {l:List Nd} {k:Nat} (hk:0<k) (hl:k≤l.length):(cP l k).set (k - 1) (cX l (k - 1))=cP l (k - 1):=by
 refine List.ext_getElem (by simp [cP]) (fun i h1 h2=>?_)
 simp -implicitDefEqProofs only [List.getElem_set,cP,List.getElem_map,List.getElem_range]
 by_cases h:k - 1=i
 ·subst h;simp
 ·rw [if_neg h]
  by_cases hi:k≤i
  ·rw [if_pos hi,if_pos (by omega)]
  ·rw [if_neg hi,if_neg (by omega)]
theorem Ap {l:List Nd} {k j:Nat} {v:Int} (hj:k≤j) (hk:0<k) (hl:j<l.length):((cP l k).set (k - 1) v).getD j 0=cX l j:=by
 rw [List.getD_eq_getElem?_getD,List.getElem?_set_ne (by omega)]
 simp [cP,hl,hj]
theorem lE {τ:Nat→Option Nat} {h:Hp} {j e af len:Nat} {xs:List (List RV)} (hj:h j=some (.row e af (aI xs))) (fY:τ j=none) (hl:len=xs.length) (h1:∀ x∈xs,∀ r∈x,r.one=true):Fz τ h (.row j af len) (.sl e xs):=by
 have:=pH (τ:=τ) hj fY (len:=len) (by omega) h1
 rw [hl,List.take_length] at this
 rw [hl];exact this
theorem KX (l:List Nd):Fz (fun _=>none) (ag (oy l l.length (pF l) (bG l l.length) (cn l l.length))) (.ptr 5 0) (bZ l):=by
 refine .ptr 5 [.row 0 1 l.length,.row 1 0 l.length,.row 2 0 l.length,.row 3 0 l.length,.row 4 0 l.length] _ rfl rfl rfl (fun i r hr=>?_) (fun i x r hx hr=>?_)
 ·match i with
  | 0=>cases hr;rfl
  | 1=>cases hr;rfl
  | 2=>cases hr;rfl
  | 3=>cases hr;rfl
  | 4=>cases hr;rfl
  | i+5=>simp at hr
 ·match i with
  | 0=>cases hx;cases hr;exact lE rfl rfl (by simp [bg]) (vN l)
  | 1=>
    cases hx;cases hr
    refine .row 1 1 0 l.length (dU l l.length) (fZ l) rfl rfl (by simp [fZ]) (by rw [sZ];exact Nat.le_refl _) (fun i x r hx hr=>?_) (fun i r k q hr hq=>?_) (fun i x r k y q hx hr hy hq=>?_)
    ·obtain ⟨_,rfl⟩:=List.getElem?_eq_some_iff.1 hx
     obtain ⟨_,rfl⟩:=List.getElem?_eq_some_iff.1 hr
     simp [dU,fZ]
    ·obtain ⟨_,rfl⟩:=List.getElem?_eq_some_iff.1 hr
     have:=List.mem_of_getElem? hq
     simp [fZ] at this
     rw [this];rfl
    ·obtain ⟨hl,rfl⟩:=List.getElem?_eq_some_iff.1 hx
     obtain ⟨_,rfl⟩:=List.getElem?_eq_some_iff.1 hr
     rw [sZ] at hl
     cases k with
     | succ k=>simp [dU] at hy
     | zero=>
       simp [dU] at hy
       simp [fZ] at hq
       subst hy;subst hq
       refine lE (xs:=aK (bt (dw l i))) ?_ rfl (by simp [aK,bt,dw]) (lQ _)
       have:=yD (k:=l.length) (C:=[]) hl
       rw [List.append_nil] at this
       exact this
  | 2=>cases hx;cases hr;exact lE rfl rfl (by simp [aK,pF]) (lQ _)
  | 3=>cases hx;cases hr;exact lE rfl rfl (by simp [aK,bG]) (lQ _)
  | 4=>cases hx;cases hr;exact lE rfl rfl (by simp [ez,cn]) (zQ _)
  | i+5=>simp at hx
theorem qW (x:Nd):(x.cells.map U.rv)[0]?=some (.rv (.bool x.s.shown)):=rfl
theorem Od (l:List Nd) (hb:l.length≤8589934592) (hc:fA l=0):aJ Go.Proofs.Try.prog 9 [.rv (.sl 49 (bg l))] [] [] (.aM [.rv (bZ l),.rv (.int .i64 0)]):=by
 refine bJ BW [.rv (.sl 49 (bg l))] _ (by simp) (by simp [aN,bl,bz,bf,bq,ai.sv,Ln.sv,Nd.sv]) (fun K hK=>?_)
 have hlen:=au l
 have nv:=DG l hb
 rw [hc] at nv
 have ht:cZ l=true:=by
  unfold fA at hc
  cases h:cZ l with
  | true=>rfl
  | false=>rw [h] at hc;simp at hc
 have hs:dJ l:=tG.1 (by unfold cZ at ht;simp -implicitDefEqProofs only [Bool.and_eq_true] at ht;exact ht.1)
 have nY:(((0:Int)) != 0)=false:=rfl
 conv in fc _ _ _ _=>reduce
 simp -implicitDefEqProofs only [go_sem,Int.reduceNegSucc]
 have jN:(bg l).length≤8589934592:=by rw [hlen];exact hb
 have br:=nv;have y_2:=Ds (bg l) 0 jN;repeat' (first | (simp -implicitDefEqProofs only [go_sem,Int.reduceNegSucc,nY,hlen,tF,Dk]) | (with_reducible refine aB ?_) | (with_reducible first | refine aF br ?_ | refine aG br ?_) | (refine cD y_2 ?_ ?_ ?_;(focus (simp [aW,ag] <;> fail));(focus (simp [bp,bk] <;> fail))) | (refine cY y_2 ?_ ?_ ?_;(focus (simp [aW,ag] <;> fail));(focus (simp [bp,bk] <;> fail))) | ((first | refine aj (fun hg=>?_) (fun hg=>?_) | refine aC (fun hg=>?_) (fun hg=>?_) | refine aD (fun hg=>?_) (fun hg=>?_)) <;> try simp -implicitDefEqProofs only [hg,Bool.not_true,Bool.not_false]) | ((with_reducible apply And.intro);focus (first | trivial | omega | decide | (simp -implicitDefEqProofs only [maxLen];omega) | (simp [maxLen,an,aq,au,aA,ak,ax,av] <;> omega))) | fail)
 have Ib:∀ n:Nat,dU l 0=dj 6 l.length l.length:=fun _=>BT l
 let ev:Nat→List (Nat×U):=fun k=>[(33,.rv (.int .i64 k)),(32,.rv (.int .i64 l.length)),(31,.rv (.sl 49 (bg l))),(5,.ptr 5 0),(0,.rv (.sl 49 (bg l)))]
 refine cN (ι:=Nat) (fun k=>[(33,.rv (.int .i64 k)),(32,.rv (.int .i64 l.length)),(31,.rv (.sl 49 (bg l))),(5,.ptr 5 0),(0,.rv (.sl 49 (bg l)))]) (fun k=>some (.row 49 1 (aI (bg l)))::some (.row 1 0 (dU l k))::some (.row 1 0 (aI (aK (List.replicate l.length 0))))::some (.row 1 0 (aI (aK (bG l k))))::some (.row 1 0 (aI (ez (cn l k))))::some (.var [.row 0 1 l.length,.row 1 0 l.length,.row 2 0 l.length,.row 3 0 l.length,.row 4 0 l.length])::dM l k) (fun k=>k≤l.length) (fun k=>l.length - k) 0 (by simp) ?_ (fun k hk K' hN hX hR=>?_)
 ·refine (bA (env':=[(33,.rv (.int .i64 0)),(32,.rv (.int .i64 l.length)),(31,.rv (.sl 49 (bg l))),(5,.ptr 5 0),(0,.rv (.sl 49 (bg l)))]) (by simp [lk])).trans ?_
  rw [BT,Jx,xl,Cu]
  exact Av (r:=1) (v:=0) (n:=l.length) (e:=1) rfl
 simp -implicitDefEqProofs only [go_sem,Int.reduceNegSucc]
 refine aj (fun hg=>?_) (fun hg=>?_)
 ·have ay:k<l.length:=by simp at hg;omega
  have hx:=fG ay
  have pV:=kL l k
  have fP:=qA l k
  have fO:=ak (bG l k)
  have mE:=fE (l:=bG l k) (i:=k) (by omega)
  have hml:=Ct l k
  have mJ:=uv (cn l k)
  have pP:=qv (bs:=cn l k) (i:=k) (by omega)
  have hsh:=Dp ay
  have e1:(l.length=l.length+1)=False:=eq_false (by omega)
  have e2:(l.length=l.length+2)=False:=eq_false (by omega)
  have hds:=uQ ay
  have pM:=xk ay
  have wu:=cr (k:=k) (by omega)
  by_cases cK:0<k
  ·have hgt:decide ((k:Int)>0)=true:=decide_eq_true (by omega)
   obtain ⟨p1,p2⟩:=hs.wf.2 k cK ay
   obtain ⟨p,hp⟩:∃ p:Nat,aQ l k=p:=⟨(aQ l k).toNat,by omega⟩
   have dr:p<l.length:=by omega
   have q0:(p=l.length)=False:=eq_false (by omega)
   have q1:(p=l.length+1)=False:=eq_false (by omega)
   have q2:(p=l.length+2)=False:=eq_false (by omega)
   have hpk:=mb ay
   have HJ:(bG l k).set k 1=(bG l k).set k 1:=rfl
   have pN:((bG l k).set k 1).length=l.length:=by simp [fP]
   have sC:=ak ((bG l k).set k 1)
   have mF:=fE (l:=(bG l k).set k 1) (i:=p) (by omega)
   have pL:=fE (l:=(bG l k).set k 1) (i:=k) (by omega)
   rw [xj (by omega) (by omega)] at mF
   have oe:=xm hs.wf cK ay
   rw [hp,Int.toNat_natCast] at oe
   have wd:=cr (k:=depth l p) (by have:=ri (l:=l) p;unfold depth;omega)
   rw [← oe] at wd
   obtain ⟨b,pU⟩:∃ b,ql l k=b:=⟨_,rfl⟩
   have hmp:=qv (bs:=(cn l k).set k b) (i:=p) (by simp [hml];omega)
   have hmk:=qv (bs:=(cn l k).set k b) (i:=k) (by simp [hml];omega)
   rw [Cs (by omega) (by omega)] at hmp
   have sK:((cn l k).set k b).length=l.length:=by simp [hml]
   have sL:=uv ((cn l k).set k b)
   have kg:((cn l k).set k b).set k (b && kP l p)=cn l (k+1):=by
    have:=Cq hs.wf cK ay
    rw [hp,Int.toNat_natCast,pU] at this
    rw [List.set_set,← this,vI ay]
   have lJ:=sZ l k
   have lI:=BR (k:=k) dr
   have kf:=fun C=>yD (k:=k) (C:=C) dr
   have hkn:=Jt cK hp dr
   have sQ:=JB cK hp dr
   have hsp:=fun (y:Option HB) C=>Jv (k:=k) (y:=y) (C:=C) dr
   have fh:(bt (aS l k p)).length=(aS l k p).length:=by simp [bt]
   have lH:=ak (bt (aS l k p))
   have mM:(aK (bt (aS l k p))).take (aS l k p).length=aK (bt (aS l k p)):=List.take_of_length_le (by rw [lH,fh];exact Nat.le_refl _)
   have hkk:=qS (l:=l) (k:=k) (p:=p)
   cases b
   all_goals simp -implicitDefEqProofs only [Bool.false_and,Bool.true_and] at kg
   ·repeat' (first | (simp -implicitDefEqProofs only [go_sem,Int.reduceNegSucc,hlen,hx,pV,aq,nH,Nat.add_assoc,yB,List.append_assoc,fP,fO,mE,hml,mJ,pP,gh,rA,qW,hsh,pU,e1,e2,yF,hgt,hpk,hp,qa,lJ,lI,kf,q0,q1,q2,hsp,BN,BP,fh,lH,mM,rz,hkn,sQ,pN,sC,mF,pL,wd,pM,wu,hmp,hmk,sK,sL]) | (with_reducible refine aB ?_) | ((first | refine aj (fun hg=>?_) (fun hg=>?_) | refine aC (fun hg=>?_) (fun hg=>?_) | refine aD (fun hg=>?_) (fun hg=>?_)) <;> try simp -implicitDefEqProofs only [hg,Bool.not_true,Bool.not_false]) | ((with_reducible apply And.intro);focus (first | trivial | omega | decide | (simp -implicitDefEqProofs only [maxLen];omega) | (simp [maxLen,an,aq,au,aA,ak,ax,av] <;> omega) | (simp (decide:=true) [mD,nX,jZ,nj,Nat.testBit,q0,q1,q2];done))) | fail)
    rw [kg]
    exact hN (k+1) _ _ (by omega) (by omega) (yz (l:=l) (k:=k+1) (by simp [fU,lk,ng,nc]))
   ·repeat' (first | (simp -implicitDefEqProofs only [go_sem,Int.reduceNegSucc,hlen,hx,pV,aq,nH,Nat.add_assoc,yB,List.append_assoc,fP,fO,mE,hml,mJ,pP,gh,rA,qW,hsh,pU,e1,e2,yF,hgt,hpk,hp,qa,lJ,lI,kf,q0,q1,q2,hsp,BN,BP,fh,lH,mM,rz,hkn,sQ,pN,sC,mF,pL,wd,pM,wu,hmp,hmk,sK,sL]) | (with_reducible refine aB ?_) | ((first | refine aj (fun hg=>?_) (fun hg=>?_) | refine aC (fun hg=>?_) (fun hg=>?_) | refine aD (fun hg=>?_) (fun hg=>?_)) <;> try simp -implicitDefEqProofs only [hg,Bool.not_true,Bool.not_false]) | ((with_reducible apply And.intro);focus (first | trivial | omega | decide | (simp -implicitDefEqProofs only [maxLen];omega) | (simp [maxLen,an,aq,au,aA,ak,ax,av] <;> omega) | (simp (decide:=true) [mD,nX,jZ,nj,Nat.testBit,q0,q1,q2];done))) | fail)
    rw [kg]
    exact hN (k+1) _ _ (by omega) (by omega) (yz (l:=l) (k:=k+1) (by simp [fU,lk,ng,nc]))
  ·obtain rfl:k=0:=by omega
   have hgt:decide (((0:Nat):Int)>0)=false:=rfl
   rw [xo] at hds
   have kg:=vI ay
   rw [Cr] at kg
   have xQ:(bG l 0).set 0 1=bG l (0+1):=hds
   repeat' (first | (simp -implicitDefEqProofs only [go_sem,Int.reduceNegSucc,hlen,hx,pV,aq,nH,Nat.add_assoc,yB,List.append_assoc,fP,fO,mE,hml,mJ,pP,gh,rA,qW,hsh,e1,e2,yF,hgt,wu,kg,xQ]) | (with_reducible refine aB ?_) | ((first | refine aj (fun hg=>?_) (fun hg=>?_) | refine aC (fun hg=>?_) (fun hg=>?_) | refine aD (fun hg=>?_) (fun hg=>?_)) <;> try simp -implicitDefEqProofs only [hg,Bool.not_true,Bool.not_false]) | ((with_reducible apply And.intro);focus (first | trivial | omega | decide | (simp -implicitDefEqProofs only [maxLen];omega) | (simp [maxLen,an,aq,au,aA,ak,ax,av] <;> omega))) | fail)
   refine hN 1 _ _ (by omega) (by omega) ?_
   rw [Jz,Jr]
   exact yz (l:=l) (k:=0) (es:=List.replicate l.length 0) (ds:=bG l (0+1)) (bs:=cn l (0+1)) (C:=[some (.var ((l[0]'ay).cells.map .rv))]) (by simp [fU,lk,ng,nc])
 ·have ay:k=l.length:=by simp at hg;omega
  subst ay
  simp -implicitDefEqProofs only [go_sem,Int.reduceNegSucc]
  refine hX _ _ _ ?_
  have wl:=rK hs.pos (by omega)
  repeat' (first | (simp -implicitDefEqProofs only [go_sem,Int.reduceNegSucc,hlen,wl]) | (with_reducible refine aB ?_) | ((first | refine aj (fun hg=>?_) (fun hg=>?_) | refine aC (fun hg=>?_) (fun hg=>?_) | refine aD (fun hg=>?_) (fun hg=>?_)) <;> try simp -implicitDefEqProofs only [hg,Bool.not_true,Bool.not_false]) | ((with_reducible apply And.intro);focus (first | trivial | omega | decide | (simp -implicitDefEqProofs only [maxLen];omega) | (simp [maxLen,an,aq,au,aA,ak,ax,av] <;> omega))) | fail)
  clear hN hX hR
  refine cN (ι:=Nat) (fun k=>[(8,.rv (.int .i64 ((k:Int) - 1))),(5,.ptr 5 0)]) (fun k=>oy l l.length (cP l k) (bG l l.length) (cn l l.length)) (fun k=>k≤l.length) (fun k=>k) l.length (Nat.le_refl _) (by rw [As];exact bA (by simp [lk];have:=hs.pos;omega)) (fun k hk K' hN hX hR=>?_)
  simp -implicitDefEqProofs only [oy,go_sem,Int.reduceNegSucc]
  refine aj (fun hg=>?_) (fun hg=>?_)
  ·have cK:0<k:=by simp at hg;omega
   obtain ⟨j,rfl⟩:∃ j,k=j+1:=⟨k - 1,by omega⟩
   have ej:(((j+1:Nat):Int) - 1)=(j:Int):=by omega
   have wj:=cr (k:=j) (by omega)
   have hjl:j<l.length:=by omega
   have hel:=Aq l (j+1)
   have sE:=ak (cP l (j+1))
   have pO:=fE (l:=cP l (j+1)) (i:=j) (by omega)
   have lJ:=sZ l l.length
   have lI:=BR (k:=l.length) hjl
   have kf:=yD (k:=l.length) (C:=[]) hjl
   simp -implicitDefEqProofs only [List.append_nil] at kf
   have fh:(bt (aS l l.length j)).length=(aS l l.length j).length:=by simp [bt]
   have lH:=ak (bt (aS l l.length j))
   have hkk:=qS (l:=l) (k:=l.length) (p:=j)
   have kJ:((cP l (j+1)).set j ((j+1:Nat):Int)).length=l.length:=by simp [hel]
   have yl:=ak ((cP l (j+1)).set j ((j+1:Nat):Int))
   have kj:=Ar (l:=l) (k:=j+1) (by omega) (by omega)
   simp -implicitDefEqProofs only [Nat.add_sub_cancel] at kj
   have wd:IntKind.i64.wrap ((j:Int) - 1)=((j:Int) - 1):=wrap_i64 (by omega) (by omega)
   by_cases ct:aS l l.length j=[]
   ·have hm0:decide ((((aS l l.length j).length:Nat):Int)>0)=false:=by rw [ct];rfl
    have he:=xx ct
    rw [he] at kj
    repeat' (first | (simp -implicitDefEqProofs only [go_sem,Int.reduceNegSucc,hel,sE,pO,lJ,lI,kf,ej,wj,hm0,gh,kj,wd]) | (with_reducible refine aB ?_) | ((first | refine aj (fun hg=>?_) (fun hg=>?_) | refine aC (fun hg=>?_) (fun hg=>?_) | refine aD (fun hg=>?_) (fun hg=>?_)) <;> try simp -implicitDefEqProofs only [hg,Bool.not_true,Bool.not_false]) | ((with_reducible apply And.intro);focus (first | trivial | omega | decide | (simp -implicitDefEqProofs only [maxLen];omega) | (simp [maxLen,an,aq,au,aA,ak,ax,av] <;> omega))) | fail)
    refine hN j _ _ (by omega) (by omega) (bA (by simp [lk]))
   ·obtain ⟨c,hc⟩:∃ c,(aS l l.length j).getLast?=some c:=by
     cases h:(aS l l.length j).getLast? with
     | none=>exact absurd (List.getLast?_eq_none_iff.1 h) ct
     | some c=>exact ⟨c,rfl⟩
    have hpos:0<(aS l l.length j).length:=List.length_pos_iff.2 ct
    have hm0:decide ((((aS l l.length j).length:Nat):Int)>0)=true:=decide_eq_true (by omega)
    have sB:c∈dw l j:=List.mem_of_getLast? hc
    obtain ⟨c1,c2,c3⟩:=qV.1 sB
    have xL:j<c:=by have:=(hs.wf.2 c c1 c2).2;omega
    have he:=xw hc xL c2
    rw [he] at kj
    have wm:=rK hpos (by omega)
    have xK:(bt (aS l l.length j)).getD ((aS l l.length j).length - 1) 0=(c:Int):=by
     rw [List.getLast?_eq_getElem?] at hc
     simp [bt,List.getD_eq_getElem?_getD,hc]
    have eG:=fE (l:=bt (aS l l.length j)) (i:=(aS l l.length j).length - 1) (by omega)
    rw [xK] at eG
    have sD:=fE (l:=(cP l (j+1)).set j ((j+1:Nat):Int)) (i:=c) (by omega)
    have nw:=Ap (l:=l) (k:=j+1) (j:=c) (v:=((j+1:Nat):Int)) (by omega) (by omega) c2
    simp -implicitDefEqProofs only [Nat.add_sub_cancel] at nw
    rw [nw] at sD
    have xT:=fE (l:=(cP l (j+1)).set j ((j+1:Nat):Int)) (i:=j) (by omega)
    have sO:((cP l (j+1)).set j ((j+1:Nat):Int)).set j (cX l c)=cP l j:=by rw [List.set_set,kj]
    repeat' (first | (simp -implicitDefEqProofs only [go_sem,Int.reduceNegSucc,hel,sE,pO,lJ,lI,kf,ej,wj,hm0,gh,wd,wm,eG,sD,xT,sO,kJ,yl,fh,lH]) | (with_reducible refine aB ?_) | ((first | refine aj (fun hg=>?_) (fun hg=>?_) | refine aC (fun hg=>?_) (fun hg=>?_) | refine aD (fun hg=>?_) (fun hg=>?_)) <;> try simp -implicitDefEqProofs only [hg,Bool.not_true,Bool.not_false]) | ((with_reducible apply And.intro);focus (first | trivial | omega | decide | (simp -implicitDefEqProofs only [maxLen];omega) | (simp [maxLen,an,aq,au,aA,ak,ax,av] <;> omega))) | fail)
    refine hN j _ _ (by omega) (by omega) (bA (by simp [lk]))
  ·obtain rfl:k=0:=by simp at hg;omega
   simp -implicitDefEqProofs only [go_sem,Int.reduceNegSucc]
   refine hX _ _ _ ?_
   repeat' (first | (simp -implicitDefEqProofs only [go_sem,Int.reduceNegSucc]) | (with_reducible refine aB ?_) | ((first | refine aj (fun hg=>?_) (fun hg=>?_) | refine aC (fun hg=>?_) (fun hg=>?_) | refine aD (fun hg=>?_) (fun hg=>?_)) <;> try simp -implicitDefEqProofs only [hg,Bool.not_true,Bool.not_false]) | ((with_reducible apply And.intro);focus (first | trivial | omega | decide | (simp -implicitDefEqProofs only [maxLen];omega) | (simp [maxLen,an,aq,au,aA,ak,ax,av] <;> omega))) | fail)
   refine (hK _ _ ?_).2
   rw [At]
   exact ⟨trivial,bN.2 ⟨.fz _ _ (KX l),aR.2 rfl,trivial⟩⟩
end Go.aH

namespace Go.aH
open Go
theorem Kl:aV Go.Proofs.Try.prog 39 10 (fc Go.Proofs.Try.prog 39 10 [(.t 2)]) [(.t 2)]:=bn (by kernel_rfl)
theorem Kp:aV Go.Proofs.Try.prog 24 13 (fc Go.Proofs.Try.prog 24 13 [(.t 4)]) [(.t 4)]:=bn (by kernel_rfl)
theorem Ko:aV Go.Proofs.Try.prog 40 18 (fc Go.Proofs.Try.prog 40 18 [(.c 4 48 true)]) [(.c 4 48 true)]:=bn (by kernel_rfl)
theorem Km:aV Go.Proofs.Try.prog 10 17 (fc Go.Proofs.Try.prog 10 17 [(.t 4)]) [(.t 4)]:=bn (by kernel_rfl)
theorem Kn:aV Go.Proofs.Try.prog 27 36 (fc Go.Proofs.Try.prog 27 36 [(.t 4)]) [(.t 4)]:=bn (by kernel_rfl)
def eH (l:List Nd) (n:Int):Bool:=decide (n≥0) && decide (n<l.length)
theorem qQ {l:List Nd} {n:Int} (h:eH l n=true):∃ k:Nat,n=k∧k<l.length:=by
 simp [eH] at h;exact ⟨n.toNat,by omega,by omega⟩
def cC (l:List Nd) (n:Int):ai:=if eH l n=true then (l.getD n.toNat default).s else default
def PJ (l:List Nd) (n:Int):Int:=if eH l n=true then aQ l n.toNat else -1
def xu (l:List Nd) (n:Int):Int:=if eH l n=true then cX l n.toNat else 0
def Ph (l:List Nd) (n:Int):Int:=if eH l n=true then depth l n.toNat else 0
def lX (l:List Nd) (n:Int):Bool:=eH l n && kP l n.toNat
def vS (l:List Nd) (n:Int):Bool:=lX l n && decide (n>0) && (decide ((cC l n).position=2) || decide ((cC l n).position=3))
def Pg (l:List Nd) (a n:Int):Bool:=eH l a && eH l n && decide (n≥a) && decide (n<xu l a)
theorem KV (l:List Nd):(fZ l).length=l.length:=by simp [fZ]
theorem KU {l:List Nd} {k:Nat} (h:k<l.length):(fZ l)[k]?.getD []=[.sl 1 (aK (bt (dw l k)))]:=by simp [fZ,h]
theorem LC (l:List Nd):(ez (cn l l.length)).length=l.length:=by simp [ez,cn]
theorem LB {l:List Nd} {k:Nat} (h:k<l.length):(ez (cn l l.length))[k]?.getD []=[.bool (kP l k)]:=by simp [ez,cn,h]
theorem zf {τ:Nat→Option Nat} {h:List (Option HB)} {env:List (Nat×U)} {a n id:Nat} {rs:List RV} (hl:lk env a = .ptr id 0) (hh:ag h id=some (.var (rs.map .rv))) (hn:rs.length=n):bD τ (ag h) (.agg (rs.map .rv)) (bw (lk env) (ag h) [.c a n true]):=by
 simp [bw,bD,bL,hl,dO,hh,hn]
 rw [List.take_of_length_le (by simp [hn])];exact aZ.2 (cL.2 rfl)
section
variable (l:List Nd) (hb:l.length≤8589934592) (n:Int)
theorem NK:aJ Go.Proofs.Try.prog 39 [.rv (bZ l)] [] [] (.rv (.int .i64 l.length)):=by
 refine bJ Kl [.rv (bZ l)] _ (by simp) (by simp [aN,bl,bz,bf,bq,ai.sv,Ln.sv,Nd.sv]) (fun K hK=>?_)
 conv in fc _ _ _ _=>reduce
 simp -implicitDefEqProofs only [go_sem,Int.reduceNegSucc]
 repeat' (first | (simp -implicitDefEqProofs only [go_sem,Int.reduceNegSucc,au,bZ]) | (with_reducible refine aB ?_) | ((first | refine aj (fun hg=>?_) (fun hg=>?_) | refine aC (fun hg=>?_) (fun hg=>?_) | refine aD (fun hg=>?_) (fun hg=>?_)) <;> try simp -implicitDefEqProofs only [hg,Bool.not_true,Bool.not_false]) | ((with_reducible apply And.intro);focus (first | trivial | omega | decide | (simp -implicitDefEqProofs only [maxLen];omega) | (simp [maxLen,an,aq,au,aA,ak,ax,av] <;> omega))) | fail)
 exact (hK _ _ (bX rfl)).2
theorem zo:aJ Go.Proofs.Try.prog 24 [.rv (bZ l),.rv (.int .i64 n)] [] [] (.rv (.bool (eH l n))):=by
 refine bJ Kp [.rv (bZ l),.rv (.int .i64 n)] _ (by simp) (by simp [aN,bl,bz,bf,bq,ai.sv,Ln.sv,Nd.sv]) (fun K hK=>?_)
 conv in fc _ _ _ _=>reduce
 simp -implicitDefEqProofs only [go_sem,Int.reduceNegSucc]
 have br:=NK l;repeat' (first | (simp -implicitDefEqProofs only [go_sem,Int.reduceNegSucc]) | (with_reducible refine aB ?_) | (with_reducible first | refine aF br ?_ | refine aG br ?_) | ((first | refine aj (fun hg=>?_) (fun hg=>?_) | refine aC (fun hg=>?_) (fun hg=>?_) | refine aD (fun hg=>?_) (fun hg=>?_)) <;> try simp -implicitDefEqProofs only [hg,Bool.not_true,Bool.not_false]) | ((with_reducible apply And.intro);focus (first | trivial | omega | decide | (simp -implicitDefEqProofs only [maxLen];omega) | (simp [maxLen,an,aq,au,aA,ak,ax,av] <;> omega))) | fail)
 all_goals (try ((first | refine (hK _ _ _ _ [] (dg _ _) ?_).2 | refine (hK _ _ ?_).2 | refine (hK _ _ _ _ [] (dg _ _) ?_).1 | refine (hK _ _ ?_).1 | fail);clear hK;(simp_all [dx,bK,newL,dD,dh,bD,bw,lk,bL,cG,cQ,cJ,dS,dR,ag,dy,bN,aR,cV,dz,ek,aZ,eg,aP,cW,cL,ck,eH]) <;> try omega))
theorem Du:aJ Go.Proofs.Try.prog 40 [.rv (bZ l),.rv (.int .i64 n)] [] [] (cC l n).sv:=by
 refine bJ Ko [.rv (bZ l),.rv (.int .i64 n)] _ (by simp) (by simp [aN,bl,bz,bf,bq,ai.sv,Ln.sv,Nd.sv]) (fun K hK=>?_)
 have hh:=zo l n
 conv in fc _ _ _ _=>reduce
 simp -implicitDefEqProofs only [go_sem,Int.reduceNegSucc]
 cases hi:eH l n with
 | false=>
   rw [hi] at hh
   have y_2:=hh;repeat' (first | (simp -implicitDefEqProofs only [go_sem,Int.reduceNegSucc]) | (with_reducible refine aB ?_) | (with_reducible first | refine aF y_2 ?_ | refine aG y_2 ?_) | ((first | refine aj (fun hg=>?_) (fun hg=>?_) | refine aC (fun hg=>?_) (fun hg=>?_) | refine aD (fun hg=>?_) (fun hg=>?_)) <;> try simp -implicitDefEqProofs only [hg,Bool.not_true,Bool.not_false]) | ((with_reducible apply And.intro);focus (first | trivial | omega | decide | (simp -implicitDefEqProofs only [maxLen];omega) | (simp [maxLen,an,aq,au,aA,ak,ax,av] <;> omega) | (rfl;done) | (exact ⟨rfl,by decide⟩;done))) | fail)
   have yj:cC l n=default:=by simp [cC,hi]
   rw [yj] at hK
   exact (hK _ _ (zf rfl rfl rfl)).2
 | true=>
   rw [hi] at hh
   obtain ⟨k,rfl,hk⟩:=qQ hi
   have hx:=fG hk
   have hlen:=au l
   have bP:=hh;repeat' (first | (simp -implicitDefEqProofs only [go_sem,Int.reduceNegSucc,hx,hlen,aq,an,tn,bZ]) | (with_reducible refine aB ?_) | (with_reducible first | refine aF bP ?_ | refine aG bP ?_) | ((first | refine aj (fun hg=>?_) (fun hg=>?_) | refine aC (fun hg=>?_) (fun hg=>?_) | refine aD (fun hg=>?_) (fun hg=>?_)) <;> try simp -implicitDefEqProofs only [hg,Bool.not_true,Bool.not_false]) | ((with_reducible apply And.intro);focus (first | trivial | omega | decide | (simp -implicitDefEqProofs only [maxLen];omega) | (simp [maxLen,an,aq,au,aA,ak,ax,av] <;> omega))) | fail)
   have yj:cC l k=(l[k]'hk).s:=by simp [cC,hi,hk]
   rw [yj] at hK
   exact (hK _ _ (zf rfl rfl rfl)).2
theorem zn:aJ Go.Proofs.Try.prog 10 [.rv (bZ l),.rv (.int .i64 n)] [] [] (.rv (.bool (lX l n))):=by
 refine bJ Km [.rv (bZ l),.rv (.int .i64 n)] _ (by simp) (by simp [aN,bl,bz,bf,bq,ai.sv,Ln.sv,Nd.sv]) (fun K hK=>?_)
 have hh:=zo l n
 conv in fc _ _ _ _=>reduce
 simp -implicitDefEqProofs only [go_sem,Int.reduceNegSucc]
 cases hi:eH l n with
 | false=>
   rw [hi] at hh
   have cg:=hh;repeat' (first | (simp -implicitDefEqProofs only [go_sem,Int.reduceNegSucc]) | (with_reducible refine aB ?_) | (with_reducible first | refine aF cg ?_ | refine aG cg ?_) | ((first | refine aj (fun hg=>?_) (fun hg=>?_) | refine aC (fun hg=>?_) (fun hg=>?_) | refine aD (fun hg=>?_) (fun hg=>?_)) <;> try simp -implicitDefEqProofs only [hg,Bool.not_true,Bool.not_false]) | ((with_reducible apply And.intro);focus (first | trivial | omega | decide | (simp -implicitDefEqProofs only [maxLen];omega) | (simp [maxLen,an,aq,au,aA,ak,ax,av] <;> omega))) | fail)
   exact (hK _ _ (bX (by simp [lX,hi,lk]))).2
 | true=>
   rw [hi] at hh
   obtain ⟨k,rfl,hk⟩:=qQ hi
   have cz:=hh;repeat' (first | (simp -implicitDefEqProofs only [go_sem,Int.reduceNegSucc,LC,LB hk,bZ]) | (with_reducible refine aB ?_) | (with_reducible first | refine aF cz ?_ | refine aG cz ?_) | ((first | refine aj (fun hg=>?_) (fun hg=>?_) | refine aC (fun hg=>?_) (fun hg=>?_) | refine aD (fun hg=>?_) (fun hg=>?_)) <;> try simp -implicitDefEqProofs only [hg,Bool.not_true,Bool.not_false]) | ((with_reducible apply And.intro);focus (first | trivial | omega | decide | (simp -implicitDefEqProofs only [maxLen];omega) | (simp [maxLen,an,aq,au,aA,ak,ax,av] <;> omega))) | fail)
   exact (hK _ _ (bX (by simp [lX,hi,lk]))).2
theorem NM:aJ Go.Proofs.Try.prog 27 [.rv (bZ l),.rv (.int .i64 n)] [] [] (.rv (.bool (vS l n))):=by
 refine bJ Kn [.rv (bZ l),.rv (.int .i64 n)] _ (by simp) (by simp [aN,bl,bz,bf,bq,ai.sv,Ln.sv,Nd.sv]) (fun K hK=>?_)
 have hh:=zn l n
 conv in fc _ _ _ _=>reduce
 simp -implicitDefEqProofs only [go_sem,Int.reduceNegSucc]
 cases hi:lX l n with
 | false=>
   rw [hi] at hh
   have cA:=hh;repeat' (first | (simp -implicitDefEqProofs only [go_sem,Int.reduceNegSucc]) | (with_reducible refine aB ?_) | (with_reducible first | refine aF cA ?_ | refine aG cA ?_) | ((first | refine aj (fun hg=>?_) (fun hg=>?_) | refine aC (fun hg=>?_) (fun hg=>?_) | refine aD (fun hg=>?_) (fun hg=>?_)) <;> try simp -implicitDefEqProofs only [hg,Bool.not_true,Bool.not_false]) | ((with_reducible apply And.intro);focus (first | trivial | omega | decide | (simp -implicitDefEqProofs only [maxLen];omega) | (simp [maxLen,an,aq,au,aA,ak,ax,av] <;> omega))) | fail)
   exact (hK _ _ (bX (by simp [vS,hi,lk]))).2
 | true=>
   rw [hi] at hh
   have hin:eH l n=true:=by simp [lX] at hi;exact hi.1
   obtain ⟨k,rfl,hk⟩:=qQ hin
   have hx:=fG hk
   have hlen:=au l
   have hs:cC l k=(l[k]'hk).s:=by simp [cC,hin,hk]
   have hp:((l[k]'hk).cells.drop 1)[0]?=some (.int .i64 (l[k]'hk).s.position):=rfl
   have cS:=hh;repeat' (first | (simp -implicitDefEqProofs only [go_sem,Int.reduceNegSucc,hx,hlen,aq,bZ,hp]) | (with_reducible refine aB ?_) | (with_reducible first | refine aF cS ?_ | refine aG cS ?_) | ((first | refine aj (fun hg=>?_) (fun hg=>?_) | refine aC (fun hg=>?_) (fun hg=>?_) | refine aD (fun hg=>?_) (fun hg=>?_)) <;> try simp -implicitDefEqProofs only [hg,Bool.not_true,Bool.not_false]) | ((with_reducible apply And.intro);focus (first | trivial | omega | decide | (simp -implicitDefEqProofs only [maxLen];omega) | (simp [maxLen,an,aq,au,aA,ak,ax,av] <;> omega))) | fail)
   all_goals (refine (hK _ _ (bX ?_)).2;rw [vS,hi,hs];clear hK hs hp;simp_all [lk,ck])
end
end Go.aH

namespace Go.aH
open Go
theorem Kk:aV Go.Proofs.Try.prog 71 17 (fc Go.Proofs.Try.prog 71 17 [(.t 4)]) [(.t 4)]:=bn (by kernel_rfl)
theorem Ki:aV Go.Proofs.Try.prog 48 10 (fc Go.Proofs.Try.prog 48 10 [(.t 4)]) [(.t 4)]:=bn (by kernel_rfl)
theorem Kj:aV Go.Proofs.Try.prog 72 13 (fc Go.Proofs.Try.prog 72 13 [(.t 3)]) [(.t 3)]:=bn (by kernel_rfl)
theorem KB:aV Go.Proofs.Try.prog 88 19 (fc Go.Proofs.Try.prog 88 19 [(.t 4)]) [(.t 4)]:=bn (by kernel_rfl)
theorem Kz:aV Go.Proofs.Try.prog 70 42 (fc Go.Proofs.Try.prog 70 42 [(.t 4)]) [(.t 4)]:=bn (by kernel_rfl)
def eI (l:List Nd) (n:Int):List Nat:=if eH l n=true then dw l n.toNat else []
def PL (l:List Nd) (n:Int):List Nat:=if eH l n=true then (aO l n.toNat).drop 1 else []
def kW (l:List Nd) (m:Int):Bool:=lX l m && !vS l m
def cH (l:List Nd) (n:Int):List Nat:=(eI l n).filter fun (m:Nat)=>kW l m
theorem LK (l:List Nat):(bt l).length=l.length:=by simp [bt]
theorem Cc (l:List Nd) (n:Int):(eI l n).length≤l.length:=by
 unfold eI;split
 ·exact qS
 ·simp
section
variable (l:List Nd) (hb:l.length≤8589934592) (n:Int)
theorem NJ (m:Nat) (hb:l.length≤8589934592):aJ Go.Proofs.Try.prog 71 [.rv (bZ l),.rv (.int .i64 n)] [] [(m,.row 1 1 (aI (aK (bt (eI l n)))))] (.row m 1 (eI l n).length):=by
 refine kC Kk [] [] [] [.rv (bZ l),.rv (.int .i64 n)] [.rv (bZ l),.rv (.int .i64 n)] _ _ (by simp) (by simp [aN,bf]) rfl (by simp [bK]) (by simp [de]) (fun K hK=>?_)
 have hh:=zo l n
 conv in fc _ _ _ _=>reduce
 simp -implicitDefEqProofs only [go_sem,Int.reduceNegSucc]
 cases hi:eH l n with
 | false=>
   rw [hi] at hh
   have cK:eI l n=[]:=by simp [eI,hi]
   have br:=hh;repeat' (first | (simp -implicitDefEqProofs only [go_sem,Int.reduceNegSucc]) | (with_reducible refine aB ?_) | (with_reducible first | refine aF br ?_ | refine aG br ?_) | ((first | refine aj (fun hg=>?_) (fun hg=>?_) | refine aC (fun hg=>?_) (fun hg=>?_) | refine aD (fun hg=>?_) (fun hg=>?_)) <;> try simp -implicitDefEqProofs only [hg,Bool.not_true,Bool.not_false]) | ((with_reducible apply And.intro);focus (first | trivial | omega | decide | (simp -implicitDefEqProofs only [maxLen];omega) | (simp [maxLen,an,aq,au,aA,ak,ax,av] <;> omega))) | fail)
   refine (hK _ _ _ _ [some m] (si 4 1 1 rfl) ?_).2
   rw [cK]
   simp [dx,bK,newL,dD,dh,bD,bw,lk,bL,cG,cQ,cJ,dS,dR,ag,dy,bN,aR,cV,dz,ek,aZ,eg,aP,cW,cL]
   exact ⟨by simp [aI,aK,bt],fun i x y hx=>by simp at hx⟩
 | true=>
   rw [hi] at hh
   obtain ⟨k,rfl,hk⟩:=qQ hi
   have cK:eI l k=dw l k:=by simp [eI,hi]
   have fh:=qS (l:=l) (k:=l.length) (p:=k)
   have hlen:(aK (bt (dw l k))).length=(dw l k).length:=by simp [aK,bt]
   have hlb:(aK (bt (dw l k))).length≤8589934592:=by rw [hlen];unfold dw;omega
   have Ia:=KU hk
   have y_2:=hh;have bP:=Nx (aK (bt (dw l k))) 0 hlb;repeat' (first | (simp -implicitDefEqProofs only [go_sem,Int.reduceNegSucc,KV,Ia,bZ]) | (with_reducible refine aB ?_) | (with_reducible first | refine aF y_2 ?_ | refine aG y_2 ?_) | (refine cD bP ?_ ?_ ?_;(focus (simp [aW,ag] <;> fail));(focus (simp [bp,bk] <;> fail))) | (refine cY bP ?_ ?_ ?_;(focus (simp [aW,ag] <;> fail));(focus (simp [bp,bk] <;> fail))) | ((first | refine aj (fun hg=>?_) (fun hg=>?_) | refine aC (fun hg=>?_) (fun hg=>?_) | refine aD (fun hg=>?_) (fun hg=>?_)) <;> try simp -implicitDefEqProofs only [hg,Bool.not_true,Bool.not_false]) | ((with_reducible apply And.intro);focus (first | trivial | omega | decide | (simp -implicitDefEqProofs only [maxLen];omega) | (simp [maxLen,an,aq,au,aA,ak,ax,av] <;> omega))) | fail)
   refine (hK _ _ _ _ [some m] (dg _ _) ?_).2
   rw [cK]
   simp [dx,bK,newL,dD,dh,bD,bw,lk,bL,cG,cQ,cJ,dS,dR,ag,dy,bN,aR,cV,dz,ek,aZ,eg,aP,cW,cL,hlen]
theorem NF (m:Int) (j:Nat):aJ Go.Proofs.Try.prog 72 [.rv (.int .i64 m),.ptr j 0] [(j,.var [.rv (bZ l)])] [] (.rv (.bool (!kW l m))):=by
 refine kC Kj [j] [.var [.rv (bZ l)]] [.var [.rv (bZ l)]] [.rv (.int .i64 m),.ptr 0 0] [.rv (.int .i64 m),.ptr j 0] _ _ (by simp) (by simp [aN,fW,fL,bf,bl,lg,bq,lp,lf,de,kV,bK]) rfl (by simp [bK]) (by simp [aN,fW,fL,bf,bl,lg,bq,lp,lf,de,kV,bK]) (fun K hK=>?_)
 conv in fc _ _ _ _=>reduce
 simp -implicitDefEqProofs only [go_sem,Int.reduceNegSucc]
 have bV:=zn l m;have cq:=NM l m;repeat' (first | (simp -implicitDefEqProofs only [go_sem,Int.reduceNegSucc]) | (with_reducible refine aB ?_) | (with_reducible first | refine aF bV ?_ | refine aG bV ?_) | (with_reducible first | refine aF cq ?_ | refine aG cq ?_) | ((first | refine aj (fun hg=>?_) (fun hg=>?_) | refine aC (fun hg=>?_) (fun hg=>?_) | refine aD (fun hg=>?_) (fun hg=>?_)) <;> try simp -implicitDefEqProofs only [hg,Bool.not_true,Bool.not_false]) | ((with_reducible apply And.intro);focus (first | trivial | omega | decide | (simp -implicitDefEqProofs only [maxLen];omega) | (simp [maxLen,an,aq,au,aA,ak,ax,av] <;> omega))) | fail)
 all_goals (refine (hK _ _ _ _ [] (dg _ _) ?_).2;clear hK;simp_all [dx,bK,newL,dD,dh,bD,bw,lk,bL,cG,cQ,cJ,dS,dR,ag,dy,bN,aR,cV,dz,ek,aZ,eg,aP,cW,cL,kW])
end
section
variable (f:Nat) (i j v:Nat) (cap:RV) (p:Int→Bool) (hij:i≠j) (hf:∀ (m:Int) (j:Nat),aJ Go.Proofs.Try.prog f [.rv (.int .i64 m),.ptr j 0] [(j,.var [.rv cap])] [] (.rv (.bool (p m))))
include hij hf
theorem NH (ys:List Int) (hb:ys.length≤8589934592) :
 aJ Go.Proofs.Try.prog 88 [.row i v ys.length,.fn f [.ptr j 0]] [(i,.row 1 v (aI (aK ys))),(j,.var [.rv cap])] [] (.rv (.int .i64 (match ys.findIdx? p with | some k=>((k:Nat):Int) | none=>-1))):=by
 refine uz KB [i,j] [.row 1 v (aI (aK ys)),.var [.rv cap]] [.row 1 v (aI (aK ys)),.var [.rv cap]] [.row 0 v ys.length,.fn f [.ptr 1 0]] [.row i v ys.length,.fn f [.ptr j 0]] _ _ (by simp) (by simp [aN,fL,bq,fW]) rfl (by simp [bK,hij]) rfl (zF zO (wR (by simp [aN,fW,fL,bf,bl,lg,bq,lp,lf,de,kV,bK]))) (fun K hK=>?_)
 have hlen:=ak ys
 conv in fc _ _ _ _=>reduce
 simp -implicitDefEqProofs only [go_sem,Int.reduceNegSucc]
 refine cN (ι:=Nat) (fun k=>[(8,.rv (.int .i64 k)),(7,.rv (.int .i64 ys.length)),(0,.row 0 v ys.length),(1,.fn f [.ptr 1 0])]) (fun _=>[some (.row 1 v (aI (aK ys))),some (.var [.rv cap])]) (fun k=>k≤ys.length∧∀ j,(h:j<ys.length)→j<k→p (ys[j]'h)=false) (fun k=>ys.length - k) 0 (by simp) (bA (by simp [lk])) (fun k hk K' hN hX hR=>?_)
 obtain ⟨ct,hk2⟩:=hk
 simp -implicitDefEqProofs only [go_sem,Int.reduceNegSucc]
 refine aj (fun hg=>?_) (fun hg=>?_)
 ·have ay:k<ys.length:=by simp at hg;omega
  have hx:=ow ay
  have cg:=hf (ys[k]'ay) 1;repeat' (first | (simp -implicitDefEqProofs only [go_sem,Int.reduceNegSucc,hlen,hx]) | (with_reducible refine aB ?_) | (refine cD cg ?_ ?_ ?_;(focus (simp [aW,ag] <;> fail));(focus (simp [bp,bk] <;> fail))) | (refine cY cg ?_ ?_ ?_;(focus (simp [aW,ag] <;> fail));(focus (simp [bp,bk] <;> fail))) | ((first | refine aj (fun hg=>?_) (fun hg=>?_) | refine aC (fun hg=>?_) (fun hg=>?_) | refine aD (fun hg=>?_) (fun hg=>?_)) <;> try simp -implicitDefEqProofs only [hg,Bool.not_true,Bool.not_false]) | ((with_reducible apply And.intro);focus (first | trivial | omega | decide | (simp -implicitDefEqProofs only [maxLen];omega) | (simp [maxLen,an,aq,au,aA,ak,ax,av] <;> omega))) | fail)
  ·refine hR _ _ (hK _ _ _ _ [] (dg _ _) ?_).2
   have:ys.findIdx? p=some k:=by
    rw [List.findIdx?_eq_some_iff_getElem]
    exact ⟨ay,by simpa using hg,fun j hj=>by rw [hk2 j (by omega) hj];simp⟩
   rw [this]
   simp [dx,bK,newL,dD,dh,bD,bw,lk,bL,cG,cQ,cJ,dS,dR,ag,dy,bN,aR,cV,dz,ek,aZ,eg,aP,cW,cL,hij,Ne.symm hij]
  ·rw [cr (by omega)]
   refine hN (k+1) _ _ ⟨by omega,fun j hj hji=>?_⟩ (by omega) (bA (by simp [lk]))
   rcases Nat.lt_or_ge j k with h | h
   ·exact hk2 j hj h
   ·obtain rfl:j=k:=by omega
    simpa using hg
 ·have ay:k=ys.length:=by simp at hg;omega
  subst ay
  simp -implicitDefEqProofs only [go_sem,Int.reduceNegSucc]
  refine hX _ _ _ ?_
  repeat' (first | (simp -implicitDefEqProofs only [go_sem,Int.reduceNegSucc]) | (with_reducible refine aB ?_) | ((first | refine aj (fun hg=>?_) (fun hg=>?_) | refine aC (fun hg=>?_) (fun hg=>?_) | refine aD (fun hg=>?_) (fun hg=>?_)) <;> try simp -implicitDefEqProofs only [hg,Bool.not_true,Bool.not_false]) | ((with_reducible apply And.intro);focus (first | trivial | omega | decide | (simp -implicitDefEqProofs only [maxLen];omega) | (simp [maxLen,an,aq,au,aA,ak,ax,av] <;> omega))) | fail)
  refine (hK _ _ _ _ [] (dg _ _) ?_).2
  have:ys.findIdx? p=none:=by
   rw [List.findIdx?_eq_none_iff]
   intro x hx
   obtain ⟨j,hj,rfl⟩:=List.getElem_of_mem hx
   exact hk2 j hj hj
  rw [this]
  simp [dx,bK,newL,dD,dh,bD,bw,lk,bL,cG,cQ,cJ,dS,dR,ag,dy,bN,aR,cV,dz,ek,aZ,eg,aP,cW,cL,hij,Ne.symm hij]
def dW (ys:List Int) (p:Int→Bool):List Int:=ys.filter fun y=>!p y
def mC (ys:List Int) (p:Int→Bool):List Int:=dW ys p++List.replicate (ys.length - (dW ys p).length) 0
theorem NB (ys:List Int) (hb:ys.length≤8589934592) :
 aJ Go.Proofs.Try.prog 70 [.row i v ys.length,.fn f [.ptr j 0]] [(i,.row 1 v (aI (aK ys))),(j,.var [.rv cap])] [(i,.row 1 v (aI (aK (mC ys p))))] (.row i v (dW ys p).length):=by
 refine uz Kz [i,j] [.row 1 v (aI (aK ys)),.var [.rv cap]] [.row 1 v (aI (aK ys)),.var [.rv cap]] [.row 0 v ys.length,.fn f [.ptr 1 0]] [.row i v ys.length,.fn f [.ptr j 0]] _ _ (by simp) (by simp [aN,fL,bq,fW]) rfl (by simp [bK,hij]) rfl (zF zO (wR (by simp [aN,fW,fL,bf,bl,lg,bq,lp,lf,de,kV,bK]))) (fun K hK=>?_)
 have vm:=NH f 0 1 v cap p (by decide) hf ys hb
 conv in fc _ _ _ _=>reduce
 simp -implicitDefEqProofs only [go_sem,Int.reduceNegSucc]
 cases ny:ys.findIdx? p with
 | none=>
   rw [ny] at vm
   have hno:dW ys p=ys:=by
    rw [List.findIdx?_eq_none_iff] at ny
    exact List.filter_eq_self.2 fun a ha=>by rw [ny a ha];rfl
   have e1:((-1:Int) == -1)=true:=rfl
   have cz:=vm;repeat' (first | (simp -implicitDefEqProofs only [go_sem,Int.reduceNegSucc,e1]) | (with_reducible refine aB ?_) | (refine cD cz ?_ ?_ ?_;(focus (simp [aW,ag] <;> fail));(focus (simp [bp,bk] <;> fail))) | (refine cY cz ?_ ?_ ?_;(focus (simp [aW,ag] <;> fail));(focus (simp [bp,bk] <;> fail))) | ((first | refine aj (fun hg=>?_) (fun hg=>?_) | refine aC (fun hg=>?_) (fun hg=>?_) | refine aD (fun hg=>?_) (fun hg=>?_)) <;> try simp -implicitDefEqProofs only [hg,Bool.not_true,Bool.not_false]) | ((with_reducible apply And.intro);focus (first | trivial | omega | decide | (simp -implicitDefEqProofs only [maxLen];omega) | (simp [maxLen,an,aq,au,aA,ak,ax,av] <;> omega))) | fail)
   refine (hK _ _ _ _ [] (dg _ _) ?_).2
   simp [dx,bK,newL,dD,dh,bD,bw,lk,bL,cG,cQ,cJ,dS,dR,ag,dy,bN,aR,cV,dz,ek,aZ,eg,aP,cW,cL,hij,Ne.symm hij,hno,mC]
 | some k0=>
   rw [ny] at vm
   rw [List.findIdx?_eq_some_iff_getElem] at ny
   obtain ⟨cK,eR,pS⟩:=ny
   have e1:(((k0:Nat):Int) == -1)=false:=by simp
   have w0:=cr (k:=k0) (by omega)
   have cA:=vm;repeat' (first | (simp -implicitDefEqProofs only [go_sem,Int.reduceNegSucc,e1,w0]) | (with_reducible refine aB ?_) | (refine cD cA ?_ ?_ ?_;(focus (simp [aW,ag] <;> fail));(focus (simp [bp,bk] <;> fail))) | (refine cY cA ?_ ?_ ?_;(focus (simp [aW,ag] <;> fail));(focus (simp [bp,bk] <;> fail))) | ((first | refine aj (fun hg=>?_) (fun hg=>?_) | refine aC (fun hg=>?_) (fun hg=>?_) | refine aD (fun hg=>?_) (fun hg=>?_)) <;> try simp -implicitDefEqProofs only [hg,Bool.not_true,Bool.not_false]) | ((with_reducible apply And.intro);focus (first | trivial | omega | decide | (simp -implicitDefEqProofs only [maxLen];omega) | (simp [maxLen,an,aq,au,aA,ak,ax,av] <;> omega))) | fail)
   let kept:Nat→List Int:=fun j=>dW (ys.take j) p
   have KT:∀ j,(kept j).length≤j:=fun j=>by
    have:=List.length_filter_le (fun y=>!p y) (ys.take j)
    simp -implicitDefEqProofs only [List.length_take] at this
    show (dW (ys.take j) p).length≤j
    unfold dW;omega
   have Cb:∀ j (h:j<ys.length),kept (j+1)=kept j++if p (ys[j]'h)=true then [] else [ys[j]'h]:=fun j h=>by
    show dW _ _=dW _ _++_
    rw [List.take_succ_eq_append_getElem h]
    unfold dW
    rw [List.filter_append]
    cases fQ:p (ys[j]'h) <;> simp [fQ]
   have KS:kept k0=ys.take k0:=List.filter_eq_self.2 fun a ha=>by
    obtain ⟨q,hq,rfl⟩:=List.getElem_of_mem ha
    have Iv:q<k0:=by simp at hq;omega
    have:=pS q Iv
    simp -implicitDefEqProofs only [Bool.not_eq_true] at this
    simp [this]
   have yH:kept (k0+1)=ys.take k0:=by rw [Cb k0 cK,KS,eR];simp
   refine cN (ι:=List Int×Nat) (fun q=>[(6,.rv (.int .i64 q.2)),(5,.rv (.int .i64 (kept q.2).length)),(0,.row 0 v ys.length),(1,.fn f [.ptr 1 0])]) (fun q=>[some (.row 1 v (aI (aK q.1))),some (.var [.rv cap])]) (fun q=>q.1.length=ys.length∧q.2≤ys.length∧(kept q.2).length<q.2∧q.1.take (kept q.2).length=kept q.2∧q.1.drop q.2=ys.drop q.2) (fun q=>ys.length - q.2) (ys,k0+1) ⟨rfl,cK,?_,?_,rfl⟩ (bA ?_) (fun q hq K' hN hX hR=>?_)
   ·show (kept (k0+1)).length<k0+1
    rw [yH];simp;omega
   ·show ys.take (kept (k0+1)).length=kept (k0+1)
    rw [yH];simp
   ·have:(kept (k0+1)).length=k0:=by rw [yH];simp;omega
    simp [lk,this]
   obtain ⟨zs,j⟩:=q
   obtain ⟨q1,q2,q3,q4,q5⟩:=hq
   dsimp only at q1 q2 q3 q4 q5 ⊢
   simp -implicitDefEqProofs only [go_sem,Int.reduceNegSucc]
   refine aj (fun hg=>?_) (fun hg=>?_)
   ·have hj:j<ys.length:=by simp at hg;omega
    have xY:zs[j]'(by omega)=ys[j]'hj:=by
     have h1:=List.getElem_drop (xs:=zs) (i:=j) (j:=0) (h:=by simp;omega)
     have h2:=List.getElem_drop (xs:=ys) (i:=j) (j:=0) (h:=by simp;omega)
     simp -implicitDefEqProofs only [Nat.add_zero] at h1 h2
     rw [← h1,← h2]
     congr 1
    have hx:=ow (l:=zs) (i:=j) (by omega)
    rw [xY] at hx
    have hzl:=ak zs
    have mL:=Cb j hj
    have wj:=cr (k:=j) (by omega)
    have wi:=cr (k:=(kept j).length) (by omega)
    have eT:=ow (l:=zs) (i:=(kept j).length) (by omega)
    have cS:=hf (ys[j]'hj) 1;repeat' (first | (simp -implicitDefEqProofs only [go_sem,Int.reduceNegSucc,hx,hzl,q1,eT,gh,wj,wi]) | (with_reducible refine aB ?_) | (refine cD cS ?_ ?_ ?_;(focus (simp [aW,ag] <;> fail));(focus (simp [bp,bk] <;> fail))) | (refine cY cS ?_ ?_ ?_;(focus (simp [aW,ag] <;> fail));(focus (simp [bp,bk] <;> fail))) | ((first | refine aj (fun hg=>?_) (fun hg=>?_) | refine aC (fun hg=>?_) (fun hg=>?_) | refine aD (fun hg=>?_) (fun hg=>?_)) <;> try simp -implicitDefEqProofs only [hg,Bool.not_true,Bool.not_false]) | ((with_reducible apply And.intro);focus (first | trivial | omega | decide | (simp -implicitDefEqProofs only [maxLen];omega) | (simp [maxLen,an,aq,au,aA,ak,ax,av] <;> omega))) | fail)
    ·have fQ:p (ys[j]'hj)=false:=by simpa using hg
     rw [fQ] at mL
     simp -implicitDefEqProofs only [Bool.false_eq_true,if_false] at mL
     refine hN (zs.set (kept j).length (ys[j]'hj),j+1) _ _ ⟨by simp [q1],by omega,?_,?_,?_⟩ (by dsimp only;omega) (bA (by simp [lk,mL]))
     ·show (kept (j+1)).length<j+1
      rw [mL];simp;omega
     ·show (zs.set (kept j).length (ys[j]'hj)).take (kept (j+1)).length=kept (j+1)
      rw [mL]
      simp -implicitDefEqProofs only [List.length_append,List.length_singleton]
      rw [List.take_succ_eq_append_getElem (by simp;omega),List.take_set_of_le (by omega),q4]
      simp
     ·show (zs.set (kept j).length (ys[j]'hj)).drop (j+1)=ys.drop (j+1)
      rw [List.drop_set_of_lt (by omega),← List.drop_drop,q5,List.drop_drop]
    ·have fQ:p (ys[j]'hj)=true:=by simpa using hg
     rw [fQ] at mL
     simp -implicitDefEqProofs only [if_true,List.append_nil] at mL
     refine hN (zs,j+1) _ _ ⟨q1,by omega,?_,?_,?_⟩ (by dsimp only;omega) (bA (by simp [lk,mL]))
     ·show (kept (j+1)).length<j+1
      rw [mL];omega
     ·show zs.take (kept (j+1)).length=kept (j+1)
      rw [mL];exact q4
     ·show zs.drop (j+1)=ys.drop (j+1)
      rw [← List.drop_drop,q5,List.drop_drop]
   ·have hj:j=ys.length:=by simp at hg;omega
    subst hj
    have hkk:kept ys.length=dW ys p:=by show dW (ys.take ys.length) p=_;rw [List.take_length]
    have fh:=KT ys.length
    rw [hkk] at fh q4 q3
    simp -implicitDefEqProofs only [hkk,go_sem,Int.reduceNegSucc]
    refine hX _ _ _ ?_
    have hnz:(((dW ys p).length:Int)=0)=((dW ys p).length=0):=propext (by omega)
    repeat' (first | (simp -implicitDefEqProofs only [go_sem,Int.reduceNegSucc]) | (with_reducible refine aB ?_) | ((first | refine aj (fun hg=>?_) (fun hg=>?_) | refine aC (fun hg=>?_) (fun hg=>?_) | refine aD (fun hg=>?_) (fun hg=>?_)) <;> try simp -implicitDefEqProofs only [hg,Bool.not_true,Bool.not_false]) | ((with_reducible apply And.intro);focus (first | trivial | omega | decide | (simp -implicitDefEqProofs only [maxLen];omega) | (simp [maxLen,an,aq,au,aA,ak,ax,av] <;> omega))) | fail)
    have hrow:aI (List.take (dW ys p).length (aK zs))++List.replicate (ys.length - (dW ys p).length) [U.rv (.int .i64 0)]++List.drop ((dW ys p).length+(List.replicate (ys.length - (dW ys p).length) [U.rv (.int .i64 0)]).length) (aI (aK zs))=aI (aK (mC ys p)):=by
     rw [List.drop_of_length_le (by simp [ax,ak];omega),List.append_nil,tF,show List.take (dW ys p).length (aK zs)=aK (zs.take (dW ys p).length) by simp [aK,List.map_take],q4,Dj]
     simp [aK,mC]
    rw [hrow]
    refine (hK _ _ _ _ [] (dg _ _) ?_).2
    simp [dx,bK,newL,dD,dh,bD,bw,lk,bL,cG,cQ,cJ,dS,dR,ag,dy,bN,aR,cV,dz,ek,aZ,eg,aP,cW,cL,hij,Ne.symm hij]
end
section
variable (l:List Nd) (n:Int)
theorem NC (hb:l.length≤8589934592) (m:Nat):aJ Go.Proofs.Try.prog 48 [.rv (bZ l),.rv (.int .i64 n)] [] [(m,.row 1 1 (aI (aK (mC (bt (eI l n)) fun m=>!kW l m))))] (.row m 1 (cH l n).length):=by
 refine kC Ki [] [] [] [.rv (bZ l),.rv (.int .i64 n)] [.rv (bZ l),.rv (.int .i64 n)] _ _ (by simp) (by simp [aN,bf]) rfl (by simp [bK]) (by simp [de]) (fun K hK=>?_)
 have fh:=Cc l n
 have hkn:=LK (eI l n)
 have hd:=NB 72 1 0 1 (bZ l) (fun m=>!kW l m) (by decide) (fun m j=>NF l m j) (bt (eI l n)) (by rw [hkn];omega)
 rw [hkn] at hd
 have hfl:(dW (bt (eI l n)) fun m=>!kW l m).length=(cH l n).length:=by
  unfold dW cH bt
  rw [List.filter_map,List.length_map]
  simp [Function.comp_def]
 rw [hfl] at hd
 conv in fc _ _ _ _=>reduce
 simp -implicitDefEqProofs only [go_sem,Int.reduceNegSucc]
 refine cD (NJ l n 1 hb) (by simp [aW,ag]) (by simp [bp,bk]) ?_
 have dc:=hd;repeat' (first | (simp -implicitDefEqProofs only [go_sem,Int.reduceNegSucc]) | (with_reducible refine aB ?_) | (refine cD dc ?_ ?_ ?_;(focus (simp [aW,ag] <;> fail));(focus (simp [bp,bk] <;> fail))) | (refine cY dc ?_ ?_ ?_;(focus (simp [aW,ag] <;> fail));(focus (simp [bp,bk] <;> fail))) | ((first | refine aj (fun hg=>?_) (fun hg=>?_) | refine aC (fun hg=>?_) (fun hg=>?_) | refine aD (fun hg=>?_) (fun hg=>?_)) <;> try simp -implicitDefEqProofs only [hg,Bool.not_true,Bool.not_false]) | ((with_reducible apply And.intro);focus (first | trivial | omega | decide | (simp -implicitDefEqProofs only [maxLen];omega) | (simp [maxLen,an,aq,au,aA,ak,ax,av] <;> omega))) | fail)
 refine (hK _ _ _ _ [none,some m] (dg _ _) ?_).2
 simp [dx,bK,newL,dD,dh,bD,bw,lk,bL,cG,cQ,cJ,dS,dR,ag,dy,bN,aR,cV,dz,ek,aZ,eg,aP,cW,cL]
theorem Dt (hb:l.length≤8589934592):aJ Go.Proofs.Try.prog 48 [.rv (bZ l),.rv (.int .i64 n)] [] [] (.rv (.sl 1 (aK (bt (cH l n))))):=by
 refine Fg (rs:=[bZ l,.int .i64 n]) (NC l n hb 0) ?_ ⟨_,.inl rfl⟩
 have hfl:(dW (bt (eI l n)) fun m=>!kW l m)=bt (cH l n):=by
  unfold dW cH bt
  rw [List.filter_map]
  simp [Function.comp_def]
 have qN:(cH l n).length=(bt (cH l n)).length:=by simp [bt]
 refine .fz _ _ ?_
 have h1:=pH (τ:=fun _=>none) (h:=bu (fun _=>none) [(0,HB.row 1 1 (aI (aK (mC (bt (eI l n)) fun m=>!kW l m))))]) (j:=0) (e:=1) (af:=1) (len:=(cH l n).length) (xs:=aK (mC (bt (eI l n)) fun m=>!kW l m)) (by simp [bu,up]) rfl (by rw [ak,mC,List.length_append,hfl,← qN];omega) (lQ _)
 rw [show (aK (mC (bt (eI l n)) fun m=>!kW l m)).take (cH l n).length=aK (bt (cH l n)) by
  rw [qN]
  simp -implicitDefEqProofs only [aK,← List.map_take,mC,hfl]
  rw [List.take_left]] at h1
 exact h1
end
end Go.aH

namespace Go.aH
open Go
theorem DQ {l:List Nd} (ht:cZ l=true):dJ l:=tG.1 (by unfold cZ at ht;simp -implicitDefEqProofs only [Bool.and_eq_true] at ht;exact ht.1)
theorem zY {l:List Nd} (h:fA l=0):cZ l=true:=by
 unfold fA at h
 cases ht:cZ l with
 | true=>rfl
 | false=>rw [ht] at h;simp at h
def Pq (l:List Nd) (k p:Nat):List Nat:=(aS l k p).filter fun (m:Nat)=>kW l m
def PG (l:List Nd) (n:Int) (i:Nat):Int:=if eH l n=true∧n<i then (if (i:Int)<xu l n then (i:Int) else xu l n) else 0
end Go.aH

namespace Go.aH
open Go
theorem CA (xs:List Nat):(aK (bt xs)).length=xs.length:=by simp [aK,bt]
def Pr (p:Int→Bool) (xs:List Nat):Int:=match xs.find? (fun (m:Nat)=>p m) with
 | some k=>k
 | none=>-1
end Go.aH

namespace Go.aH
open Go
theorem JV:aV Go.Proofs.Try.prog 53 9 (fc Go.Proofs.Try.prog 53 9 [(.t 2)]) [(.t 2)]:=bn (by kernel_rfl)
theorem JY:aV Go.Proofs.Try.prog 54 47 (fc Go.Proofs.Try.prog 54 47 [(.t 2),(.t 3)]) [(.t 2),(.t 3)]:=bn (by kernel_rfl)
theorem JU:aV Go.Proofs.Try.prog 68 12 (fc Go.Proofs.Try.prog 68 12 [(.t 6)]) [(.t 6)]:=bn (by kernel_rfl)
def bR (x:Int):Bool:=decide (x≥-1125899906842624) && decide (x≤1125899906842624)
theorem lB {x:Int}:bR x=true↔-1125899906842624≤x∧x≤1125899906842624:=by simp [bR]
def dH (xs:List Int):Bool:=xs.all bR && bR xs.sum
def dA (xs:List Int):Int:=if dH xs=true then xs.sum else 0
theorem tH (a:Int):a.fdiv (2 ^ min 25 64)=a / 33554432:=by
 rw [Int.fdiv_eq_ediv_of_nonneg _ (by decide)];rfl
theorem EB (a:Int):IntKind.i64.wrap ((BitVec.ofInt 64 a &&& BitVec.ofInt 64 33554431).toNat:Int)=a % 33554432:=by
 have h1:(BitVec.ofInt 64 a &&& BitVec.ofInt 64 33554431).toNat=(BitVec.ofInt 64 a).toNat % 33554432:=by
  show (BitVec.ofInt 64 a &&& BitVec.ofInt 64 33554431).toNat=_
  rw [BitVec.toNat_and]
  exact Nat.and_two_pow_sub_one_eq_mod _ 25
 have h2:(((BitVec.ofInt 64 a).toNat % 33554432:Nat):Int)=a % 33554432:=by
  rw [BitVec.toNat_ofInt]
  omega
 rw [h1,h2,wrap_i64 (by omega) (by omega)]
theorem rP (a:Int):IntKind.i64.wrap ((@BitVec.toNat 64 (@HAnd.hAnd (BitVec 64) (BitVec 64) (BitVec 64) (@instHAndOfAndOp (BitVec IntKind.i64.bits) (@BitVec.instAndOp IntKind.i64.bits)) (BitVec.ofInt 64 a) (BitVec.ofInt 64 33554431)):Nat):Int)=a % 33554432:=EB a
theorem gj (x:Int):aJ Go.Proofs.Try.prog 53 [.rv (.int .i64 x)] [] [] (.rv (.bool (bR x))):=by
 refine bJ JV [.rv (.int .i64 x)] _ (by simp) (by simp [aN,bl,bz,bf,bq,ai.sv,Ln.sv,Nd.sv]) (fun K hK=>?_)
 conv in fc _ _ _ _=>reduce
 simp -implicitDefEqProofs only [go_sem,Int.reduceNegSucc]
 repeat' (first | (simp -implicitDefEqProofs only [go_sem,Int.reduceNegSucc]) | (with_reducible refine aB ?_) | ((first | refine aj (fun hg=>?_) (fun hg=>?_) | refine aC (fun hg=>?_) (fun hg=>?_) | refine aD (fun hg=>?_) (fun hg=>?_)) <;> try simp -implicitDefEqProofs only [hg,Bool.not_true,Bool.not_false]) | ((with_reducible apply And.intro);focus (first | trivial | omega | decide | (simp -implicitDefEqProofs only [maxLen];omega) | (simp [maxLen,an,aq,au,aA,ak,ax,av] <;> omega))) | fail)
 all_goals (refine (hK _ _ (bX ?_)).2;clear hK;simp_all [lk,bR];try (intro _;omega))
def PK (x:Ln) (d:Int):Int:=if x.kind=1 then x.n else d
def uJ (v lo hi:Int):Int:=if (if v>hi then hi else v)<lo then lo else (if v>hi then hi else v)
theorem Dw (v lo hi:Int):aJ Go.Proofs.Try.prog 68 [.rv (.int .i64 v),.rv (.int .i64 lo),.rv (.int .i64 hi)] [] [] (.rv (.int .i64 (uJ v lo hi))):=by
 refine bJ JU [.rv (.int .i64 v),.rv (.int .i64 lo),.rv (.int .i64 hi)] _ (by simp) (by simp [aN,bl,bz,bf,bq,ai.sv,Ln.sv,Nd.sv]) (fun K hK=>?_)
 conv in fc _ _ _ _=>reduce
 simp -implicitDefEqProofs only [go_sem,Int.reduceNegSucc]
 repeat' (first | (simp -implicitDefEqProofs only [go_sem,Int.reduceNegSucc]) | (with_reducible refine aB ?_) | ((first | refine aj (fun hg=>?_) (fun hg=>?_) | refine aC (fun hg=>?_) (fun hg=>?_) | refine aD (fun hg=>?_) (fun hg=>?_)) <;> try simp -implicitDefEqProofs only [hg,Bool.not_true,Bool.not_false]) | ((with_reducible apply And.intro);focus (first | trivial | omega | decide | (simp -implicitDefEqProofs only [maxLen];omega) | (simp [maxLen,an,aq,au,aA,ak,ax,av] <;> omega))) | fail)
 exact (hK _ _ (bX rfl)).2
theorem Ez {p:Int→Bool} {xs:List Int} (h:∀ i,(h:i<xs.length)→p xs[i]=true):xs.all p=true:=by
 rw [List.all_eq_true];intro x hx
 obtain ⟨i,hi,rfl⟩:=List.getElem_of_mem hx
 exact h i hi
theorem DO {xs:List Int} {k:Nat} (h:k<xs.length):(xs.take (k+1)).sum=(xs.take k).sum+xs[k]:=by
 rw [List.take_succ_eq_append_getElem h,List.sum_append];simp
theorem LO {xs:List Int} {i:Nat} (h:i<xs.length) (hf:bR xs[i]=false):dH xs=false:=by
 unfold dH
 rw [show xs.all bR=false from by
  rw [List.all_eq_false];exact ⟨_,List.getElem_mem h,by simp [hf]⟩]
 rfl
theorem Oa (xs:List Int) (hb:xs.length≤1000):aJ Go.Proofs.Try.prog 54 [.rv (.sl 1 (aK xs))] [] [] (.aM [.rv (.int .i64 (dA xs)),.rv (.bool (dH xs))]):=by
 refine bJ JY [.rv (.sl 1 (aK xs))] _ (by simp) (by simp [aN,bl,bz,bf,bq,ai.sv,Ln.sv,Nd.sv]) (fun K hK=>?_)
 have hl:=ak xs
 conv in fc _ _ _ _=>reduce
 simp -implicitDefEqProofs only [hl,go_sem,Int.reduceNegSucc]
 repeat' (first | (simp -implicitDefEqProofs only [go_sem,Int.reduceNegSucc,hl]) | (with_reducible refine aB ?_) | ((first | refine aj (fun hg=>?_) (fun hg=>?_) | refine aC (fun hg=>?_) (fun hg=>?_) | refine aD (fun hg=>?_) (fun hg=>?_)) <;> try simp -implicitDefEqProofs only [hg,Bool.not_true,Bool.not_false]) | ((with_reducible apply And.intro);focus (first | trivial | omega | decide | (simp -implicitDefEqProofs only [maxLen];omega) | (simp [maxLen,an,aq,au,aA,ak,ax,av] <;> omega))) | fail)
 refine cN (ι:=Nat×Int×Int) (fun q=>[(11,.rv (.int .i64 q.1)),(10,.rv (.int .i64 xs.length)),(9,.rv (.sl 1 (aK xs))),(4,.rv (.int .i64 q.2.1)),(5,.rv (.int .i64 q.2.2))]) (fun _=>[]) (fun q=>q.1≤xs.length∧(∀ i,(h:i<xs.length)→i<q.1→bR xs[i]=true)∧q.2.1*33554432+q.2.2=(xs.take q.1).sum∧-(33554432*q.1)≤q.2.1∧q.2.1≤33554432*q.1∧0≤q.2.2∧q.2.2≤33554432*q.1) (fun q=>xs.length - q.1) (0,0,0) ⟨by simp,fun i _ h=>absurd h (by simp),by simp,by simp,by simp,by simp,by simp⟩ (bA (by simp [lk])) (fun q hk K' hN hX hR=>?_)
 obtain ⟨k,hi,lo⟩:=q
 obtain ⟨ct,hk2,cT,HW,HX,HY,HZ⟩:=hk
 dsimp only at ct hk2 cT HW HX HY HZ ⊢
 simp -implicitDefEqProofs only [go_sem,Int.reduceNegSucc]
 refine aj (fun hg=>?_) (fun hg=>?_)
 ·have ay:k<xs.length:=by simp at hg;omega
  have hx:=ow ay
  have wu:=cr (k:=k) (by omega)
  have hf:=gj xs[k]
  cases mG:bR xs[k] with
  | false=>
    rw [mG] at hf
    have br:=hf;repeat' (first | (simp -implicitDefEqProofs only [go_sem,Int.reduceNegSucc,hx,hl,wu]) | (with_reducible refine aB ?_) | (with_reducible first | refine aF br ?_ | refine aG br ?_) | ((first | refine aj (fun hg=>?_) (fun hg=>?_) | refine aC (fun hg=>?_) (fun hg=>?_) | refine aD (fun hg=>?_) (fun hg=>?_)) <;> try simp -implicitDefEqProofs only [hg,Bool.not_true,Bool.not_false]) | ((with_reducible apply And.intro);focus (first | trivial | omega | decide | (simp -implicitDefEqProofs only [maxLen];omega) | (simp [maxLen,an,aq,au,aA,ak,ax,av] <;> omega))) | fail)
    refine hR _ _ (hK _ _ ?_).2
    have:=LO ay mG
    exact jT (by simp [lk,dA,this]) (by simp [lk,this])
  | true=>
    rw [mG] at hf
    have ny:=lB.1 mG
    have hst:=DO ay
    have w1:IntKind.i64.wrap (hi+xs[k] / 33554432)=hi+xs[k] / 33554432:=by rw [wrap_i64 (by omega) (by omega)]
    have w2:IntKind.i64.wrap (lo+xs[k] % 33554432)=lo+xs[k] % 33554432:=by rw [wrap_i64 (by omega) (by omega)]
    have y_2:=hf;repeat' (first | (simp -implicitDefEqProofs only [go_sem,Int.reduceNegSucc,hx,hl,wu,tH,rP,w1,w2]) | (with_reducible refine aB ?_) | (with_reducible first | refine aF y_2 ?_ | refine aG y_2 ?_) | ((first | refine aj (fun hg=>?_) (fun hg=>?_) | refine aC (fun hg=>?_) (fun hg=>?_) | refine aD (fun hg=>?_) (fun hg=>?_)) <;> try simp -implicitDefEqProofs only [hg,Bool.not_true,Bool.not_false]) | ((with_reducible apply And.intro);focus (first | trivial | omega | decide | (simp -implicitDefEqProofs only [maxLen];omega) | (simp [maxLen,an,aq,au,aA,ak,ax,av] <;> omega))) | fail)
    refine hN (k+1,hi+xs[k] / 33554432,lo+xs[k] % 33554432) _ _ ⟨by dsimp only;omega,fun i h hi=>?_,by dsimp only;omega,by dsimp only;omega,by dsimp only;omega,by dsimp only;omega,by dsimp only;omega⟩ (by dsimp only;omega) (bA (by simp [lk]))
    dsimp only at hi
    by_cases e:i=k
    ·subst e;exact mG
    ·exact hk2 i h (by omega)
 ·have ay:k=xs.length:=by simp at hg;omega
  subst ay
  simp -implicitDefEqProofs only [go_sem,Int.reduceNegSucc]
  refine hX _ _ _ ?_
  have hall:=Ez (fun i h=>hk2 i h h)
  rw [List.take_length] at *
  have w1:IntKind.i64.wrap (hi+lo / 33554432)=hi+lo / 33554432:=by rw [wrap_i64 (by omega) (by omega)]
  by_cases h1:hi+lo / 33554432 < -33554432
  ·have e1:decide (hi+lo / 33554432 < -33554432)=true:=decide_eq_true h1
   have:dH xs=false:=by
    have:bR xs.sum=false:=by rw [Bool.eq_false_iff];intro h;have:=lB.1 h;omega
    simp [dH,this]
   repeat' (first | (simp -implicitDefEqProofs only [go_sem,Int.reduceNegSucc,tH,rP,w1,e1]) | (with_reducible refine aB ?_) | ((first | refine aj (fun hg=>?_) (fun hg=>?_) | refine aC (fun hg=>?_) (fun hg=>?_) | refine aD (fun hg=>?_) (fun hg=>?_)) <;> try simp -implicitDefEqProofs only [hg,Bool.not_true,Bool.not_false]) | ((with_reducible apply And.intro);focus (first | trivial | omega | decide | (simp -implicitDefEqProofs only [maxLen];omega) | (simp [maxLen,an,aq,au,aA,ak,ax,av] <;> omega))) | fail)
   refine (hK _ _ ?_).2
   exact jT (by simp [lk,dA,this]) (by simp [lk,this])
  ·have e1:decide (hi+lo / 33554432 < -33554432)=false:=decide_eq_false h1
   by_cases h2:hi+lo / 33554432>33554432
   ·have e2:decide (hi+lo / 33554432>33554432)=true:=decide_eq_true h2
    have:dH xs=false:=by
     have:bR xs.sum=false:=by rw [Bool.eq_false_iff];intro h;have:=lB.1 h;omega
     simp [dH,this]
    repeat' (first | (simp -implicitDefEqProofs only [go_sem,Int.reduceNegSucc,tH,rP,w1,e1,e2]) | (with_reducible refine aB ?_) | ((first | refine aj (fun hg=>?_) (fun hg=>?_) | refine aC (fun hg=>?_) (fun hg=>?_) | refine aD (fun hg=>?_) (fun hg=>?_)) <;> try simp -implicitDefEqProofs only [hg,Bool.not_true,Bool.not_false]) | ((with_reducible apply And.intro);focus (first | trivial | omega | decide | (simp -implicitDefEqProofs only [maxLen];omega) | (simp [maxLen,an,aq,au,aA,ak,ax,av] <;> omega))) | fail)
    refine (hK _ _ ?_).2
    exact jT (by simp [lk,dA,this]) (by simp [lk,this])
   ·have e2:decide (hi+lo / 33554432>33554432)=false:=decide_eq_false h2
    have hf:=gj xs.sum
    have w2:IntKind.i64.wrap (IntKind.i64.wrap ((hi+lo / 33554432)*2 ^ min 25 64)+lo % 33554432)=xs.sum:=by
     rw [show (2:Int) ^ min 25 64=33554432 from rfl,wrap_i64 (n:=(hi+lo / 33554432)*33554432) (by omega) (by omega),wrap_i64 (by omega) (by omega)]
     omega
    cases mG:bR xs.sum with
    | false=>
      rw [mG] at hf
      have:dH xs=false:=by simp [dH,mG]
      have bP:=hf;repeat' (first | (simp -implicitDefEqProofs only [go_sem,Int.reduceNegSucc,tH,rP,w1,e1,e2,w2]) | (with_reducible refine aB ?_) | (with_reducible first | refine aF bP ?_ | refine aG bP ?_) | ((first | refine aj (fun hg=>?_) (fun hg=>?_) | refine aC (fun hg=>?_) (fun hg=>?_) | refine aD (fun hg=>?_) (fun hg=>?_)) <;> try simp -implicitDefEqProofs only [hg,Bool.not_true,Bool.not_false]) | ((with_reducible apply And.intro);focus (first | trivial | omega | decide | (simp -implicitDefEqProofs only [maxLen];omega) | (simp [maxLen,an,aq,au,aA,ak,ax,av] <;> omega))) | fail)
      refine (hK _ _ ?_).2
      exact jT (by simp [lk,dA,this]) (by simp [lk,this])
    | true=>
      rw [mG] at hf
      have:dH xs=true:=by simp [dH,mG,hall]
      have bV:=hf;repeat' (first | (simp -implicitDefEqProofs only [go_sem,Int.reduceNegSucc,tH,rP,w1,e1,e2,w2]) | (with_reducible refine aB ?_) | (with_reducible first | refine aF bV ?_ | refine aG bV ?_) | ((first | refine aj (fun hg=>?_) (fun hg=>?_) | refine aC (fun hg=>?_) (fun hg=>?_) | refine aD (fun hg=>?_) (fun hg=>?_)) <;> try simp -implicitDefEqProofs only [hg,Bool.not_true,Bool.not_false]) | ((with_reducible apply And.intro);focus (first | trivial | omega | decide | (simp -implicitDefEqProofs only [maxLen];omega) | (simp [maxLen,an,aq,au,aA,ak,ax,av] <;> omega))) | fail)
      refine (hK _ _ ?_).2
      exact jT (by simp [lk,dA,this]) (by simp [lk,this])
end Go.aH

namespace Go.aH
open Go
theorem Ku:aV Go.Proofs.Try.prog 43 49 (fc Go.Proofs.Try.prog 43 49 [(.c 6 2 true),(.t 7)]) [(.c 6 2 true),(.t 7)]:=bn (by kernel_rfl)
theorem Ks:aV Go.Proofs.Try.prog 44 20 (fc Go.Proofs.Try.prog 44 20 [(.t 6),(.t 7)]) [(.t 6),(.t 7)]:=bn (by kernel_rfl)
theorem Kt:aV Go.Proofs.Try.prog 45 20 (fc Go.Proofs.Try.prog 45 20 [(.t 6),(.t 7)]) [(.t 6),(.t 7)]:=bn (by kernel_rfl)
theorem Kv:aV Go.Proofs.Try.prog 65 10 (fc Go.Proofs.Try.prog 65 10 [(.t 4)]) [(.t 4)]:=bn (by kernel_rfl)
theorem JX:aV Go.Proofs.Try.prog 64 35 (fc Go.Proofs.Try.prog 64 35 [(.t 4),(.t 5)]) [(.t 4),(.t 5)]:=bn (by kernel_rfl)
theorem JZ:aV Go.Proofs.Try.prog 81 16 (fc Go.Proofs.Try.prog 81 16 [(.t 4)]) [(.t 4)]:=bn (by kernel_rfl)
theorem KF:aV Go.Proofs.Try.prog 85 8 (fc Go.Proofs.Try.prog 85 8 [(.c 2 2 true)]) [(.c 2 2 true)]:=bn (by kernel_rfl)
theorem KE:aV Go.Proofs.Try.prog 86 16 (fc Go.Proofs.Try.prog 86 16 [(.c 4 2 true)]) [(.c 4 2 true)]:=bn (by kernel_rfl)
theorem KG:aV Go.Proofs.Try.prog 52 12 (fc Go.Proofs.Try.prog 52 12 [(.t 2),(.t 3)]) [(.t 2),(.t 3)]:=bn (by kernel_rfl)
theorem JW:aV Go.Proofs.Try.prog 92 5 (fc Go.Proofs.Try.prog 92 5 [(.t 2)]) [(.t 2)]:=bn (by kernel_rfl)
theorem Kh:aV Go.Proofs.Try.prog 25 25 (fc Go.Proofs.Try.prog 25 25 [(.t 4)]) [(.t 4)]:=bn (by kernel_rfl)
structure Sz where
 auto:Bool
 n:Int
 deriving DecidableEq,Inhabited
def Sz.cells (x:Sz):List RV:=[.bool x.auto,.int .i64 x.n]
abbrev Sz.sv (x:Sz):U:=.agg (x.cells.map .rv)
structure Su where
 p:Int
 n:Int
 deriving DecidableEq,Inhabited
def Su.cells (x:Su):List RV:=[.int .i64 x.p,.int .i64 x.n]
abbrev Su.sv (x:Su):U:=.agg (x.cells.map .rv)
def oD (b p:Int):Bool:=decide (0≤b∧b≤1125899906842624∧-1000000≤p∧p≤1000000) && bR (b*p / 10000)
def tC (b p:Int):Int:=if oD b p=true then b*p / 10000 else 0
def dF (x:Ln) (b:Int) (has:Bool):Sz:=if x.kind=0∨x.kind=2∧has=false then ⟨true,0⟩ else if x.kind=1∧bR x.n=true then ⟨false,x.n⟩ else if x.kind=2 then ⟨false,tC b x.n⟩ else ⟨false,0⟩
def ef (x:Ln) (b:Int) (has:Bool):Bool:=decide (x.kind=0) || decide (x.kind=2) && (!has || oD b x.n) || decide (x.kind=1) && bR x.n
def bh (x:Sz) (d:Int):Int:=if x.auto=true then d else x.n
def fj (a b:Su):Su:=⟨max a.p b.p,min a.n b.n⟩
def nM (a:Su):Int:=dA [a.p,a.n]
def rJ (a:Su):Bool:=dH [a.p,a.n]
def nG (w:Int) (h:Sz):Bool:=decide (0≤w∧w≤1125899906842624) && (h.auto || decide (0≤h.n∧h.n≤1125899906842624))
theorem NY (x:Int):aJ Go.Proofs.Try.prog 92 [.rv (.int .i64 x)] [] [] (.rv (.int .i64 (x / 2))):=by
 refine bJ JW [.rv (.int .i64 x)] _ (by simp) (by simp [aN,bl,bz,bf,bq,ai.sv,Ln.sv,Nd.sv]) (fun K hK=>?_)
 conv in fc _ _ _ _=>reduce
 simp -implicitDefEqProofs only [go_sem,Int.reduceNegSucc]
 repeat' (first | (simp -implicitDefEqProofs only [go_sem,Int.reduceNegSucc]) | (with_reducible refine aB ?_) | ((first | refine aj (fun hg=>?_) (fun hg=>?_) | refine aC (fun hg=>?_) (fun hg=>?_) | refine aD (fun hg=>?_) (fun hg=>?_)) <;> try simp -implicitDefEqProofs only [hg,Bool.not_true,Bool.not_false]) | ((with_reducible apply And.intro);focus (first | trivial | omega | decide | (simp -implicitDefEqProofs only [maxLen];omega) | (simp [maxLen,an,aq,au,aA,ak,ax,av] <;> omega))) | fail)
 refine (hK _ _ (bX ?_)).2
 simp [lk]
 exact Int.fdiv_eq_ediv_of_nonneg _ (by decide)
theorem kk (x:Sz) (d:Int):aJ Go.Proofs.Try.prog 65 [x.sv,.rv (.int .i64 d)] [] [] (.rv (.int .i64 (bh x d))):=by
 refine bJ Kv [x.sv,.rv (.int .i64 d)] _ (by simp) (by simp [aN,bl,bz,bf,bq,ai.sv,Ln.sv,Nd.sv]) (fun K hK=>?_)
 conv in fc _ _ _ _=>reduce
 simp -implicitDefEqProofs only [Sz.sv,Sz.cells,go_sem,Int.reduceNegSucc]
 repeat' (first | (simp -implicitDefEqProofs only [go_sem,Int.reduceNegSucc]) | (with_reducible refine aB ?_) | ((first | refine aj (fun hg=>?_) (fun hg=>?_) | refine aC (fun hg=>?_) (fun hg=>?_) | refine aD (fun hg=>?_) (fun hg=>?_)) <;> try simp -implicitDefEqProofs only [hg,Bool.not_true,Bool.not_false]) | ((with_reducible apply And.intro);focus (first | trivial | omega | decide | (simp -implicitDefEqProofs only [maxLen];omega) | (simp [maxLen,an,aq,au,aA,ak,ax,av] <;> omega))) | fail)
 all_goals (refine (hK _ _ ?_).2;clear hK;simp -implicitDefEqProofs only [go_sem,Int.reduceNegSucc,bw,bD,bL,bN,aZ,aR,aP,bh] <;>(try simp_all [-Int.not_lt,-Int.not_le,aZ,aR,aP,ck,bh]) <;> try omega)
theorem DE (x:Int):aJ Go.Proofs.Try.prog 85 [.rv (.int .i64 x)] [] [] (Su.sv ⟨max x 0,min x 0⟩):=by
 refine bJ KF [.rv (.int .i64 x)] _ (by simp) (by simp [aN,bl,bz,bf,bq,ai.sv,Ln.sv,Nd.sv]) (fun K hK=>?_)
 conv in fc _ _ _ _=>reduce
 simp -implicitDefEqProofs only [Su.sv,Su.cells,go_sem,Int.reduceNegSucc]
 repeat' (first | (simp -implicitDefEqProofs only [go_sem,Int.reduceNegSucc]) | (with_reducible refine aB ?_) | ((first | refine aj (fun hg=>?_) (fun hg=>?_) | refine aC (fun hg=>?_) (fun hg=>?_) | refine aD (fun hg=>?_) (fun hg=>?_)) <;> try simp -implicitDefEqProofs only [hg,Bool.not_true,Bool.not_false]) | ((with_reducible apply And.intro);focus (first | trivial | omega | decide | (simp -implicitDefEqProofs only [maxLen];omega) | (simp [maxLen,an,aq,au,aA,ak,ax,av] <;> omega))) | fail)
 all_goals (refine (hK _ _ ?_).2;clear hK;simp -implicitDefEqProofs only [go_sem,Int.reduceNegSucc,bw,bD,bL,bN,aZ,aR,aP,Su.sv,Su.cells] <;>(try simp_all [-Int.not_lt,-Int.not_le,aZ,aR,aP,ck,Su.sv,Su.cells]) <;> try omega)
theorem rD (a b:Su):aJ Go.Proofs.Try.prog 86 [a.sv,b.sv] [] [] (fj a b).sv:=by
 refine bJ KE [a.sv,b.sv] _ (by simp) (by simp [aN,bl,bz,bf,bq,ai.sv,Ln.sv,Nd.sv]) (fun K hK=>?_)
 conv in fc _ _ _ _=>reduce
 simp -implicitDefEqProofs only [Su.sv,Su.cells,go_sem,Int.reduceNegSucc]
 repeat' (first | (simp -implicitDefEqProofs only [go_sem,Int.reduceNegSucc]) | (with_reducible refine aB ?_) | ((first | refine aj (fun hg=>?_) (fun hg=>?_) | refine aC (fun hg=>?_) (fun hg=>?_) | refine aD (fun hg=>?_) (fun hg=>?_)) <;> try simp -implicitDefEqProofs only [hg,Bool.not_true,Bool.not_false]) | ((with_reducible apply And.intro);focus (first | trivial | omega | decide | (simp -implicitDefEqProofs only [maxLen];omega) | (simp [maxLen,an,aq,au,aA,ak,ax,av] <;> omega))) | fail)
 all_goals (refine (hK _ _ ?_).2;clear hK;simp -implicitDefEqProofs only [go_sem,Int.reduceNegSucc,bw,bD,bL,bN,aZ,aR,aP,Su.sv,Su.cells,fj] <;>(try simp_all [-Int.not_lt,-Int.not_le,aZ,aR,aP,ck,Su.sv,Su.cells,fj]) <;> try omega)
def lN (xs:List Int):List (List U):=xs.map fun x=>[.rv (.int .i64 x)]
theorem BE (xs:List Int):lN xs=aI (aK xs):=by simp [lN,aI,aK]
theorem rC (id:Nat) (xs:List Int) (hb:xs.length≤1000):aJ Go.Proofs.Try.prog 54 [.row id 0 xs.length] [(id,.row 1 0 (lN xs))] [] (.aM [.rv (.int .i64 (dA xs)),.rv (.bool (dH xs))]):=by
 have:=Lj (id:=id) (v:=0) (n:=xs.length) (bs:=[]) (rs:=[.int .i64 (dA xs),.bool (dH xs)]) (Oa xs hb) (by simp;exact ⟨.int _ _,.bool _⟩) (by rw [ak]) (lQ _)
 rw [BE];exact this
theorem zu (a:Su):aJ Go.Proofs.Try.prog 52 [a.sv] [] [] (.aM [.rv (.int .i64 (nM a)),.rv (.bool (rJ a))]):=by
 refine bJ KG [a.sv] _ (by simp) (by simp [aN,bl,bz,bf,bq,ai.sv,Ln.sv,Nd.sv]) (fun K hK=>?_)
 have hs:=fun id=>rC id [a.p,a.n] (by simp)
 conv in fc _ _ _ _=>reduce
 simp -implicitDefEqProofs only [Su.sv,Su.cells,go_sem,Int.reduceNegSucc]
 simp [lN] at hs
 have br:=hs;repeat' (first | (simp -implicitDefEqProofs only [go_sem,Int.reduceNegSucc]) | (with_reducible refine aB ?_) | ((first | refine cD (br _) ?_ ?_ ?_ | refine cY (br _) ?_ ?_ ?_ | fail);(focus (simp [aW,ag] <;> fail));(focus (simp [bp,bk] <;> fail))) | ((first | refine aj (fun hg=>?_) (fun hg=>?_) | refine aC (fun hg=>?_) (fun hg=>?_) | refine aD (fun hg=>?_) (fun hg=>?_)) <;> try simp -implicitDefEqProofs only [hg,Bool.not_true,Bool.not_false]) | ((with_reducible apply And.intro);focus (first | trivial | omega | decide | (simp -implicitDefEqProofs only [maxLen];omega) | (simp [maxLen,an,aq,au,aA,ak,ax,av] <;> omega))) | fail)
 all_goals (refine (hK _ _ ?_).2;clear hK;simp -implicitDefEqProofs only [go_sem,Int.reduceNegSucc,bw,bD,bL,bN,aZ,aR,aP,nM,rJ] <;>(try simp_all [-Int.not_lt,-Int.not_le,aZ,aR,aP,ck,nM,rJ]) <;> try omega)
theorem Dy (w:Int) (h:Sz):aJ Go.Proofs.Try.prog 25 [.rv (.int .i64 w),h.sv] [] [] (.rv (.bool (nG w h))):=by
 refine bJ Kh [.rv (.int .i64 w),h.sv] _ (by simp) (by simp [aN,bl,bz,bf,bq,ai.sv,Ln.sv,Nd.sv]) (fun K hK=>?_)
 conv in fc _ _ _ _=>reduce
 simp -implicitDefEqProofs only [Sz.sv,Sz.cells,go_sem,Int.reduceNegSucc]
 repeat' (first | (simp -implicitDefEqProofs only [go_sem,Int.reduceNegSucc]) | (with_reducible refine aB ?_) | ((first | refine aj (fun hg=>?_) (fun hg=>?_) | refine aC (fun hg=>?_) (fun hg=>?_) | refine aD (fun hg=>?_) (fun hg=>?_)) <;> try simp -implicitDefEqProofs only [hg,Bool.not_true,Bool.not_false]) | ((with_reducible apply And.intro);focus (first | trivial | omega | decide | (simp -implicitDefEqProofs only [maxLen];omega) | (simp [maxLen,an,aq,au,aA,ak,ax,av] <;> omega))) | fail)
 all_goals (refine (hK _ _ ?_).2;clear hK;simp -implicitDefEqProofs only [go_sem,Int.reduceNegSucc,bw,bD,bL,bN,aZ,aR,aP,nG] <;>(try simp_all [-Int.not_lt,-Int.not_le,aZ,aR,aP,ck,nG]) <;> try omega)
end Go.aH

namespace Go.aH
open Go Go.Proofs
theorem Et:bQ Go.Proofs.Try.prog 2=some false:=by kernel_rfl
theorem Er:bQ Go.Proofs.Try.prog 4=some false:=by kernel_rfl
theorem Ev:bQ Go.Proofs.Try.prog 24=some true:=by kernel_rfl
theorem Mf {rs:List RV} (h:eo Go.Proofs.Try.prog 1 2 rs):∃ i:Int,kz Go.Proofs.Try.prog 2 rs = .rv (.int .i64 i):=by
 obtain ⟨i,rfl⟩:=mR h
 exact ⟨i,uf Et⟩
theorem Md {rs:List RV} (h:eo Go.Proofs.Try.prog 1 4 rs):∃ i:Bool,kz Go.Proofs.Try.prog 4 rs = .rv (.bool i):=by
 obtain ⟨i,rfl⟩:=rG h
 exact ⟨i,uf Er⟩
theorem Mh {rs:List RV} (h:eo Go.Proofs.Try.prog 2 24 rs):∃ x:Sz,kz Go.Proofs.Try.prog 24 rs=x.sv:=by
 have h:=wF Try.underlying24 h
 obtain ⟨_,_,rfl,h1,_,_,rfl,h2,rfl⟩:=h
 obtain ⟨a,rfl⟩:=rG h1
 obtain ⟨b,rfl⟩:=mR h2
 exact ⟨⟨a,b⟩,EK Ev⟩
end Go.aH

namespace Go.aH
open Go
theorem tK (a:Int):a.tdiv 10000=if 0≤a∨a % 10000=0 then a / 10000 else a / 10000+1:=by
 rw [Int.tdiv_eq_ediv]
 have:(10000:Int) ∣ a↔a % 10000=0:=Int.dvd_iff_emod_eq_zero
 simp -implicitDefEqProofs only [this]
 split <;> simp
theorem OL (a:Int):a.tmod 10000=if 0≤a∨a % 10000=0 then a % 10000 else a % 10000 - 10000:=by
 rw [Int.tmod_eq_emod]
 have:(10000:Int) ∣ a↔a % 10000=0:=Int.dvd_iff_emod_eq_zero
 simp -implicitDefEqProofs only [this]
 split <;> simp
theorem Ob (a:Int) (h : -100000000000≤a) (h2:a≤100000000000):aJ Go.Proofs.Try.prog 81 [.rv (.int .i64 a),.rv (.int .i64 10000)] [] [] (.rv (.int .i64 (a / 10000))):=by
 refine bJ JZ [.rv (.int .i64 a),.rv (.int .i64 10000)] _ (by simp) (by simp [aN,bl,bz,bf,bq,ai.sv,Ln.sv,Nd.sv]) (fun K hK=>?_)
 have e1:IntKind.i64.wrap (a.tdiv 10000)=a.tdiv 10000:=wrap_i64 (by rw [tK];split <;> omega) (by rw [tK];split <;> omega)
 have e2:IntKind.i64.wrap (a.tdiv 10000 - 1)=a.tdiv 10000 - 1:=wrap_i64 (by rw [tK];split <;> omega) (by rw [tK];split <;> omega)
 conv in fc _ _ _ _=>reduce
 simp -implicitDefEqProofs only [go_sem,Int.reduceNegSucc]
 repeat' (first | (simp -implicitDefEqProofs only [go_sem,Int.reduceNegSucc,e1,e2]) | (with_reducible refine aB ?_) | ((first | refine aj (fun hg=>?_) (fun hg=>?_) | refine aC (fun hg=>?_) (fun hg=>?_) | refine aD (fun hg=>?_) (fun hg=>?_)) <;> try simp -implicitDefEqProofs only [hg,Bool.not_true,Bool.not_false]) | ((with_reducible apply And.intro);focus (first | trivial | omega | decide | (simp -implicitDefEqProofs only [maxLen];omega) | (simp [maxLen,an,aq,au,aA,ak,ax,av] <;> omega))) | fail)
 all_goals (refine (hK _ _ (bX ?_)).2;clear hK;simp -implicitDefEqProofs only [decide_eq_true_eq,decide_eq_false_iff_not,OL] at hg;simp [lk,tK];split at hg <;>(try intros) <;>(try split) <;> omega)
theorem Mm {b p:Int}:b / 10000*p+b % 10000*p / 10000=b*p / 10000:=by
 have h:b*p=b % 10000*p+10000*(b / 10000*p):=by
  conv=>lhs;rw [← Int.emod_add_mul_ediv b 10000]
  rw [Int.add_mul,Int.mul_assoc]
 rw [h,Int.add_mul_ediv_left _ _ (by decide)];omega
theorem Cz {a b A B:Int} (h0:0≤a) (h:a≤A) (h1 : -B≤b) (h2:b≤B) : -(A*B)≤a*b∧a*b≤A*B:=by
 have hB:0≤B:=by omega
 have e1:=Int.mul_le_mul_of_nonneg_left h2 h0
 have e2:=Int.mul_le_mul_of_nonneg_right h hB
 have e3:=Int.mul_le_mul_of_nonneg_left h1 h0
 rw [Int.mul_neg] at e3
 omega
theorem NZ (b p:Int):aJ Go.Proofs.Try.prog 64 [.rv (.int .i64 b),.rv (.int .i64 p)] [] [] (.aM [.rv (.int .i64 (tC b p)),.rv (.bool (oD b p))]):=by
 refine bJ JX [.rv (.int .i64 b),.rv (.int .i64 p)] _ (by simp) (by simp [aN,bl,bz,bf,bq,ai.sv,Ln.sv,Nd.sv]) (fun K hK=>?_)
 conv in fc _ _ _ _=>reduce
 simp -implicitDefEqProofs only [go_sem,Int.reduceNegSucc]
 by_cases h:0≤b∧b≤1125899906842624∧-1000000≤p∧p≤1000000
 ·have g1:decide (b<0)=false:=decide_eq_false (by omega)
  have g2:decide (b>1125899906842624)=false:=decide_eq_false (by omega)
  have g3:decide (p < -1000000)=false:=decide_eq_false (by omega)
  have g4:decide (p>1000000)=false:=decide_eq_false (by omega)
  have q1:b.tdiv 10000=b / 10000:=Int.tdiv_eq_ediv_of_nonneg h.1
  have q2:b.tmod 10000=b % 10000:=Int.tmod_eq_emod_of_nonneg h.1
  have m1:=Cz (a:=b % 10000) (b:=p) (A:=9999) (B:=1000000) (by omega) (by omega) h.2.2.1 h.2.2.2
  have m2:=Cz (a:=b / 10000) (b:=p) (A:=112589990684) (B:=1000000) (by omega) (by omega) h.2.2.1 h.2.2.2
  have w1:IntKind.i64.wrap (b / 10000)=b / 10000:=wrap_i64 (by omega) (by omega)
  have w2:IntKind.i64.wrap (b % 10000*p)=b % 10000*p:=wrap_i64 (by omega) (by omega)
  have w3:IntKind.i64.wrap (b / 10000*p)=b / 10000*p:=wrap_i64 (by omega) (by omega)
  have w4:IntKind.i64.wrap (b / 10000*p+b % 10000*p / 10000)=b*p / 10000:=by rw [wrap_i64 (by omega) (by omega),Mm]
  have hd:=Ob (b % 10000*p) (by omega) (by omega)
  have hf:=gj (b*p / 10000)
  have e:oD b p=bR (b*p / 10000):=by simp [oD,h]
  have br:=hd;have y_2:=hf;repeat' (first | (simp -implicitDefEqProofs only [go_sem,Int.reduceNegSucc,g1,g2,g3,g4,q1,q2,w1,w2,w3,w4]) | (with_reducible refine aB ?_) | (with_reducible first | refine aF br ?_ | refine aG br ?_) | (with_reducible first | refine aF y_2 ?_ | refine aG y_2 ?_) | ((first | refine aj (fun hg=>?_) (fun hg=>?_) | refine aC (fun hg=>?_) (fun hg=>?_) | refine aD (fun hg=>?_) (fun hg=>?_)) <;> try simp -implicitDefEqProofs only [hg,Bool.not_true,Bool.not_false]) | ((with_reducible apply And.intro);focus (first | trivial | omega | decide | (simp -implicitDefEqProofs only [maxLen];omega) | (simp [maxLen,an,aq,au,aA,ak,ax,av] <;> omega))) | fail)
  all_goals (refine (hK _ _ (jT ?_ ?_)).2 <;> clear hK <;> simp_all [lk,tC])
 ·have e:oD b p=false:=by simp [oD];intro a1 a2 a3 a4;exact absurd ⟨a1,a2,a3,a4⟩ h
  repeat' (first | (simp -implicitDefEqProofs only [go_sem,Int.reduceNegSucc]) | (with_reducible refine aB ?_) | ((first | refine aj (fun hg=>?_) (fun hg=>?_) | refine aC (fun hg=>?_) (fun hg=>?_) | refine aD (fun hg=>?_) (fun hg=>?_)) <;> try simp -implicitDefEqProofs only [hg,Bool.not_true,Bool.not_false]) | ((with_reducible apply And.intro);focus (first | trivial | omega | decide | (simp -implicitDefEqProofs only [maxLen];omega) | (simp [maxLen,an,aq,au,aA,ak,ax,av] <;> omega))) | fail)
  all_goals (first | (refine (hK _ _ (jT ?_ ?_)).2 <;> clear hK <;> simp [lk,tC,e];done) | (exfalso;simp at *;omega))
theorem oO (x:Ln) (b:Int) (has:Bool):aJ Go.Proofs.Try.prog 43 [x.sv,.rv (.int .i64 b),.rv (.bool has)] [] [] (.aM [(dF x b has).sv,.rv (.bool (ef x b has))]):=by
 refine bJ Ku [x.sv,.rv (.int .i64 b),.rv (.bool has)] _ (by simp) (by simp [aN,bl,bz,bf,bq,ai.sv,Ln.sv,Nd.sv]) (fun K hK=>?_)
 have hf:=gj x.n
 have hp:=NZ b x.n
 conv in fc _ _ _ _=>reduce
 simp -implicitDefEqProofs only [Ln.sv,Ln.cells,Sz.sv,Sz.cells,go_sem,Int.reduceNegSucc]
 have bP:=hf;have bV:=hp;repeat' (first | (simp -implicitDefEqProofs only [go_sem,Int.reduceNegSucc]) | (with_reducible refine aB ?_) | (with_reducible first | refine aF bP ?_ | refine aG bP ?_) | (with_reducible first | refine aF bV ?_ | refine aG bV ?_) | ((first | refine aj (fun hg=>?_) (fun hg=>?_) | refine aC (fun hg=>?_) (fun hg=>?_) | refine aD (fun hg=>?_) (fun hg=>?_)) <;> try simp -implicitDefEqProofs only [hg,Bool.not_true,Bool.not_false]) | ((with_reducible apply And.intro);focus (first | trivial | omega | decide | (simp -implicitDefEqProofs only [maxLen];omega) | (simp [maxLen,an,aq,au,aA,ak,ax,av] <;> omega))) | fail)
 all_goals (refine (hK _ _ ?_).2;clear hK;simp -implicitDefEqProofs only [go_sem,Int.reduceNegSucc,bw,bD,bL,bN,aZ,aR,aP,Sz.sv,Sz.cells,dF,ef] <;>(try simp_all [-Int.not_lt,-Int.not_le,aZ,aR,aP,ck,Sz.sv,Sz.cells,dF,ef]) <;> try omega)
theorem DB (x:Ln) (b:Int) (has:Bool):aJ Go.Proofs.Try.prog 44 [x.sv,.rv (.int .i64 b),.rv (.bool has)] [] [] (.aM [.rv (.int .i64 (bh (dF x b has) 0)),.rv (.bool (ef x b has))]):=by
 refine bJ Ks [x.sv,.rv (.int .i64 b),.rv (.bool has)] _ (by simp) (by simp [aN,bl,bz,bf,bq,ai.sv,Ln.sv,Nd.sv]) (fun K hK=>?_)
 have hf:=oO x b has
 have ho:=kk (dF x b has) 0
 conv in fc _ _ _ _=>reduce
 simp -implicitDefEqProofs only [Ln.sv,Ln.cells,Sz.sv,Sz.cells,go_sem,Int.reduceNegSucc] at *
 have cq:=hf;have cg:=ho;repeat' (first | (simp -implicitDefEqProofs only [go_sem,Int.reduceNegSucc]) | (with_reducible refine aB ?_) | (with_reducible first | refine aF cq ?_ | refine aG cq ?_) | (with_reducible first | refine aF cg ?_ | refine aG cg ?_) | ((first | refine aj (fun hg=>?_) (fun hg=>?_) | refine aC (fun hg=>?_) (fun hg=>?_) | refine aD (fun hg=>?_) (fun hg=>?_)) <;> try simp -implicitDefEqProofs only [hg,Bool.not_true,Bool.not_false]) | ((with_reducible apply And.intro);focus (first | trivial | omega | decide | (simp -implicitDefEqProofs only [maxLen];omega) | (simp [maxLen,an,aq,au,aA,ak,ax,av] <;> omega))) | fail)
 exact (hK _ _ (jT rfl rfl)).2
theorem DC (x:Ln) (b:Int) (has:Bool):aJ Go.Proofs.Try.prog 45 [x.sv,.rv (.int .i64 b),.rv (.bool has)] [] [] (.aM [.rv (.int .i64 (bh (dF x b has) 1125899906842624)),.rv (.bool (ef x b has))]):=by
 refine bJ Kt [x.sv,.rv (.int .i64 b),.rv (.bool has)] _ (by simp) (by simp [aN,bl,bz,bf,bq,ai.sv,Ln.sv,Nd.sv]) (fun K hK=>?_)
 have hf:=oO x b has
 have ho:=kk (dF x b has) 1125899906842624
 conv in fc _ _ _ _=>reduce
 simp -implicitDefEqProofs only [Ln.sv,Ln.cells,Sz.sv,Sz.cells,go_sem,Int.reduceNegSucc] at *
 have cz:=hf;have cA:=ho;repeat' (first | (simp -implicitDefEqProofs only [go_sem,Int.reduceNegSucc]) | (with_reducible refine aB ?_) | (with_reducible first | refine aF cz ?_ | refine aG cz ?_) | (with_reducible first | refine aF cA ?_ | refine aG cA ?_) | ((first | refine aj (fun hg=>?_) (fun hg=>?_) | refine aC (fun hg=>?_) (fun hg=>?_) | refine aD (fun hg=>?_) (fun hg=>?_)) <;> try simp -implicitDefEqProofs only [hg,Bool.not_true,Bool.not_false]) | ((with_reducible apply And.intro);focus (first | trivial | omega | decide | (simp -implicitDefEqProofs only [maxLen];omega) | (simp [maxLen,an,aq,au,aA,ak,ax,av] <;> omega))) | fail)
 exact (hK _ _ (jT rfl rfl)).2
end Go.aH

namespace Go.aH
open Go
theorem Kw:aV Go.Proofs.Try.prog 62 30 (fc Go.Proofs.Try.prog 62 30 [(.c 4 8 true),(.t 5)]) [(.c 4 8 true),(.t 5)]:=bn (by kernel_rfl)
theorem Ky:aV Go.Proofs.Try.prog 63 9 (fc Go.Proofs.Try.prog 63 9 [(.t 4)]) [(.t 4)]:=bn (by kernel_rfl)
theorem KC:aV Go.Proofs.Try.prog 80 19 (fc Go.Proofs.Try.prog 80 19 [(.t 4)]) [(.t 4)]:=bn (by kernel_rfl)
theorem Kc:aV Go.Proofs.Try.prog 41 137 (fc Go.Proofs.Try.prog 41 137 [(.c 8 28 true),(.t 9)]) [(.c 8 28 true),(.t 9)]:=bn (by kernel_rfl)
theorem BV:aV Go.Proofs.Try.prog 42 30 (fc Go.Proofs.Try.prog 42 30 [(.t 6),(.t 7)]) [(.t 6),(.t 7)]:=bn (by kernel_rfl)
theorem JD:aV Go.Proofs.Try.prog 83 24 (fc Go.Proofs.Try.prog 83 24 [(.t 4)]) [(.t 4)]:=bn (by kernel_rfl)
theorem JE:aV Go.Proofs.Try.prog 84 76 (fc Go.Proofs.Try.prog 84 76 [(.t 4),(.t 5)]) [(.t 4),(.t 5)]:=bn (by kernel_rfl)
theorem tQ:IntKind.i64.wrap (0+1)=1:=by decide
theorem tR:IntKind.i64.wrap (1+1)=2:=by decide
theorem tS:IntKind.i64.wrap (2+1)=3:=by decide
theorem tT:IntKind.i64.wrap (3+1)=4:=by decide
theorem tU:IntKind.i64.wrap (4+1)=5:=by decide
theorem tV:IntKind.i64.wrap (5+1)=6:=by decide
theorem rV (n:Nat):((no_index (OfNat.ofNat n):Nat):Int)=OfNat.ofNat n:=rfl
def Q4.fm (q:Q4 Sz):List RV:=[.bool q.a.auto,.int .i64 q.a.n,.bool q.b.auto,.int .i64 q.b.n,.bool q.c.auto,.int .i64 q.c.n,.bool q.d.auto,.int .i64 q.d.n]
def zm (q:Q4 Ln) (b:Int):Q4 Sz:=⟨dF q.a b true,dF q.b b true,dF q.c b true,dF q.d b true⟩
def oK (q:Q4 Ln) (b:Int):Bool:=ef q.a b true && ef q.b b true && ef q.c b true && ef q.d b true
def nK (q:Q4 Ln) (b:Int):Q4 Sz:=if oK q b=true then zm q b else ⟨⟨false,0⟩,⟨false,0⟩,⟨false,0⟩,⟨false,0⟩⟩
theorem DD (q:Q4 Ln) (b:Int):aJ Go.Proofs.Try.prog 62 [.agg (q.pW.map .rv),.rv (.int .i64 b)] [] [] (.aM [.agg ((nK q b).fm.map .rv),.rv (.bool (oK q b))]):=by
 refine bJ Kw [.agg (q.pW.map .rv),.rv (.int .i64 b)] _ (by simp) (by simp [aN,bl,bz,bf,bq,ai.sv,Ln.sv,Nd.sv]) (fun K hK=>?_)
 have ha:=oO q.a b true
 have hb:=oO q.b b true
 have hc:=oO q.c b true
 have hd:=oO q.d b true
 conv in fc _ _ _ _=>reduce
 simp -implicitDefEqProofs only [Q4.pW,Ln.sv,Ln.cells,Sz.sv,Sz.cells,go_sem,Int.reduceNegSucc] at *
 repeat' (first | (simp -implicitDefEqProofs only [go_sem,Int.reduceNegSucc]) | (with_reducible refine aB ?_) | ((first | refine aj (fun hg=>?_) (fun hg=>?_) | refine aC (fun hg=>?_) (fun hg=>?_) | refine aD (fun hg=>?_) (fun hg=>?_)) <;> try simp -implicitDefEqProofs only [hg,Bool.not_true,Bool.not_false]) | ((with_reducible apply And.intro);focus (first | trivial | omega | decide | (simp -implicitDefEqProofs only [maxLen];omega) | (simp [maxLen,an,aq,au,aA,ak,ax,av] <;> omega))) | fail)
 refine sw 5 ?_
 have br:=ha;have y_2:=hb;have bP:=hc;have bV:=hd;repeat' (first | (simp -implicitDefEqProofs only [go_sem,Int.reduceNegSucc,tQ,tR,tS,tT,tU,tV,rV,Int.reduceLT,decide_true,decide_false,Int.reduceToNat,Nat.reduceMul]) | (with_reducible refine aB ?_) | (with_reducible show G _ _ (It.l _ _::_) _ _ _;refine su ?_) | (with_reducible first | refine aF br ?_ | refine aG br ?_) | (with_reducible first | refine aF y_2 ?_ | refine aG y_2 ?_) | (with_reducible first | refine aF bP ?_ | refine aG bP ?_) | (with_reducible first | refine aF bV ?_ | refine aG bV ?_) | ((first | refine aj (fun hg=>?_) (fun hg=>?_) | refine aC (fun hg=>?_) (fun hg=>?_) | refine aD (fun hg=>?_) (fun hg=>?_)) <;> try simp -implicitDefEqProofs only [hg,Bool.not_true,Bool.not_false]) | ((with_reducible apply And.intro);focus (first | trivial | omega | decide | (simp -implicitDefEqProofs only [maxLen];omega) | (simp [maxLen,an,aq,au,aA,ak,ax,av] <;> omega))) | fail)
 all_goals (refine (hK _ _ ?_).2;clear hK;simp -implicitDefEqProofs only [go_sem,Int.reduceNegSucc,bw,bD,bL,bN,aZ,aR,aP,nK,oK,zm,Q4.fm] <;>(try simp_all [-Int.not_lt,-Int.not_le,aZ,aR,aP,ck,nK,oK,zm,Q4.fm]) <;> try omega)
def yx (a b c d e:Bool):Int:=if a=false then 0 else if b=false then 1 else if c=false then 2 else if d=false then 3 else if e=false then 4 else -1
theorem NI (a b c d e:Bool):aJ Go.Proofs.Try.prog 80 [.rv (.sl 1 [[.bool a],[.bool b],[.bool c],[.bool d],[.bool e]]),.rv (.bool false)] [] [] (.rv (.int .i64 (yx a b c d e))):=by
 refine bJ KC [.rv (.sl 1 [[.bool a],[.bool b],[.bool c],[.bool d],[.bool e]]),.rv (.bool false)] _ (by simp) (by simp [aN,bl,bz,bf,bq,ai.sv,Ln.sv,Nd.sv]) (fun K hK=>?_)
 conv in fc _ _ _ _=>reduce
 simp -implicitDefEqProofs only [go_sem,Int.reduceNegSucc]
 repeat' (first | (simp -implicitDefEqProofs only [go_sem,Int.reduceNegSucc]) | (with_reducible refine aB ?_) | ((first | refine aj (fun hg=>?_) (fun hg=>?_) | refine aC (fun hg=>?_) (fun hg=>?_) | refine aD (fun hg=>?_) (fun hg=>?_)) <;> try simp -implicitDefEqProofs only [hg,Bool.not_true,Bool.not_false]) | ((with_reducible apply And.intro);focus (first | trivial | omega | decide | (simp -implicitDefEqProofs only [maxLen];omega) | (simp [maxLen,an,aq,au,aA,ak,ax,av] <;> omega))) | fail)
 refine sw 6 ?_
 repeat' (first | (simp -implicitDefEqProofs only [go_sem,Int.reduceNegSucc,tQ,tR,tS,tT,tU,tV,rV,Int.reduceLT,decide_true,decide_false,Int.reduceToNat,Nat.reduceMul]) | (with_reducible refine aB ?_) | (with_reducible show G _ _ (It.l _ _::_) _ _ _;refine su ?_) | ((first | refine aj (fun hg=>?_) (fun hg=>?_) | refine aC (fun hg=>?_) (fun hg=>?_) | refine aD (fun hg=>?_) (fun hg=>?_)) <;> try simp -implicitDefEqProofs only [hg,Bool.not_true,Bool.not_false]) | ((with_reducible apply And.intro);focus (first | trivial | omega | decide | (simp -implicitDefEqProofs only [maxLen];omega) | (simp [maxLen,an,aq,au,aA,ak,ax,av] <;> omega))) | fail)
 all_goals (refine (hK _ _ (bX ?_)).2;clear hK;simp_all [lk,yx])
theorem Nz (a b c d e:Bool):aJ Go.Proofs.Try.prog 63 [.rv (.sl 1 [[.bool a],[.bool b],[.bool c],[.bool d],[.bool e]]),.rv (.bool false)] [] [] (.rv (.bool !(a && b && c && d && e))):=by
 refine bJ Ky [.rv (.sl 1 [[.bool a],[.bool b],[.bool c],[.bool d],[.bool e]]),.rv (.bool false)] _ (by simp) (by simp [aN,bl,bz,bf,bq,ai.sv,Ln.sv,Nd.sv]) (fun K hK=>?_)
 have hi:=NI a b c d e
 have h5:decide (yx a b c d e≥0) = !(a && b && c && d && e):=by cases a <;> cases b <;> cases c <;> cases d <;> cases e <;> rfl
 conv in fc _ _ _ _=>reduce
 simp -implicitDefEqProofs only [go_sem,Int.reduceNegSucc]
 have cq:=hi;repeat' (first | (simp -implicitDefEqProofs only [go_sem,Int.reduceNegSucc,h5]) | (with_reducible refine aB ?_) | (with_reducible first | refine aF cq ?_ | refine aG cq ?_) | ((first | refine aj (fun hg=>?_) (fun hg=>?_) | refine aC (fun hg=>?_) (fun hg=>?_) | refine aD (fun hg=>?_) (fun hg=>?_)) <;> try simp -implicitDefEqProofs only [hg,Bool.not_true,Bool.not_false]) | ((with_reducible apply And.intro);focus (first | trivial | omega | decide | (simp -implicitDefEqProofs only [maxLen];omega) | (simp [maxLen,an,aq,au,aA,ak,ax,av] <;> omega))) | fail)
 exact (hK _ _ (bX rfl)).2
theorem NA (j v:Nat) (a b c d e:Bool):aJ Go.Proofs.Try.prog 63 [.win j v 0 5,.rv (.bool false)] [(j,.var [.rv (.bool a),.rv (.bool b),.rv (.bool c),.rv (.bool d),.rv (.bool e)])] [] (.rv (.bool !(a && b && c && d && e))):=by
 refine uA (rs:=[.sl 1 [[.bool a],[.bool b],[.bool c],[.bool d],[.bool e]],.bool false]) (Nz a b c d e) (fun hp hpre=>⟨?_,.rv _,trivial⟩) rfl (.rv _ (.bool _)) (by simp)
 refine .win j v 0 1 5 [.rv (.bool a),.rv (.bool b),.rv (.bool c),.rv (.bool d),.rv (.bool e)] _ rfl (hpre _ (.head _)) rfl (by simp) (by simp) (fun i r k q hi hk=>?_) (fun i r k y q hi hy hk=>?_)
 ·match i,k with
  | 0,0 | 1,0 | 2,0 | 3,0 | 4,0=>cases hi;cases hk;rfl
  | 0,k+1 | 1,k+1 | 2,k+1 | 3,k+1 | 4,k+1=>cases hi;simp at hk
  | i+5,k=>simp at hi
 ·match i,k with
  | 0,0 | 1,0 | 2,0 | 3,0 | 4,0=>cases hi;cases hk;cases hy;exact .rv _
  | 0,k+1 | 1,k+1 | 2,k+1 | 3,k+1 | 4,k+1=>cases hi;simp at hk
  | i+5,k=>simp at hi
structure Ed where
 aY:Q4 Sz
 pad:Q4 Sz
 aX:Q4 Int
 high:Sz
 least:Int
 most:Int
 alone:Bool
 flat:Bool
 qh:Bool
 oA:Bool
def Ed.cells (e:Ed):List RV:=e.aY.fm++e.pad.fm++e.aX.ints++[.bool e.high.auto,.int .i64 e.high.n,.int .i64 e.least,.int .i64 e.most,.bool e.alone,.bool e.flat,.bool e.qh,.bool e.oA]
def zz (s:ai) (w:Int):Bool:=(s.aX.a == 0) && ((nK s.pad w).a.n == 0)
def wT (s:ai) (w:Int):Bool:=(s.aX.c == 0) && ((nK s.pad w).c.n == 0)
def vG (s:ai) (h:Sz):Int:=bh (dF s.fl h.n (!h.auto)) 0
def uT (s:ai) (w:Int) (h:Sz) (alone:Bool):Ed:=
 ⟨nK s.aY w,nK s.pad w,s.aX,dF s.height h.n (!h.auto),vG s h,bh (dF s.fk h.n (!h.auto)) 1125899906842624,alone,
  !alone && zz s w && wT s w && (vG s h == 0),!alone && zz s w,!alone && wT s w && (dF s.height h.n (!h.auto)).auto && (vG s h == 0)⟩
def uS (s:ai) (w:Int) (h:Sz):Bool:=oK s.aY w && oK s.pad w && ef s.height h.n (!h.auto) && ef s.fl h.n (!h.auto) && ef s.fk h.n (!h.auto)
theorem NW (s:ai) (w:Int) (h:Sz) (alone:Bool):aJ Go.Proofs.Try.prog 41 [s.sv,.rv (.int .i64 w),h.sv,.rv (.bool alone)] [] [] (.aM [.agg ((uT s w h alone).cells.map .rv),.rv (.bool (uS s w h))]):=by
 refine bJ Kc [s.sv,.rv (.int .i64 w),h.sv,.rv (.bool alone)] _ (by simp) (by simp [aN,bl,bz,bf,bq,ai.sv,Ln.sv,Nd.sv]) (fun K hK=>?_)
 have h1:=DD s.aY w
 have h2:=DD s.pad w
 have h3:=oO s.height h.n (!h.auto)
 have h4:=DB s.fl h.n (!h.auto)
 have h5:=DC s.fk h.n (!h.auto)
 have h6:=fun j=>NA j 0 (oK s.aY w) (oK s.pad w) (ef s.height h.n (!h.auto)) (ef s.fl h.n (!h.auto)) (ef s.fk h.n (!h.auto))
 simp -implicitDefEqProofs only [uT,zz,wT,vG,uS] at hK
 simp -implicitDefEqProofs only [Q4.fm,Sz.sv,Sz.cells,List.map_cons,List.map_nil] at h1 h2 h3 h4 h5
 generalize nK s.aY w=M at *
 generalize nK s.pad w=D at *
 generalize dF s.height h.n (!h.auto)=H at *
 generalize bh (dF s.fl h.n (!h.auto)) 0=L at *
 generalize bh (dF s.fk h.n (!h.auto)) 1125899906842624=X at *
 conv in fc _ _ _ _=>reduce
 simp -implicitDefEqProofs only [Sz.sv,Sz.cells,go_sem,Int.reduceNegSucc]
 cases alone <;>(have cg:=h1;have cz:=h2;have cA:=h3;have cS:=h4;have dc:=h5;have eM:=h6;repeat' (first | (simp -implicitDefEqProofs only [go_sem,Int.reduceNegSucc,gl,iJ,gn,iK,gE,iV,gP,jg,hD,jt,iq,jC,ir,jD,iu,jE,iw,jF,iy,jG,gp,iL,gq,iM,gu,iN,gw,iO,gx,iP,gz,iQ,gA,iR,gB,iS,gC,iT,gD,iU,gF,iW,gG,iX,gH,iY,gI,iZ,gJ,ja,gK,jb,gL,jc,gM,jd,gN,je,gO,jf,gQ,jh,gR,ji,gS,jk,gT,jl,gU,jm,gV,jn,gW,jo,gX,jq,gY,jr,gZ,js,hJ,ju,hU,jv,fT,jw,ia,jx,ic,jy,ie,jz,ig,jA,ij,jB,iE,iz,iA,iB,iC,iD,iF,iG,iH,iI,gk,fS,an,Q4.ints]) | (with_reducible refine aB ?_) | (with_reducible first | refine aF cg ?_ | refine aG cg ?_) | (with_reducible first | refine aF cz ?_ | refine aG cz ?_) | (with_reducible first | refine aF cA ?_ | refine aG cA ?_) | (with_reducible first | refine aF cS ?_ | refine aG cS ?_) | (with_reducible first | refine aF dc ?_ | refine aG dc ?_) | ((first | refine cD (eM _) ?_ ?_ ?_ | refine cY (eM _) ?_ ?_ ?_ | fail);(focus (simp [aW,ag] <;> fail));(focus (simp [bp,bk] <;> fail))) | ((first | refine aj (fun hg=>?_) (fun hg=>?_) | refine aC (fun hg=>?_) (fun hg=>?_) | refine aD (fun hg=>?_) (fun hg=>?_)) <;> try simp -implicitDefEqProofs only [hg,Bool.not_true,Bool.not_false]) | ((with_reducible apply And.intro);focus (first | trivial | omega | decide | (simp -implicitDefEqProofs only [maxLen];omega) | (simp [maxLen,an,aq,au,aA,ak,ax,av] <;> omega))) | fail))
 all_goals (refine (hK _ _ ?_).2;clear hK;simp -implicitDefEqProofs only [go_sem,Int.reduceNegSucc,bw,bD,bL,bN,aZ,aR,aP,Ed.cells,Q4.fm,Q4.ints] <;>(try simp_all [-Int.not_lt,-Int.not_le,aZ,aR,aP,ck,Ed.cells,Q4.fm,Q4.ints]) <;> try omega)
end Go.aH

namespace Go.aH
open Go
def PU (i j m k:Nat):Option Nat:=if k=j then some i else if k=i then none else if k<m then some k else none
def PT (i j k:Nat):Nat:=if k=i then j else k
end Go.aH

namespace Go.aH
open Go
theorem zU {P:Program} {f:FuncId} {ey:List U} {args:List U} {pre us:List (Nat×HB)} {sv:U} (H:aJ P f ey [] us sv) (hl:args.length=ey.length)
 (hz:∀ hp,aW hp pre→∀ (j:Nat) (y x:U),args[j]?=some y→ey[j]?=some x→Rn (fun _=>none) hp y x) (hfl:dB sv) (eS:∀ q∈us,mu q.2∧∀ p∈pre,p.1≠q.1):aJ P f args pre us sv:=by
 refine ⟨H.1,fun C hp w aa vs hpre hnew R hvl hvs=>?_⟩
 let C2:Ctx:=⟨w,fun b=>az C aa hp b∨∃ id,(hp id).isSome=true∧aa id=some b,fun _=>False,C.N,fun _=>none,fun _=>none⟩
 have pR:∀ b,C2.tu b→az C2 (fun _=>none) (fun _=>none) b:=fun b hb=>⟨.inl hb,fun id hid=>by simp at hid⟩
 have R2:bI C2 (fun _=>none) w (fun _=>none):=⟨fun id hb h=>(by cases h),fun i j b h=>(by simp at h),fun i b h=>(by simp at h),⟨rfl,rfl,rfl,Nat.le_refl _,fun b _ _=>rfl⟩,fun id hb hb0 h=>(by cases h)⟩
 have nA:∀ id,id∈us.map (·.1)→hp id=none∧C.h0 id=none:=fun id hid=>by
  obtain ⟨q,hq,rfl⟩:=List.mem_map.1 hid
  rcases hnew q hq with ⟨hb,hm⟩ | h
  ·exact absurd rfl ((eS q hq).2 (q.1,hb) hm)
  ·exact h
 refine (H.2 C2 (fun _=>none) w (fun _=>none) vs (fun q hq=>by simp at hq) (fun q hq=>.inr ⟨rfl,rfl⟩) R2 (by simp [hvl,hl]) (fun j s hj=>?_)).mono ?_
 ·have hlt:=(List.getElem?_eq_some_iff.1 hj).1
  have hy:=List.getElem?_eq_getElem (l:=args) (i:=j) (by omega)
  exact Rp.leave (τ:=fun _=>none) (fun b hb=>pR b (.inl hb)) (fun i b _ hi hb=>pR b (.inr ⟨i,hi,hb⟩)) (fun i hb hi=>R.heap i hb hi) (fun j id h=>by cases h) (hvs j _ hy) (hz hp hpre j _ s hy hj)
 ·rintro e w' ⟨v,aE,rfl,S,hR⟩
  have R':=S.mem
  have dm:∀ b,b<w.heap.size→w'.heap[b]?=w.heap[b]?:=fun b hb=>R'.fr.block b hb (fun h=>h)
  have hsz:w.heap.size≤w'.heap.size:=R'.fr.size
  have nC:∀ id b,id∈us.map (·.1)→aE id=some b→w.heap.size≤b∧b<w'.heap.size:=fun id b hid hb=>by
   obtain ⟨h1,h2⟩:=R'.own id b (kX.2 hid) hb
   rcases h1 with ⟨a,_⟩ | a
   ·cases a
   ·exact ⟨a,h2⟩
  let cI:Nat→Option Nat:=fun id=>if id∈us.map (·.1) then aE id else aa id
  have rT:∀ id,id∈us.map (·.1)→cI id=aE id:=fun id h=>if_pos h
  have rN:∀ id,id∉us.map (·.1)→cI id=aa id:=fun id h=>if_neg h
  have hN:∀ id,id∉us.map (·.1)→bu hp us id=hp id:=fun id h=>wI h
  have hT:∀ id,id∈us.map (·.1)→bu hp us id=bu (fun _=>none) us id:=fun id h=>tO h
  have hs:∀ j,(bu (fun _=>none) us j).isSome=true→bu hp us j=bu (fun _=>none) us j∧cI j=aE j:=fun j hj=>⟨hT j (kX.1 hj),rT j (kX.1 hj)⟩
  have qc:∀ b,az C aa hp b→b<w.heap.size→az C cI (bu hp us) b∧w'.heap[b]?=w.heap[b]?:=fun b hb hlt=>by
   refine ⟨⟨hb.1,fun id hid he=>?_⟩,dm b hlt⟩
   by_cases hm:id∈us.map (·.1)
   ·rw [rT id hm] at he
    have:=(nC id b hm he).1;omega
   ·rw [hN id hm] at hid
    rw [rN id hm] at he
    exact hb.2 id hid he
  have E:dZ w w' (az C aa hp) (az C cI (bu hp us)) aa cI hp (bu hp us):=dZ.of qc (fun id hb hq=>by
   have hm:id∉us.map (·.1):=fun hm=>by rw [(nA id hm).1] at hq;cases hq
   refine ⟨hb,by rw [hN id hm];exact hq,?_⟩
   rw [rN id hm]
   cases hb with
   | var cs=>rfl
   | row e af xs=>exact ⟨Nat.le_refl _,fun _=>⟨rfl,rfl,fun b hb cur t hc=>⟨cur,t,by rw [dm b (R.own id b (by rw [hq];rfl) hb).2];exact hc,rfl⟩⟩⟩)
  refine ⟨v,cI,rfl,⟨⟨fun id hb hq=>?_,fun i j b h1 h2 h3 h4=>?_,fun id b h1 h2=>?_,⟨R'.fr.os.trans R.fr.os,R'.fr.tape.trans R.fr.tape,R'.fr.output.trans R.fr.output,Nat.le_trans R.fr.size hsz,fun b h1 h2=>?_⟩,fun id hb hb0 h1 h2=>?_⟩,E⟩,hR.flat hs hfl⟩
  ·by_cases hm:id∈us.map (·.1)
   ·rw [hT id hm] at hq
    have xV:mu hb:=by
     rcases DX hq with h | h
     ·cases h
     ·exact (eS _ h).1
    exact (R'.heap id hb hq).flat hs (kX.2 hm) xV
   ·rw [hN id hm] at hq
    rcases R.heap id hb hq with ⟨a1,a2⟩ | ⟨b,cur,t,a1,a2,a3⟩
    ·exact .inl ⟨(rN id hm).trans a1,a2⟩
    ·refine .inr ⟨b,cur,t,(rN id hm).trans a1,?_,a3.mono E⟩
     rw [dm b (R.own id b (by rw [hq];rfl) a1).2];exact a2
  ·by_cases hi:i∈us.map (·.1) <;> by_cases hj:j∈us.map (·.1)
   ·rw [rT i hi] at h3;rw [rT j hj] at h4
    exact R'.inj i j b (kX.2 hi) (kX.2 hj) h3 h4
   ·rw [rT i hi] at h3;rw [rN j hj] at h4;rw [hN j hj] at h2
    have h5:=nC i b hi h3;have h6:=R.own j b h2 h4;omega
   ·rw [rN i hi] at h3;rw [rT j hj] at h4;rw [hN i hi] at h1
    have h5:=nC j b hj h4;have h6:=R.own i b h1 h3;omega
   ·rw [rN i hi] at h3;rw [rN j hj] at h4;rw [hN i hi] at h1;rw [hN j hj] at h2
    exact R.inj i j b h1 h2 h3 h4
  ·by_cases hm:id∈us.map (·.1)
   ·rw [rT id hm] at h2
    obtain ⟨a1,a2⟩:=nC id b hm h2
    exact ⟨.inr (Nat.le_trans R.fr.size a1),a2⟩
   ·rw [hN id hm] at h1;rw [rN id hm] at h2
    obtain ⟨a1,a2⟩:=R.own id b h1 h2
    exact ⟨a1,by omega⟩
  ·rw [dm b (by have:=R.fr.size;omega)];exact R.fr.block b h1 h2
  ·by_cases hm:id∈us.map (·.1)
   ·rw [(nA id hm).2] at h2;cases h2
   ·rw [hN id hm] at h1
    have ev:=R.eE id hb hb0 h1 h2
    obtain ⟨hb',g1,g2⟩:∃ hb',bu hp us id=some hb'∧er w w' (aa id) (cI id) hb hb':=by
     refine ⟨hb,by rw [hN id hm];exact h1,?_⟩
     rw [rN id hm]
     cases hb with
     | var cs=>rfl
     | row e af xs=>exact ⟨Nat.le_refl _,fun _=>⟨rfl,rfl,fun b hb cur t hc=>⟨cur,t,by rw [dm b (R.own id b (by rw [h1];rfl) hb).2];exact hc,rfl⟩⟩⟩
    rw [hN id hm,h1] at g1;cases g1
    exact ev.trans g2
theorem Aw {n0:Nat} {env:List (Nat×U)} {h:List (Option HB)} (i0 e o:Nat) {cs:List U} (hi:ag h i0=some (.var cs)) (ho:cs[o]?=some (.rv .bS)):cB n0 ⟨env,h⟩ ⟨env,bk (bk h (h.length,.row e 0 [])) (i0,.var (cs.set o (.row h.length 0 0)))⟩:=by
 intro C a w R
 obtain ⟨⟨aa,RF⟩,h1,h0⟩:=R
 have hnone:ag h h.length=none:=by unfold ag;rw [List.getElem?_eq_none (Nat.le_refl _)]
 have sx:C.h0 h.length=none:=h0 _ h1
 obtain ⟨aE,S⟩:=RF.mem.AQ e hi ho hnone sx
 have fJ:=RF.step S
 have hlt:i0<h.length:=by
  apply Classical.byContradiction
  intro hc
  unfold ag at hi
  rw [List.getElem?_eq_none (by omega)] at hi;cases hi
 have e1:=vl (h:=h) (q:=(h.length,.row e 0 [])) (Nat.le_refl _)
 have l1:=rI h (h.length,.row e 0 [])
 have e2:=vl (h:=bk h (h.length,.row e 0 [])) (q:=(i0,.var (cs.set o (.row h.length 0 0)))) (by show i0≤_;omega)
 have l2:=rI (bk h (h.length,.row e 0 [])) (i0,.var (cs.set o (.row h.length 0 0)))
 refine ⟨⟨aE,?_⟩,?_,h0⟩
 ·show eN C (lk env) (ag (bk (bk h (h.length,.row e 0 [])) (i0,.var (cs.set o (.row h.length 0 0))))) a w aE
  rw [e2,e1];exact fJ
 ·have Hg:n0≤h.length:=h1
  show n0≤(bk (bk h (h.length,.row e 0 [])) (i0,.var (cs.set o (.row h.length 0 0)))).length
  omega
end Go.aH

namespace Go.aH
open Go
theorem JF:aV Go.Proofs.Try.prog 67 53 (fc Go.Proofs.Try.prog 67 53 [(.c 4 3 true),(.t 5),(.t 6)]) [(.c 4 3 true),(.t 5),(.t 6)]:=bn (by kernel_rfl)
theorem JI:aV Go.Proofs.Try.prog 82 27 (fc Go.Proofs.Try.prog 82 27 [(.t 4)]) [(.t 4)]:=bn (by kernel_rfl)
structure Ai where
 base:Int
 left:Sz
 wide:Sz
 right:Sz
 around:Int
 bM:Bool
 least:Int
 most:Int
def Ai.cells (i:Ai):List RV:=[.int .i64 i.base,.bool i.left.auto,.int .i64 i.left.n,.bool i.wide.auto,.int .i64 i.wide.n,.bool i.right.auto,.int .i64 i.right.n,.int .i64 i.around,.bool i.bM,.int .i64 i.least,.int .i64 i.most]
abbrev Ai.sv (i:Ai):U:=.agg (i.cells.map .rv)
structure Ao where
 l:Int
 w:Int
 r:Int
def Ao.cells (o:Ao):List RV:=[.int .i64 o.l,.int .i64 o.w,.int .i64 o.r]
def qU (i:Ai) (w:Int):Int×Int:=
 if ¬ i.base - i.around - w - bh i.left 0 - bh i.right 0<0∧i.left.auto=true∧i.right.auto=true then ((i.base - i.around - w) / 2,i.base - i.around - w - (i.base - i.around - w) / 2)
 else if ¬ i.base - i.around - w - bh i.left 0 - bh i.right 0<0∧i.left.auto=true∨i.bM=true∧(i.base - i.around - w - bh i.left 0 - bh i.right 0<0∨i.right.auto=false) then (i.base - i.around - w - bh i.right 0,bh i.right 0)
 else (bh i.left 0,i.base - i.around - w - bh i.left 0)
def dK (i:Ai) (s:Sz):Ao:=if s.auto=true then ⟨bh i.left 0,i.base - i.around - bh i.left 0 - bh i.right 0,bh i.right 0⟩ else ⟨(qU i s.n).1,s.n,(qU i s.n).2⟩
def nS (i:Ai) (s:Sz):Bool:=bR (dK i s).l && bR (dK i s).w && bR (dK i s).r
structure Fit (i:Ai):Prop where
 b:bR i.base=true
 a:bR i.around=true
 l:bR (bh i.left 0)=true
 r:bR (bh i.right 0)=true
theorem Of (i:Ai) (xs:List Int) (hb:bR i.base=true) (ha:bR i.around=true) (hx:∀ x∈xs,bR x=true) (hl:xs.length≤100):aJ Go.Proofs.Try.prog 83 [i.sv,.rv (.sl 1 (aK xs))] [] [] (.rv (.int .i64 (i.base - i.around - xs.sum))):=by
 refine bJ JD [i.sv,.rv (.sl 1 (aK xs))] _ (by simp) (by simp [aN,bl,bz,bf,bq,ai.sv,Ln.sv,Nd.sv]) (fun K hK=>?_)
 have sJ:=ak xs
 rw [lB] at hb ha
 have w0:IntKind.i64.wrap (i.base - i.around)=i.base - i.around:=wrap_i64 (by omega) (by omega)
 conv in fc _ _ _ _=>reduce
 simp -implicitDefEqProofs only [Ai.sv,Ai.cells,go_sem,Int.reduceNegSucc]
 repeat' (first | (simp -implicitDefEqProofs only [go_sem,Int.reduceNegSucc,sJ,w0]) | (with_reducible refine aB ?_) | ((first | refine aj (fun hg=>?_) (fun hg=>?_) | refine aC (fun hg=>?_) (fun hg=>?_) | refine aD (fun hg=>?_) (fun hg=>?_)) <;> try simp -implicitDefEqProofs only [hg,Bool.not_true,Bool.not_false]) | ((with_reducible apply And.intro);focus (first | trivial | omega | decide | (simp -implicitDefEqProofs only [maxLen];omega) | (simp [maxLen,an,aq,au,aA,ak,ax,av] <;> omega))) | fail)
 refine cN (ι:=Nat) (fun k=>[(15,.rv (.int .i64 k)),(14,.rv (.int .i64 xs.length)),(13,.rv (.sl 1 (aK xs))),(5,.rv (.int .i64 (i.base - i.around - (xs.take k).sum)))]) (fun _=>[some (.var (i.cells.map .rv))]) (fun k=>k≤xs.length∧-(1125899906842624*k)≤(xs.take k).sum∧(xs.take k).sum≤1125899906842624*k) (fun k=>xs.length - k) 0 (by simp) (bA (by simp [lk])) (fun k hk K' hN hX hR=>?_)
 obtain ⟨ct,hk2,cT⟩:=hk
 simp -implicitDefEqProofs only [go_sem,Int.reduceNegSucc]
 refine aj (fun hg=>?_) (fun hg=>?_)
 ·have ay:k<xs.length:=by simp at hg;omega
  have hg:=ow ay
  have wu:=cr (k:=k) (by omega)
  have hf:=lB.1 (hx _ (List.getElem_mem ay))
  have hst:=DO ay
  have ws:IntKind.i64.wrap (i.base - i.around - (xs.take k).sum - xs[k])=i.base - i.around - (xs.take (k+1)).sum:=by rw [wrap_i64 (by omega) (by omega),hst];omega
  repeat' (first | (simp -implicitDefEqProofs only [go_sem,Int.reduceNegSucc,hg,sJ,wu,ws]) | (with_reducible refine aB ?_) | ((first | refine aj (fun hg=>?_) (fun hg=>?_) | refine aC (fun hg=>?_) (fun hg=>?_) | refine aD (fun hg=>?_) (fun hg=>?_)) <;> try simp -implicitDefEqProofs only [hg,Bool.not_true,Bool.not_false]) | ((with_reducible apply And.intro);focus (first | trivial | omega | decide | (simp -implicitDefEqProofs only [maxLen];omega) | (simp [maxLen,an,aq,au,aA,ak,ax,av] <;> omega))) | fail)
  exact hN (k+1) _ _ ⟨by omega,by omega,by omega⟩ (by omega) (bA (by simp [lk]))
 ·have ay:k=xs.length:=by simp at hg;omega
  subst ay
  simp -implicitDefEqProofs only [go_sem,Int.reduceNegSucc]
  refine hX _ _ _ ?_
  rw [List.take_length]
  repeat' (first | (simp -implicitDefEqProofs only [go_sem,Int.reduceNegSucc]) | (with_reducible refine aB ?_) | ((first | refine aj (fun hg=>?_) (fun hg=>?_) | refine aC (fun hg=>?_) (fun hg=>?_) | refine aD (fun hg=>?_) (fun hg=>?_)) <;> try simp -implicitDefEqProofs only [hg,Bool.not_true,Bool.not_false]) | ((with_reducible apply And.intro);focus (first | trivial | omega | decide | (simp -implicitDefEqProofs only [maxLen];omega) | (simp [maxLen,an,aq,au,aA,ak,ax,av] <;> omega))) | fail)
  exact (hK _ _ (bX rfl)).2
theorem zp (i:Ai) (xs:List Int) (hb:bR i.base=true) (ha:bR i.around=true) (hx:∀ x∈xs,bR x=true) (hl:xs.length≤100) (id:Nat):aJ Go.Proofs.Try.prog 83 [i.sv,.row id 0 xs.length] [(id,.row 1 0 (lN xs))] [] (.rv (.int .i64 (i.base - i.around - xs.sum))):=by
 refine zU (ey:=[i.sv,.rv (.sl 1 (aK xs))]) (Of i xs hb ha hx hl) rfl (fun hp hpre k y r hy hr=>?_) (.rv _ (.int _ _)) (by simp)
 match k with
 | 0=>cases hy;cases hr;exact aZ.2 (cL.2 rfl)
 | 1=>
   cases hy;cases hr
   have:=pH (h:=hp) (τ:=fun _=>none) (j:=id) (e:=1) (af:=0) (len:=xs.length) (xs:=aK xs) (by rw [← BE];exact hpre _ (.head _)) rfl (by rw [ak];omega) (lQ _)
   rw [List.take_of_length_le (by rw [ak];omega)] at this
   exact .fz _ _ this
 | k+2=>simp at hy
theorem Mj {x:Sz} (h:x.auto=false) (d:Int):bh x d=x.n:=by simp [bh,h]
theorem Oh (i:Ai) (w:Int) (hf:Fit i) (hw:bR w=true):aJ Go.Proofs.Try.prog 84 [i.sv,.rv (.int .i64 w)] [] [] (.aM [.rv (.int .i64 (qU i w).1),.rv (.int .i64 (qU i w).2)]):=by
 refine bJ JE [i.sv,.rv (.int .i64 w)] _ (by simp) (by simp [aN,bl,bz,bf,bq,ai.sv,Ln.sv,Nd.sv]) (fun K hK=>?_)
 have h1:=kk i.left 0
 have h2:=kk i.right 0
 have h3:=zp i [w] hf.b hf.a (by simp [hw]) (by simp)
 have h4:=zp i [w,bh i.left 0,bh i.right 0] hf.b hf.a (by simp [hw,hf.l,hf.r]) (by simp)
 have q1:=lB.1 hf.b
 have q2:=lB.1 hf.a
 have q3:=lB.1 hf.l
 have q4:=lB.1 hf.r
 have q5:=lB.1 hw
 have h5:=NY (i.base - i.around - w)
 have w1:IntKind.i64.wrap (i.base - i.around - w - (i.base - i.around - w) / 2)=i.base - i.around - w - (i.base - i.around - w) / 2:=wrap_i64 (by omega) (by omega)
 have w2:IntKind.i64.wrap (i.base - i.around - w - bh i.right 0)=i.base - i.around - w - bh i.right 0:=wrap_i64 (by omega) (by omega)
 have w3:IntKind.i64.wrap (i.base - i.around - w - bh i.left 0)=i.base - i.around - w - bh i.left 0:=wrap_i64 (by omega) (by omega)
 have e1:[w].sum=w:=by simp
 have e2:i.base - i.around - [w,bh i.left 0,bh i.right 0].sum=i.base - i.around - w - bh i.left 0 - bh i.right 0:=by simp;omega
 rw [e1] at h3
 rw [e2] at h4
 simp -implicitDefEqProofs only [lN,List.map_cons,List.map_nil,List.length_cons,List.length_nil,Ai.sv,Ai.cells,Sz.sv,Sz.cells,Nat.reduceAdd] at h1 h2 h3 h4
 simp -implicitDefEqProofs only [qU] at hK
 conv in fc _ _ _ _=>reduce
 simp -implicitDefEqProofs only [Ai.sv,Ai.cells,go_sem,Int.reduceNegSucc]
 generalize bh i.left 0=L at *
 generalize bh i.right 0=R at *
 cases hl:i.left.auto <;> cases hr:i.right.auto <;> cases ht:i.bM <;> simp -implicitDefEqProofs only [hl,hr,ht] at h1 h2 h3 h4 hK ⊢ <;> by_cases Bu:i.base - i.around - w - L - R<0 <;> simp -implicitDefEqProofs only [Bu,decide_true,decide_false] at hK ⊢
 all_goals ((have br:=h1;have y_2:=h2;have bP:=h3;have bV:=h4;have cq:=h5;repeat' (first | (simp -implicitDefEqProofs only [go_sem,Int.reduceNegSucc,w1,w2,w3,Bu,decide_true,decide_false]) | (with_reducible refine aB ?_) | (with_reducible first | refine aF br ?_ | refine aG br ?_) | (with_reducible first | refine aF y_2 ?_ | refine aG y_2 ?_) | ((first | refine cD (bP _) ?_ ?_ ?_ | refine cY (bP _) ?_ ?_ ?_ | fail);(focus (simp [aW,ag] <;> fail));(focus (simp [bp,bk] <;> fail))) | ((first | refine cD (bV _) ?_ ?_ ?_ | refine cY (bV _) ?_ ?_ ?_ | fail);(focus (simp [aW,ag] <;> fail));(focus (simp [bp,bk] <;> fail))) | (with_reducible first | refine aF cq ?_ | refine aG cq ?_) | ((first | refine aj (fun hg=>?_) (fun hg=>?_) | refine aC (fun hg=>?_) (fun hg=>?_) | refine aD (fun hg=>?_) (fun hg=>?_)) <;> try simp -implicitDefEqProofs only [hg,Bool.not_true,Bool.not_false]) | ((with_reducible apply And.intro);focus (first | trivial | omega | decide | (simp -implicitDefEqProofs only [maxLen];omega) | (simp [maxLen,an,aq,au,aA,ak,ax,av] <;> omega))) | fail)))
 all_goals (refine (hK _ _ (jT rfl rfl)).2)
theorem Ot (i:Ai) (s:Sz) (hf:Fit i) (hs:s.auto=false→bR s.n=true):aJ Go.Proofs.Try.prog 67 [i.sv,s.sv] [] [] (.aM [.agg ((dK i s).cells.map .rv),.rv (.int .i64 (dK i s).w),.rv (.bool (nS i s))]):=by
 refine bJ JF [i.sv,s.sv] _ (by simp) (by simp [aN,bl,bz,bf,bq,ai.sv,Ln.sv,Nd.sv]) (fun K hK=>?_)
 have h1:=kk i.left 0
 have h2:=kk i.right 0
 have h3:=zp i [bh i.left 0,bh i.right 0] hf.b hf.a (by simp [hf.l,hf.r]) (by simp)
 have f1:=gj (dK i s).l
 have f2:=gj (dK i s).w
 have f3:=gj (dK i s).r
 have e2:i.base - i.around - [bh i.left 0,bh i.right 0].sum=i.base - i.around - bh i.left 0 - bh i.right 0:=by simp;omega
 rw [e2] at h3
 simp -implicitDefEqProofs only [nS] at hK
 simp -implicitDefEqProofs only [lN,List.map_cons,List.map_nil,List.length_cons,List.length_nil,Ai.sv,Ai.cells,Sz.sv,Sz.cells,Nat.reduceAdd,Ao.cells,dK] at h1 h2 h3 hK f1 f2 f3
 conv in fc _ _ _ _=>reduce
 simp -implicitDefEqProofs only [Ai.sv,Ai.cells,Sz.sv,Sz.cells,go_sem,Int.reduceNegSucc]
 cases ha:s.auto with
 | true=>
   simp -implicitDefEqProofs only [ha,if_true] at hK f1 f2 f3
   have cg:=h1;have cz:=h2;have cA:=h3;have cS:=f1;have dc:=f2;have eM:=f3;repeat' (first | (simp -implicitDefEqProofs only [go_sem,Int.reduceNegSucc]) | (with_reducible refine aB ?_) | (with_reducible first | refine aF cg ?_ | refine aG cg ?_) | (with_reducible first | refine aF cz ?_ | refine aG cz ?_) | ((first | refine cD (cA _) ?_ ?_ ?_ | refine cY (cA _) ?_ ?_ ?_ | fail);(focus (simp [aW,ag] <;> fail));(focus (simp [bp,bk] <;> fail))) | (with_reducible first | refine aF cS ?_ | refine aG cS ?_) | (with_reducible first | refine aF dc ?_ | refine aG dc ?_) | (with_reducible first | refine aF eM ?_ | refine aG eM ?_) | ((first | refine aj (fun hg=>?_) (fun hg=>?_) | refine aC (fun hg=>?_) (fun hg=>?_) | refine aD (fun hg=>?_) (fun hg=>?_)) <;> try simp -implicitDefEqProofs only [hg,Bool.not_true,Bool.not_false]) | ((with_reducible apply And.intro);focus (first | trivial | omega | decide | (simp -implicitDefEqProofs only [maxLen];omega) | (simp [maxLen,an,aq,au,aA,ak,ax,av] <;> omega))) | fail)
   all_goals (refine (hK _ _ ?_).2;clear hK;simp -implicitDefEqProofs only [go_sem,Int.reduceNegSucc,bw,bD,bL,bN,aZ,aR,aP] <;>(try simp_all [-Int.not_lt,-Int.not_le,aZ,aR,aP,ck]) <;> try omega)
 | false=>
   have h4:=Oh i s.n hf (hs ha)
   simp -implicitDefEqProofs only [Ai.sv,Ai.cells,List.map_cons,List.map_nil] at h4
   simp -implicitDefEqProofs only [ha,Bool.false_eq_true,if_false] at hK f1 f2 f3
   have mj:=h1;have mm:=h2;have mo:=h4;have oR:=f1;have oS:=f2;have oT:=f3;repeat' (first | (simp -implicitDefEqProofs only [go_sem,Int.reduceNegSucc]) | (with_reducible refine aB ?_) | (with_reducible first | refine aF mj ?_ | refine aG mj ?_) | (with_reducible first | refine aF mm ?_ | refine aG mm ?_) | (with_reducible first | refine aF mo ?_ | refine aG mo ?_) | (with_reducible first | refine aF oR ?_ | refine aG oR ?_) | (with_reducible first | refine aF oS ?_ | refine aG oS ?_) | (with_reducible first | refine aF oT ?_ | refine aG oT ?_) | ((first | refine aj (fun hg=>?_) (fun hg=>?_) | refine aC (fun hg=>?_) (fun hg=>?_) | refine aD (fun hg=>?_) (fun hg=>?_)) <;> try simp -implicitDefEqProofs only [hg,Bool.not_true,Bool.not_false]) | ((with_reducible apply And.intro);focus (first | trivial | omega | decide | (simp -implicitDefEqProofs only [maxLen];omega) | (simp [maxLen,an,aq,au,aA,ak,ax,av] <;> omega))) | fail)
   all_goals (refine (hK _ _ ?_).2;clear hK;simp -implicitDefEqProofs only [go_sem,Int.reduceNegSucc,bw,bD,bL,bN,aZ,aR,aP] <;>(try simp_all [-Int.not_lt,-Int.not_le,aZ,aR,aP,ck]) <;> try omega)
theorem wA (i:Ai) (s:Sz) (hf:Fit i) (hs:s.auto=false→bR s.n=true) (j:Nat) (o:Ao) (n:Int):aJ Go.Proofs.Try.prog 82 [.ptr j 0,s.sv]
 [(j,.var (U.bW 67 [i.sv]::(o.cells++[RV.int .i64 n]).map .rv))] [(j,.var (U.bW 67 [i.sv]::((dK i s).cells++[RV.int .i64 (dK i s).w]).map .rv))] (.rv (.bool (nS i s))):=by
 refine kC JI [j] [.var (U.bW 67 [i.sv]::(o.cells++[RV.int .i64 n]).map .rv)] [.var (U.bW 67 [i.sv]::(o.cells++[RV.int .i64 n]).map .rv)] [.ptr 0 0,s.sv] [.ptr j 0,s.sv] _ _ (by simp) (by simp [aN,fW,bl,bz]) rfl (by simp [bK]) (by simp [de,zN,bl,bz,aN,bf,Ao.cells]) (fun K hK=>?_)
 have h1:=Ot i s hf hs
 simp -implicitDefEqProofs only [Ao.cells,List.cons_append,List.nil_append,List.map_cons,List.map_nil] at hK ⊢
 simp -implicitDefEqProofs only [Ao.cells,Sz.sv,Sz.cells,List.map_cons,List.map_nil] at h1
 conv in fc _ _ _ _=>reduce
 simp -implicitDefEqProofs only [Sz.sv,Sz.cells,go_sem,Int.reduceNegSucc]
 have oU:=h1;repeat' (first | (simp -implicitDefEqProofs only [go_sem,Int.reduceNegSucc]) | (with_reducible refine aB ?_) | (with_reducible first | refine aF oU ?_ | refine aG oU ?_) | ((first | refine aj (fun hg=>?_) (fun hg=>?_) | refine aC (fun hg=>?_) (fun hg=>?_) | refine aD (fun hg=>?_) (fun hg=>?_)) <;> try simp -implicitDefEqProofs only [hg,Bool.not_true,Bool.not_false]) | ((with_reducible apply And.intro);focus (first | trivial | omega | decide | (simp -implicitDefEqProofs only [maxLen];omega) | (simp [maxLen,an,aq,au,aA,ak,ax,av] <;> omega))) | fail)
 all_goals (try ((first | refine (hK _ _ _ _ [] (dg _ _) ?_).2 | refine (hK _ _ ?_).2 | refine (hK _ _ _ _ [] (dg _ _) ?_).1 | refine (hK _ _ ?_).1 | fail);clear hK;(simp_all [dx,bK,newL,dD,dh,bD,bw,lk,bL,cG,cQ,cJ,dS,dR,ag,dy,bN,aR,cV,dz,ek,aZ,eg,aP,cW,cL,ck,MT,Ao.cells]) <;> try omega))
end Go.aH

namespace Go.aH
open Go
theorem JH:aV Go.Proofs.Try.prog 66 60 (fc Go.Proofs.Try.prog 66 60 [(.c 8 3 true),(.t 9)]) [(.c 8 3 true),(.t 9)]:=bn (by kernel_rfl)
theorem JG:aV Go.Proofs.Try.prog 46 41 (fc Go.Proofs.Try.prog 46 41 [(.c 2 3 true),(.t 3)]) [(.c 2 3 true),(.t 3)]:=bn (by kernel_rfl)
def tL (i:Ai) (c:Ao→Bool) (s:Sz) (o:Ao):Option Ao:=if c o=true then (if nS i s=true then some (dK i s) else none) else some o
def rO (i:Ai):Option Ao:=if nS i i.wide=true then (tL i (fun o=>decide (o.w>i.most)) ⟨false,i.most⟩ (dK i i.wide)).bind (tL i (fun o=>decide (o.w<i.least)) ⟨false,i.least⟩) else none
def oB:Option Ao→Ao
 | some o=>o
 | none=>⟨0,0,0⟩
theorem NT (i:Ai) (hf:Fit i) (hw:bR (bh i.wide 0)=true) (h1:bR i.least=true) (h2:bR i.most=true):aJ Go.Proofs.Try.prog 66 [.bW 67 [i.sv],i.wide.sv,.rv (.int .i64 i.least),.rv (.int .i64 i.most)] [] [] (.aM [.agg ((oB (rO i)).cells.map .rv),.rv (.bool (rO i).isSome)]):=by
 refine bJ JH [.bW 67 [i.sv],i.wide.sv,.rv (.int .i64 i.least),.rv (.int .i64 i.most)] _ (by simp) (by simp [aN,zN,bl,bz,bf]) (fun K hK=>?_)
 have a0:=wA i i.wide hf (fun h=>by rwa [Mj h] at hw) 3 ⟨0,0,0⟩ 0
 have a1:=wA i ⟨false,i.most⟩ hf (fun _=>h2) 3 (dK i i.wide) (dK i i.wide).w
 have a2:=wA i ⟨false,i.least⟩ hf (fun _=>h1) 3 (dK i i.wide) (dK i i.wide).w
 have a3:=wA i ⟨false,i.least⟩ hf (fun _=>h1) 3 (dK i ⟨false,i.most⟩) (dK i ⟨false,i.most⟩).w
 unfold rO tL at hK
 simp -implicitDefEqProofs only [Ao.cells,Ai.sv,Sz.sv,Sz.cells,List.cons_append,List.nil_append,List.map_cons,List.map_nil] at a0 a1 a2 a3
 conv in fc _ _ _ _=>reduce
 simp -implicitDefEqProofs only [Ai.sv,Sz.sv,Sz.cells,go_sem,Int.reduceNegSucc]
 have br:=a0;have y_2:=a1;have bP:=a2;have bV:=a3;repeat' (first | (simp -implicitDefEqProofs only [go_sem,Int.reduceNegSucc]) | (with_reducible refine aB ?_) | (refine cD br ?_ ?_ ?_;(focus (simp [aW,ag] <;> fail));(focus (simp [bp,bk] <;> fail))) | (refine cY br ?_ ?_ ?_;(focus (simp [aW,ag] <;> fail));(focus (simp [bp,bk] <;> fail))) | (refine cD y_2 ?_ ?_ ?_;(focus (simp [aW,ag] <;> fail));(focus (simp [bp,bk] <;> fail))) | (refine cY y_2 ?_ ?_ ?_;(focus (simp [aW,ag] <;> fail));(focus (simp [bp,bk] <;> fail))) | (refine cD bP ?_ ?_ ?_;(focus (simp [aW,ag] <;> fail));(focus (simp [bp,bk] <;> fail))) | (refine cY bP ?_ ?_ ?_;(focus (simp [aW,ag] <;> fail));(focus (simp [bp,bk] <;> fail))) | (refine cD bV ?_ ?_ ?_;(focus (simp [aW,ag] <;> fail));(focus (simp [bp,bk] <;> fail))) | (refine cY bV ?_ ?_ ?_;(focus (simp [aW,ag] <;> fail));(focus (simp [bp,bk] <;> fail))) | ((first | refine aj (fun hg=>?_) (fun hg=>?_) | refine aC (fun hg=>?_) (fun hg=>?_) | refine aD (fun hg=>?_) (fun hg=>?_)) <;> try simp -implicitDefEqProofs only [hg,Bool.not_true,Bool.not_false]) | ((with_reducible apply And.intro);focus (first | trivial | omega | decide | (simp -implicitDefEqProofs only [maxLen];omega) | (simp [maxLen,an,aq,au,aA,ak,ax,av] <;> omega))) | fail)
 all_goals (refine (hK _ _ ?_).2;clear hK;simp -implicitDefEqProofs only [go_sem,Int.reduceNegSucc,bw,bD,bL,bN,aZ,aR,aP,Ao.cells,oB] <;>(try simp_all [-Int.not_lt,-Int.not_le,aZ,aR,aP,ck,Ao.cells,oB]) <;> try omega)
def so (i:Ai):Bool:=bR i.base && bR i.around && bR (bh i.left 0) && bR (bh i.wide 0) && bR (bh i.right 0)
def mV (i:Ai):Option Ao:=if so i=true then rO i else none
theorem FU {i:Ai} (h:so i=true):Fit i∧bR (bh i.wide 0)=true:=by
 simp -implicitDefEqProofs only [so,Bool.and_eq_true] at h
 obtain ⟨⟨⟨⟨a,b⟩,c⟩,d⟩,e⟩:=h
 exact ⟨⟨a,b,c,e⟩,d⟩
theorem NQ (i:Ai) (h1:bR i.least=true) (h2:bR i.most=true):aJ Go.Proofs.Try.prog 46 [i.sv] [] [] (.aM [.agg ((oB (mV i)).cells.map .rv),.rv (.bool (mV i).isSome)]):=by
 refine bJ JG [i.sv] _ (by simp) (by simp [aN,bl,bz,bf,bq,ai.sv,Ln.sv,Nd.sv]) (fun K hK=>?_)
 have o1:=kk i.left 0
 have o2:=kk i.wide 0
 have o3:=kk i.right 0
 have f1:=gj i.base
 have f2:=gj i.around
 have f3:=gj (bh i.left 0)
 have f4:=gj (bh i.wide 0)
 have f5:=gj (bh i.right 0)
 cases h5:so i with
 | true=>
   obtain ⟨hF,hw⟩:=FU h5
   have hb:=NT i hF hw h1 h2
   rw [hF.b] at f1
   rw [hF.a] at f2
   rw [hF.l] at f3
   rw [hw] at f4
   rw [hF.r] at f5
   simp -implicitDefEqProofs only [mV,h5,if_true] at hK
   simp -implicitDefEqProofs only [Ai.sv,Ai.cells,Sz.sv,Sz.cells,List.map_cons,List.map_nil] at hb o1 o2 o3
   conv in fc _ _ _ _=>reduce
   simp -implicitDefEqProofs only [Ai.sv,Ai.cells,Sz.sv,Sz.cells,go_sem,Int.reduceNegSucc]
   have cq:=o1;have cg:=o2;have cz:=o3;repeat' (first | (simp -implicitDefEqProofs only [go_sem,Int.reduceNegSucc]) | (with_reducible refine aB ?_) | (with_reducible first | refine aF cq ?_ | refine aG cq ?_) | (with_reducible first | refine aF cg ?_ | refine aG cg ?_) | (with_reducible first | refine aF cz ?_ | refine aG cz ?_) | ((first | refine aj (fun hg=>?_) (fun hg=>?_) | refine aC (fun hg=>?_) (fun hg=>?_) | refine aD (fun hg=>?_) (fun hg=>?_)) <;> try simp -implicitDefEqProofs only [hg,Bool.not_true,Bool.not_false]) | ((with_reducible apply And.intro);focus (first | trivial | omega | decide | (simp -implicitDefEqProofs only [maxLen];omega) | (simp [maxLen,an,aq,au,aA,ak,ax,av] <;> omega))) | fail)
   refine sw 6 ?_
   have cA:=f1;have cS:=f2;have dc:=f3;have eM:=f4;have mj:=f5;have mm:=hb;repeat' (first | (simp -implicitDefEqProofs only [go_sem,Int.reduceNegSucc,tQ,tR,tS,tT,tU,tV,rV,Int.reduceLT,decide_true,decide_false,Int.reduceToNat,Nat.reduceMul]) | (with_reducible refine aB ?_) | (with_reducible show G _ _ (It.l _ _::_) _ _ _;refine su ?_) | (with_reducible first | refine aF cA ?_ | refine aG cA ?_) | (with_reducible first | refine aF cS ?_ | refine aG cS ?_) | (with_reducible first | refine aF dc ?_ | refine aG dc ?_) | (with_reducible first | refine aF eM ?_ | refine aG eM ?_) | (with_reducible first | refine aF mj ?_ | refine aG mj ?_) | (with_reducible first | refine aF mm ?_ | refine aG mm ?_) | ((first | refine aj (fun hg=>?_) (fun hg=>?_) | refine aC (fun hg=>?_) (fun hg=>?_) | refine aD (fun hg=>?_) (fun hg=>?_)) <;> try simp -implicitDefEqProofs only [hg,Bool.not_true,Bool.not_false]) | ((with_reducible apply And.intro);focus (first | trivial | omega | decide | (simp -implicitDefEqProofs only [maxLen];omega) | (simp [maxLen,an,aq,au,aA,ak,ax,av] <;> omega))) | fail)
   all_goals (refine (hK _ _ ?_).2;clear hK;simp -implicitDefEqProofs only [go_sem,Int.reduceNegSucc,bw,bD,bL,bN,aZ,aR,aP,Ao.cells] <;>(try simp_all [-Int.not_lt,-Int.not_le,aZ,aR,aP,ck,Ao.cells]) <;> try omega)
 | false=>
   simp -implicitDefEqProofs only [mV,h5,Bool.false_eq_true,if_false] at hK
   simp -implicitDefEqProofs only [Ai.sv,Ai.cells,Sz.sv,Sz.cells,List.map_cons,List.map_nil] at o1 o2 o3
   conv in fc _ _ _ _=>reduce
   simp -implicitDefEqProofs only [Ai.sv,Ai.cells,Sz.sv,Sz.cells,go_sem,Int.reduceNegSucc]
   have mo:=o1;have oR:=o2;have oS:=o3;repeat' (first | (simp -implicitDefEqProofs only [go_sem,Int.reduceNegSucc]) | (with_reducible refine aB ?_) | (with_reducible first | refine aF mo ?_ | refine aG mo ?_) | (with_reducible first | refine aF oR ?_ | refine aG oR ?_) | (with_reducible first | refine aF oS ?_ | refine aG oS ?_) | ((first | refine aj (fun hg=>?_) (fun hg=>?_) | refine aC (fun hg=>?_) (fun hg=>?_) | refine aD (fun hg=>?_) (fun hg=>?_)) <;> try simp -implicitDefEqProofs only [hg,Bool.not_true,Bool.not_false]) | ((with_reducible apply And.intro);focus (first | trivial | omega | decide | (simp -implicitDefEqProofs only [maxLen];omega) | (simp [maxLen,an,aq,au,aA,ak,ax,av] <;> omega))) | fail)
   refine sw 6 ?_
   have oT:=f1;have oU:=f2;have tW:=f3;have tX:=f4;have tY:=f5;repeat' (first | (simp -implicitDefEqProofs only [go_sem,Int.reduceNegSucc,tQ,tR,tS,tT,tU,tV,rV,Int.reduceLT,decide_true,decide_false,Int.reduceToNat,Nat.reduceMul]) | (with_reducible refine aB ?_) | (with_reducible show G _ _ (It.l _ _::_) _ _ _;refine su ?_) | (with_reducible first | refine aF oT ?_ | refine aG oT ?_) | (with_reducible first | refine aF oU ?_ | refine aG oU ?_) | (with_reducible first | refine aF tW ?_ | refine aG tW ?_) | (with_reducible first | refine aF tX ?_ | refine aG tX ?_) | (with_reducible first | refine aF tY ?_ | refine aG tY ?_) | ((first | refine aj (fun hg=>?_) (fun hg=>?_) | refine aC (fun hg=>?_) (fun hg=>?_) | refine aD (fun hg=>?_) (fun hg=>?_)) <;> try simp -implicitDefEqProofs only [hg,Bool.not_true,Bool.not_false]) | ((with_reducible apply And.intro);focus (first | trivial | omega | decide | (simp -implicitDefEqProofs only [maxLen];omega) | (simp [maxLen,an,aq,au,aA,ak,ax,av] <;> omega))) | fail)
   all_goals first | (exfalso;simp_all [so];done) | skip
   all_goals (refine (hK _ _ ?_).2;clear hK;simp -implicitDefEqProofs only [go_sem,Int.reduceNegSucc,bw,bD,bL,bN,aZ,aR,aP,Ao.cells,oB] <;>(try simp_all [-Int.not_lt,-Int.not_le,aZ,aR,aP,ck,Ao.cells,oB]) <;> try omega)
end Go.aH

namespace Go.aH
open Go
theorem Kq:aV Go.Proofs.Try.prog 77 132 (fc Go.Proofs.Try.prog 77 132 [(.t 4)]) [(.t 4)]:=bn (by kernel_rfl)
theorem Kr:aV Go.Proofs.Try.prog 51 23 (fc Go.Proofs.Try.prog 51 23 [(.c 4 7 true),(.t 5)]) [(.c 4 7 true),(.t 5)]:=bn (by kernel_rfl)
structure Ch where
 top:Su
 bottom:Su
 inner:Su
 through:Bool
 high:Int
 deriving Inhabited,DecidableEq
def Ch.cells (c:Ch):List RV:=[.int .i64 c.top.p,.int .i64 c.top.n,.int .i64 c.bottom.p,.int .i64 c.bottom.n,.int .i64 c.inner.p,.int .i64 c.inner.n,.bool c.through,.int .i64 c.high]
structure Pl where
 lA:Int
 top:Su
 cur:Su
 mZ:Bool
 deriving Inhabited,DecidableEq
def Pl.cells (p:Pl):List RV:=[.int .i64 p.lA,.int .i64 p.top.p,.int .i64 p.top.n,.int .i64 p.cur.p,.int .i64 p.cur.n,.bool p.mZ]
def fe (l:List Ch):List (List RV):=l.map Ch.cells
theorem rX (l:List Ch):(fe l).length=l.length:=by simp [fe]
theorem Fq {l:List Ch} {i:Nat} (h:i<l.length):(fe l)[i]?.getD []=(l[i]'h).cells:=by simp [fe,h]
def nT (c:Ch):Su:=if c.through=true then c.inner else c.top
def nJ (p:Pl) (c:Ch):Int:=if p.mZ=true then 0 else dA [p.lA,nM (fj p.cur (nT c))]
def rm (p:Pl) (c:Ch):Pl:=
 if p.mZ=true then (if c.through=true then { p with top:=fj p.top c.top } else ⟨c.high,fj p.top c.top,c.bottom,false⟩)
 else if c.through=true then { p with cur:=fj p.cur c.top } else { p with lA:=dA [nJ p c,c.high],cur:=c.bottom }
def vY (p:Pl) (c:Ch):Bool:=
 if p.mZ=true then bR (rm p c).lA
 else rJ (fj p.cur (nT c)) && dH [p.lA,nM (fj p.cur (nT c))] && (c.through || dH [nJ p c,c.high])
def mQ (m:Nat) (p:Pl) (ys:List Int):HB:=.var (.row m ys.length ys.length::p.cells.map .rv)
def jX (ys:List Int):HB:=.row 1 ys.length (aI (aK ys))
theorem Oi (p:Pl) (c:Ch) (j m:Nat) (sG:j≠m) (ys:List Int) (hy:ys.length≤1000000):aJ Go.Proofs.Try.prog 77 [.ptr j 0,.agg (c.cells.map .rv)] [(j,mQ m p ys),(m,jX ys)]
 [(j,mQ m (rm p c) (ys++[nJ p c])),(m,jX (ys++[nJ p c]))] (.rv (.bool (vY p c))):=by
 refine kC Kq [j,m] [mQ 1 p ys,jX ys] [mQ m p ys,jX ys] [.ptr 0 0,.agg (c.cells.map .rv)] [.ptr j 0,.agg (c.cells.map .rv)] _ _ (by simp) (by simp [aN,fW,bl,bz]) rfl (by simp [bK,sG]) (by simp [de,mQ,jX,kV,aN,bf,fL,bz]) (fun K hK=>?_)
 have j1:=rD p.top c.top
 have j2:=rD p.cur (nT c)
 have j3:=rD p.cur c.top
 have v1:=zu (fj p.cur (nT c))
 have s1:=fun id=>rC id [p.lA,nM (fj p.cur (nT c))] (by simp)
 have s2:=fun id=>rC id [dA [p.lA,nM (fj p.cur (nT c))],c.high] (by simp)
 have f1:=gj p.lA
 have f2:=gj c.high
 have hl:=ak ys
 have mM:(aK ys).take ys.length=aK ys:=List.take_of_length_le (by omega)
 have vp:∀ y:Int,(ys++[y]).length=ys.length+1:=fun y=>by simp
 simp -implicitDefEqProofs only [mQ,jX,Pl.cells,rm,nJ,vY,vp] at hK
 simp -implicitDefEqProofs only [lN,Su.sv,Su.cells,List.map_cons,List.map_nil,List.length_cons,List.length_nil,Nat.reduceAdd] at j1 j2 j3 v1 s1 s2
 conv in fc _ _ _ _=>reduce
 simp -implicitDefEqProofs only [mQ,jX,Pl.cells,Ch.cells,go_sem,Int.reduceNegSucc]
 cases ha:p.mZ <;> cases ht:c.through <;> simp -implicitDefEqProofs only [ha,ht,nT,Bool.false_eq_true,if_true,if_false,Bool.false_or,Bool.true_or,Bool.and_true] at hK j1 j2 j3 v1 s1 s2 ⊢
 all_goals ((have br:=j1;have y_2:=j2;have bP:=j3;have bV:=v1;have cq:=s1;have cg:=s2;have cz:=f1;have cA:=f2;repeat' (first | (simp -implicitDefEqProofs only [go_sem,Int.reduceNegSucc,hl,mM,rz]) | (with_reducible refine aB ?_) | (with_reducible first | refine aF br ?_ | refine aG br ?_) | (with_reducible first | refine aF y_2 ?_ | refine aG y_2 ?_) | (with_reducible first | refine aF bP ?_ | refine aG bP ?_) | (with_reducible first | refine aF bV ?_ | refine aG bV ?_) | ((first | refine cD (cq _) ?_ ?_ ?_ | refine cY (cq _) ?_ ?_ ?_ | fail);(focus (simp [aW,ag] <;> fail));(focus (simp [bp,bk] <;> fail))) | ((first | refine cD (cg _) ?_ ?_ ?_ | refine cY (cg _) ?_ ?_ ?_ | fail);(focus (simp [aW,ag] <;> fail));(focus (simp [bp,bk] <;> fail))) | (with_reducible first | refine aF cz ?_ | refine aG cz ?_) | (with_reducible first | refine aF cA ?_ | refine aG cA ?_) | ((first | refine aj (fun hg=>?_) (fun hg=>?_) | refine aC (fun hg=>?_) (fun hg=>?_) | refine aD (fun hg=>?_) (fun hg=>?_)) <;> try simp -implicitDefEqProofs only [hg,Bool.not_true,Bool.not_false]) | ((with_reducible apply And.intro);focus (first | trivial | omega | decide | (simp -implicitDefEqProofs only [maxLen];omega) | (simp [maxLen,an,aq,au,aA,ak,ax,av] <;> omega))) | fail)))
 all_goals (refine (hK _ _ _ _ [] (dg _ _) ?_).2;clear hK j1 j2 j3 v1 s1 s2 f1 f2;simp [dx,bK,newL,dD,dh,bD,bw,lk,bL,cG,cQ,cJ,dS,dR,ag,dy,bN,aR,cV,dz,ek,aZ,eg,aP,cW,cL,sG,Ne.symm sG] <;> simp_all)
def qm:List Ch→Pl→List Int→Option (Pl×List Int)
 | [],p,ys=>some (p,ys)
 | c::l,p,ys=>if vY p c=true then qm l (rm p c) (ys++[nJ p c]) else none
def mh (l:List Ch) (o:Bool):Option (Pl×List Int):=qm l ⟨0,⟨0,0⟩,⟨0,0⟩,o⟩ []
def qi (m:Nat):Option (Pl×List Int)→U
 | some q=>.agg (.row m q.2.length q.2.length::q.1.cells.map .rv)
 | none=>.agg [.rv .bS,.rv (.int .i64 0),.rv (.int .i64 0),.rv (.int .i64 0),.rv (.int .i64 0),.rv (.int .i64 0),.rv (.bool false)]
def oG (m:Nat):Option (Pl×List Int)→List (Nat×HB)
 | some q=>[(m,jX q.2)]
 | none=>[]
theorem NO (l:List Ch) (o:Bool) (hb:l.length≤1000000) (m:Nat):aJ Go.Proofs.Try.prog 51 [.rv (.sl 8 (fe l)),.rv (.bool o)] [] (oG m (mh l o)) (.aM [qi m (mh l o),.rv (.bool (mh l o).isSome)]):=by
 refine kC Kr [] [] [] [.rv (.sl 8 (fe l)),.rv (.bool o)] [.rv (.sl 8 (fe l)),.rv (.bool o)] _ _ (by simp) (by simp [aN,bf]) rfl (by simp [bK]) (by simp [de]) (fun K hK=>?_)
 have hl:=rX l
 conv in fc _ _ _ _=>reduce
 simp -implicitDefEqProofs only [go_sem,Int.reduceNegSucc]
 repeat' (first | (simp -implicitDefEqProofs only [go_sem,Int.reduceNegSucc,hl]) | (with_reducible refine aB ?_) | ((first | refine aj (fun hg=>?_) (fun hg=>?_) | refine aC (fun hg=>?_) (fun hg=>?_) | refine aD (fun hg=>?_) (fun hg=>?_)) <;> try simp -implicitDefEqProofs only [hg,Bool.not_true,Bool.not_false]) | ((with_reducible apply And.intro);focus (first | trivial | omega | decide | (simp -implicitDefEqProofs only [maxLen];omega) | (simp [maxLen,an,aq,au,aA,ak,ax,av] <;> omega))) | fail)
 refine cN (ι:=Nat×Pl×List Int) (fun q=>[(13,.rv (.int .i64 q.1)),(12,.rv (.int .i64 l.length)),(11,.rv (.sl 8 (fe l))),(6,.ptr 1 0),(4,.ptr 0 0)]) (fun q=>[some (.var [.rv .bS,.rv (.int .i64 0),.rv (.int .i64 0),.rv (.int .i64 0),.rv (.int .i64 0),.rv (.int .i64 0),.rv (.bool false)]),some (mQ 2 q.2.1 q.2.2),some (jX q.2.2)])
  (fun q=>q.1≤l.length∧q.2.2.length=q.1∧qm (l.drop q.1) q.2.1 q.2.2=mh l o) (fun q=>l.length - q.1) (0,⟨0,⟨0,0⟩,⟨0,0⟩,o⟩,[]) ⟨Nat.zero_le _,rfl,rfl⟩ ((Aw 1 1 0 rfl rfl).trans (bA (by simp [lk,bk]))) (fun q hq K' hN hX hR=>?_)
 obtain ⟨k,p,ys⟩:=q
 obtain ⟨ct,hk2,cT⟩:=hq
 dsimp only at ct hk2 cT ⊢
 simp -implicitDefEqProofs only [go_sem,Int.reduceNegSucc]
 refine aj (fun hg=>?_) (fun hg=>?_)
 ·have ay:k<l.length:=by simp at hg;omega
  have wu:=cr (k:=k) (by omega)
  have hx:=Fq ay
  have hp:=Oi p l[k] 1 2 (by decide) ys (by omega)
  rw [List.drop_eq_getElem_cons ay,qm] at cT
  generalize l[k]=c at *
  have q1:(c.cells.map U.rv).take 8=c.cells.map U.rv:=rfl
  have q2:c.cells.take 8=c.cells:=rfl
  have q3:(c.cells.map U.rv).length=8:=rfl
  have q4:(c.cells.map U.rv).drop 8=[]:=rfl
  have q5:c.cells.length=8:=rfl
  cases hok:vY p c with
  | true=>
    rw [hok] at hp
    rw [if_pos hok] at cT
    have cS:=hp;repeat' (first | (simp -implicitDefEqProofs only [go_sem,Int.reduceNegSucc,hl,hx,q1,q2,q3,q4,q5,wu]) | (with_reducible refine aB ?_) | (refine cD cS ?_ ?_ ?_;(focus (simp [aW,ag] <;> fail));(focus (simp [bp,bk] <;> fail))) | (refine cY cS ?_ ?_ ?_;(focus (simp [aW,ag] <;> fail));(focus (simp [bp,bk] <;> fail))) | ((first | refine aj (fun hg=>?_) (fun hg=>?_) | refine aC (fun hg=>?_) (fun hg=>?_) | refine aD (fun hg=>?_) (fun hg=>?_)) <;> try simp -implicitDefEqProofs only [hg,Bool.not_true,Bool.not_false]) | ((with_reducible apply And.intro);focus (first | trivial | omega | decide | (simp -implicitDefEqProofs only [maxLen];omega) | (simp [maxLen,an,aq,au,aA,ak,ax,av] <;> omega))) | fail)
    exact hN (k+1,rm p c,ys++[nJ p c]) _ _ ⟨by dsimp only;omega,by simp [hk2],cT⟩ (by dsimp only;omega) (sj (h':=[some (.var [.rv .bS,.rv (.int .i64 0),.rv (.int .i64 0),.rv (.int .i64 0),.rv (.int .i64 0),.rv (.int .i64 0),.rv (.bool false)]),some (mQ 2 (rm p c) (ys++[nJ p c])),some (jX (ys++[nJ p c]))]) (Nat.zero_le _) ⟨mB (rs:=[.bS,.int .i64 0,.int .i64 0,.int .i64 0,.int .i64 0,.int .i64 0,.bool false]),⟨lz.2 (by simp),mB⟩,fM,trivial⟩ (by simp [fU,lk,ng,nc]))
  | false=>
    rw [hok] at hp
    rw [if_neg (by rw [hok];simp)] at cT
    have dc:=hp;repeat' (first | (simp -implicitDefEqProofs only [go_sem,Int.reduceNegSucc,hl,hx,q1,q2,q3,q4,q5,wu]) | (with_reducible refine aB ?_) | (refine cD dc ?_ ?_ ?_;(focus (simp [aW,ag] <;> fail));(focus (simp [bp,bk] <;> fail))) | (refine cY dc ?_ ?_ ?_;(focus (simp [aW,ag] <;> fail));(focus (simp [bp,bk] <;> fail))) | ((first | refine aj (fun hg=>?_) (fun hg=>?_) | refine aC (fun hg=>?_) (fun hg=>?_) | refine aD (fun hg=>?_) (fun hg=>?_)) <;> try simp -implicitDefEqProofs only [hg,Bool.not_true,Bool.not_false]) | ((with_reducible apply And.intro);focus (first | trivial | omega | decide | (simp -implicitDefEqProofs only [maxLen];omega) | (simp [maxLen,an,aq,au,aA,ak,ax,av] <;> omega))) | fail)
    refine hR _ _ (hK _ _ _ _ [] (dg _ _) ?_).2
    rw [← cT]
    simp [dx,bK,newL,dD,dh,bD,bw,lk,bL,cG,cQ,cJ,dS,dR,ag,dy,bN,aR,cV,dz,ek,aZ,eg,aP,cW,cL,dO,qi,oG,Pl.cells,aZ,aP]
 ·have ay:k=l.length:=by simp at hg;omega
  subst ay
  simp -implicitDefEqProofs only [go_sem,Int.reduceNegSucc]
  refine hX _ _ _ ?_
  rw [List.drop_length,qm] at cT
  simp -implicitDefEqProofs only [mQ,jX,Pl.cells,go_sem,Int.reduceNegSucc]
  repeat' (first | (simp -implicitDefEqProofs only [go_sem,Int.reduceNegSucc]) | (with_reducible refine aB ?_) | ((first | refine aj (fun hg=>?_) (fun hg=>?_) | refine aC (fun hg=>?_) (fun hg=>?_) | refine aD (fun hg=>?_) (fun hg=>?_)) <;> try simp -implicitDefEqProofs only [hg,Bool.not_true,Bool.not_false]) | ((with_reducible apply And.intro);focus (first | trivial | omega | decide | (simp -implicitDefEqProofs only [maxLen];omega) | (simp [maxLen,an,aq,au,aA,ak,ax,av] <;> omega))) | fail)
  refine (hK _ _ _ _ [none,none,some m] (dg _ _) ?_).2
  rw [← cT]
  simp [dx,bK,newL,dD,dh,bD,bw,lk,bL,cG,cQ,cJ,dS,dR,ag,dy,bN,aR,cV,dz,ek,aZ,eg,aP,cW,cL,dO,qi,oG,Pl.cells,jX,aZ,aP]
theorem AI {cs:List U} (h:∀ y∈cs,dB y):dB (.agg cs):=.agg _ fun j y hy=>h y (List.mem_of_getElem? hy)
theorem FV {cs:List U} (h:∀ y∈cs,dB y):dB (.aM cs):=.aM _ fun j y hy=>h y (List.mem_of_getElem? hy)
theorem MI (p:Pl):∀ r∈p.cells,eu r:=by
 intro r hr
 simp -implicitDefEqProofs only [Pl.cells,List.mem_cons,List.not_mem_nil,or_false] at hr
 rcases hr with rfl | rfl | rfl | rfl | rfl | rfl <;> first | exact .int _ _ | exact .bool _
theorem Pb (ys:List Int):mu (jX ys):=.row _ _ _ fun i x j y hx hy=>by
 simp -implicitDefEqProofs only [aI,List.getElem?_map,Option.map_eq_some_iff,aK] at hx
 obtain ⟨a,⟨b,_,rfl⟩,rfl⟩:=hx
 cases j with
 | zero=>simp at hy;subst hy;exact .rv _ (.int _ _)
 | succ j=>simp at hy
theorem MH (m:Nat) (o:Option (Pl×List Int)):dB (qi m o):=by
 cases o with
 | none=>
   refine AI fun y hy=>?_
   simp -implicitDefEqProofs only [List.mem_cons,List.not_mem_nil,or_false] at hy
   rcases hy with rfl | rfl | rfl | rfl | rfl | rfl | rfl <;> exact .rv _ (by constructor)
 | some q=>
   refine AI fun y hy=>?_
   rcases List.mem_cons.1 hy with rfl | hy
   ·exact .row _ _ _
   ·obtain ⟨r,hr,rfl⟩:=List.mem_map.1 hy
    exact .rv _ (MI _ r hr)
theorem NP (l:List Ch) (o:Bool) (hb:l.length≤1000000) (j v m:Nat) (sG:j≠m):aJ Go.Proofs.Try.prog 51 [.row j v l.length,.rv (.bool o)] [(j,.row 8 v (aI (fe l)))] (oG m (mh l o)) (.aM [qi m (mh l o),.rv (.bool (mh l o).isSome)]):=by
 refine zU (ey:=[.rv (.sl 8 (fe l)),.rv (.bool o)]) (NO l o hb m) rfl (fun hp hpre k y r hy hr=>?_) (FV fun y hy=>?_) (fun q hq=>?_)
 ·match k with
  | 0=>
    cases hy;cases hr
    have:=pH (h:=hp) (τ:=fun _=>none) (j:=j) (e:=8) (af:=v) (len:=l.length) (xs:=fe l) (hpre _ (.head _)) rfl (by rw [rX];omega) (fun x hx r hr=>by
     obtain ⟨c,_,rfl⟩:=List.mem_map.1 hx
     simp -implicitDefEqProofs only [Ch.cells,List.mem_cons,List.not_mem_nil,or_false] at hr
     rcases hr with rfl | rfl | rfl | rfl | rfl | rfl | rfl | rfl <;> rfl)
    rw [List.take_of_length_le (by rw [rX];omega)] at this
    exact .fz _ _ this
  | 1=>cases hy;cases hr;exact aR.2 rfl
  | k+2=>simp at hy
 ·simp -implicitDefEqProofs only [List.mem_cons,List.not_mem_nil,or_false] at hy
  rcases hy with rfl | rfl
  ·exact MH _ _
  ·exact .rv _ (.bool _)
 ·revert hq
  cases mh l o with
  | none=>simp [oG]
  | some z=>
    simp -implicitDefEqProofs only [oG,List.mem_singleton]
    rintro rfl
    refine ⟨Pb _,fun p hp=>?_⟩
    subst hp
    exact sG
end Go.aH

namespace Go.aH
open Go
theorem Ke:aV Go.Proofs.Try.prog 87 28 (fc Go.Proofs.Try.prog 87 28 [(.t 6)]) [(.t 6)]:=bn (by kernel_rfl)
theorem Kd:aV Go.Proofs.Try.prog 69 59 (fc Go.Proofs.Try.prog 69 59 [(.c 8 8 true)]) [(.c 8 8 true)]:=bn (by kernel_rfl)
abbrev Ed.sv (e:Ed):U:=.agg (e.cells.map .rv)
def kA (e:Ed):List Int:=[e.aX.d,e.pad.d.n,e.pad.b.n,e.aX.b]
def jK (e:Ed):List Int:=[e.aX.a,e.pad.a.n,e.pad.c.n,e.aX.c]
theorem NS (e:Ed):aJ Go.Proofs.Try.prog 42 [e.sv,.rv (.int .i64 3),.rv (.int .i64 1)] [] [] (.aM [.rv (.int .i64 (dA (kA e))),.rv (.bool (dH (kA e)))]):=by
 refine bJ BV [e.sv,.rv (.int .i64 3),.rv (.int .i64 1)] _ (by simp) (by simp [aN,bl,bz,bf,bq,ai.sv,Ln.sv,Nd.sv]) (fun K hK=>?_)
 have h:=fun id=>rC id (kA e) (by simp [kA])
 simp -implicitDefEqProofs only [lN,kA,List.map_cons,List.map_nil,List.length_cons,List.length_nil,Nat.reduceAdd] at h hK
 conv in fc _ _ _ _=>reduce
 simp -implicitDefEqProofs only [Ed.sv,Ed.cells,Q4.fm,Q4.ints,go_sem,Int.reduceNegSucc]
 have br:=h;repeat' (first | (simp -implicitDefEqProofs only [go_sem,Int.reduceNegSucc]) | (with_reducible refine aB ?_) | ((first | refine cD (br _) ?_ ?_ ?_ | refine cY (br _) ?_ ?_ ?_ | fail);(focus (simp [aW,ag] <;> fail));(focus (simp [bp,bk] <;> fail))) | ((first | refine aj (fun hg=>?_) (fun hg=>?_) | refine aC (fun hg=>?_) (fun hg=>?_) | refine aD (fun hg=>?_) (fun hg=>?_)) <;> try simp -implicitDefEqProofs only [hg,Bool.not_true,Bool.not_false]) | ((with_reducible apply And.intro);focus (first | trivial | omega | decide | (simp -implicitDefEqProofs only [maxLen];omega) | (simp [maxLen,an,aq,au,aA,ak,ax,av] <;> omega))) | fail)
 exact (hK _ _ (jT rfl rfl)).2
theorem NR (e:Ed):aJ Go.Proofs.Try.prog 42 [e.sv,.rv (.int .i64 0),.rv (.int .i64 2)] [] [] (.aM [.rv (.int .i64 (dA (jK e))),.rv (.bool (dH (jK e)))]):=by
 refine bJ BV [e.sv,.rv (.int .i64 0),.rv (.int .i64 2)] _ (by simp) (by simp [aN,bl,bz,bf,bq,ai.sv,Ln.sv,Nd.sv]) (fun K hK=>?_)
 have h:=fun id=>rC id (jK e) (by simp [jK])
 simp -implicitDefEqProofs only [lN,jK,List.map_cons,List.map_nil,List.length_cons,List.length_nil,Nat.reduceAdd] at h hK
 conv in fc _ _ _ _=>reduce
 simp -implicitDefEqProofs only [Ed.sv,Ed.cells,Q4.fm,Q4.ints,go_sem,Int.reduceNegSucc]
 have y_2:=h;repeat' (first | (simp -implicitDefEqProofs only [go_sem,Int.reduceNegSucc]) | (with_reducible refine aB ?_) | ((first | refine cD (y_2 _) ?_ ?_ ?_ | refine cY (y_2 _) ?_ ?_ ?_ | fail);(focus (simp [aW,ag] <;> fail));(focus (simp [bp,bk] <;> fail))) | ((first | refine aj (fun hg=>?_) (fun hg=>?_) | refine aC (fun hg=>?_) (fun hg=>?_) | refine aD (fun hg=>?_) (fun hg=>?_)) <;> try simp -implicitDefEqProofs only [hg,Bool.not_true,Bool.not_false]) | ((with_reducible apply And.intro);focus (first | trivial | omega | decide | (simp -implicitDefEqProofs only [maxLen];omega) | (simp [maxLen,an,aq,au,aA,ak,ax,av] <;> omega))) | fail)
 exact (hK _ _ (jT rfl rfl)).2
def wD (e:Ed) (kids:Nat) (p:Pl):Bool:=e.flat && if kids=0 then e.high.auto || (e.high.n == 0) else e.high.auto && p.mZ
def oF (y:RV) (p:Pl):List RV:=y::p.cells
theorem Ow (e:Ed) (kids:Nat) (y:RV) (p:Pl):aJ Go.Proofs.Try.prog 87 [e.sv,.rv (.int .i64 kids),.agg ((oF y p).map .rv)] [] [] (.rv (.bool (wD e kids p))):=by
 refine bJ Ke [e.sv,.rv (.int .i64 kids),.agg ((oF y p).map .rv)] _ (by simp) (by simp [aN,bl,bz,bf,bq,ai.sv,Ln.sv,Nd.sv]) (fun K hK=>?_)
 have hk:((kids:Int) == 0)=decide (kids=0):=by rw [Bool.eq_iff_iff];simp
 simp -implicitDefEqProofs only [wD] at hK
 conv in fc _ _ _ _=>reduce
 simp -implicitDefEqProofs only [Ed.sv,Ed.cells,oF,Pl.cells,Q4.fm,Q4.ints,go_sem,Int.reduceNegSucc]
 by_cases h0:kids=0 <;> simp -implicitDefEqProofs only [h0,decide_true,decide_false] at hk
 all_goals ((repeat' (first | (simp -implicitDefEqProofs only [go_sem,Int.reduceNegSucc,hk]) | (with_reducible refine aB ?_) | ((first | refine aj (fun hg=>?_) (fun hg=>?_) | refine aC (fun hg=>?_) (fun hg=>?_) | refine aD (fun hg=>?_) (fun hg=>?_)) <;> try simp -implicitDefEqProofs only [hg,Bool.not_true,Bool.not_false]) | ((with_reducible apply And.intro);focus (first | trivial | omega | decide | (simp -implicitDefEqProofs only [maxLen];omega) | (simp [maxLen,an,aq,au,aA,ak,ax,av] <;> omega))) | fail)))
 all_goals (refine (hK _ _ (bX ?_)).2;clear hK;simp_all [lk])
def uH (e:Ed) (kids:Nat) (p:Pl) (high:Int):Ch:=
 let b:Su:=⟨max (bh e.aY.c 0) 0,min (bh e.aY.c 0) 0⟩
 let i:=fj ⟨max (bh e.aY.a 0) 0,min (bh e.aY.a 0) 0⟩ p.top
 if wD e kids p=true then ⟨fj i b,fj i b,i,true,high⟩
 else ⟨i,if e.oA=true∧0<kids then fj b p.cur else b,i,false,high⟩
theorem NV (e:Ed) (kids:Nat) (y:RV) (p:Pl) (high:Int):aJ Go.Proofs.Try.prog 69 [e.sv,.rv (.int .i64 kids),.agg ((oF y p).map .rv),.rv (.int .i64 high)] [] [] (.agg ((uH e kids p high).cells.map .rv)):=by
 refine bJ Kd [e.sv,.rv (.int .i64 kids),.agg ((oF y p).map .rv),.rv (.int .i64 high)] _ (by simp) (by simp [aN,bl,bz,bf,bq,ai.sv,Ln.sv,Nd.sv]) (fun K hK=>?_)
 have o1:=kk e.aY.a 0
 have o2:=kk e.aY.c 0
 have s1:=DE (bh e.aY.a 0)
 have s2:=DE (bh e.aY.c 0)
 have ht:=Ow e kids y p
 simp -implicitDefEqProofs only [uH] at hK
 generalize (⟨max (bh e.aY.a 0) 0,min (bh e.aY.a 0) 0⟩:Su)=A at *
 generalize (⟨max (bh e.aY.c 0) 0,min (bh e.aY.c 0) 0⟩:Su)=B at *
 have j1:=rD A p.top
 have j2:=rD (fj A p.top) B
 have j3:=rD B p.cur
 have hk:decide ((kids:Int)>0)=decide (0<kids):=by simp
 generalize wD e kids p=T at *
 generalize fj A p.top=I at *
 simp -implicitDefEqProofs only [Ed.sv,Ed.cells,oF,Pl.cells,Q4.fm,Q4.ints,Su.sv,Su.cells,Sz.sv,Sz.cells,List.map_cons,List.map_nil,List.cons_append,List.nil_append] at o1 o2 s1 s2 ht j1 j2 j3
 conv in fc _ _ _ _=>reduce
 simp -implicitDefEqProofs only [Ed.sv,Ed.cells,oF,Pl.cells,Q4.fm,Q4.ints,go_sem,Int.reduceNegSucc]
 cases T <;> simp -implicitDefEqProofs only [Bool.false_eq_true,if_true,if_false] at hK ⊢
 all_goals ((have bP:=o1;have bV:=o2;have cq:=s1;have cg:=s2;have cz:=ht;have cA:=j1;have cS:=j2;have dc:=j3;repeat' (first | (simp -implicitDefEqProofs only [go_sem,Int.reduceNegSucc,hk]) | (with_reducible refine aB ?_) | (with_reducible first | refine aF bP ?_ | refine aG bP ?_) | (with_reducible first | refine aF bV ?_ | refine aG bV ?_) | (with_reducible first | refine aF cq ?_ | refine aG cq ?_) | (with_reducible first | refine aF cg ?_ | refine aG cg ?_) | (with_reducible first | refine aF cz ?_ | refine aG cz ?_) | (with_reducible first | refine aF cA ?_ | refine aG cA ?_) | (with_reducible first | refine aF cS ?_ | refine aG cS ?_) | (with_reducible first | refine aF dc ?_ | refine aG dc ?_) | ((first | refine aj (fun hg=>?_) (fun hg=>?_) | refine aC (fun hg=>?_) (fun hg=>?_) | refine aD (fun hg=>?_) (fun hg=>?_)) <;> try simp -implicitDefEqProofs only [hg,Bool.not_true,Bool.not_false]) | ((with_reducible apply And.intro);focus (first | trivial | omega | decide | (simp -implicitDefEqProofs only [maxLen];omega) | (simp [maxLen,an,aq,au,aA,ak,ax,av] <;> omega))) | fail)))
 all_goals (refine (hK _ _ ?_).2;clear hK;simp -implicitDefEqProofs only [go_sem,Int.reduceNegSucc,bw,bD,bL,bN,aZ,aR,aP,Ch.cells] <;>(try simp_all [-Int.not_lt,-Int.not_le,aZ,aR,aP,ck,Ch.cells]) <;> try omega)
end Go.aH

namespace Go.aH
open Go
theorem Kf:aV Go.Proofs.Try.prog 47 130 (fc Go.Proofs.Try.prog 47 130 [(.c 8 25 true),(.c 9 9 true),(.t 10)]) [(.c 8 25 true),(.c 9 9 true),(.t 10)]:=bn (by kernel_rfl)
theorem Kb:aV Go.Proofs.Try.prog 26 116 (fc Go.Proofs.Try.prog 26 116 [(.c 10 25 true),(.c 11 9 true),(.t 12)]) [(.c 10 25 true),(.c 11 9 true),(.t 12)]:=bn (by kernel_rfl)
structure Fm where
 x:Int
 y:Int
 w:Int
 h:Int
 aY:Q4 Int
 pad:Q4 Int
 aX:Q4 Int
 known:Bool
 child:Ch
 deriving DecidableEq,Inhabited
def Fm.cells (f:Fm):List RV:=[.int .i64 f.x,.int .i64 f.y,.int .i64 f.w,.int .i64 f.h]++f.aY.ints++f.pad.ints++f.aX.ints++(.bool f.known::f.child.cells)
structure La where
 L:List (Nat×Fm)
 p:Pl
 ys:List Int
 high:Int
 deriving DecidableEq,Inhabited
def dX (q:Nat×Fm):List RV:=.int .i64 q.1::q.2.cells
def dG (L:List (Nat×Fm)):List (List RV):=L.map dX
def cF:Option La→List RV
 | some t=>.sl 26 (dG t.L) :: .sl 1 (aK t.ys)::(t.p.cells++[.int .i64 t.high])
 | none=>[.bS,.bS,.int .i64 0,.int .i64 0,.int .i64 0,.int .i64 0,.int .i64 0,.bool false,.int .i64 0]
def eP:Option Fm→List RV
 | some f=>f.cells
 | none=>[.int .i64 0,.int .i64 0,.int .i64 0,.int .i64 0,.int .i64 0,.int .i64 0,.int .i64 0,.int .i64 0,.int .i64 0,.int .i64 0,.int .i64 0,.int .i64 0,.int .i64 0,.int .i64 0,.int .i64 0,.int .i64 0,.bool false,.int .i64 0,.int .i64 0,.int .i64 0,.int .i64 0,.int .i64 0,.int .i64 0,.bool false,.int .i64 0]
abbrev kB (r:Option (Fm×La)):U:=.aM [.agg ((eP (r.map (·.1))).map .rv),.agg ((cF (r.map (·.2))).map .rv),.rv (.bool r.isSome)]
def nB (e:Ed):Sz:=if e.high.auto=true then e.high else ⟨false,uJ e.high.n e.least e.most⟩
def om (e:Ed) (t:La):Int:=if e.high.auto=true then uJ t.high e.least e.most else uJ e.high.n e.least e.most
def qI (e:Ed) (x:Ao) (kids:Nat) (t:La):Fm:=
 ⟨x.l,0,x.w,om e t,⟨bh e.aY.a 0,x.r,bh e.aY.c 0,x.l⟩,⟨e.pad.a.n,e.pad.b.n,e.pad.c.n,e.pad.d.n⟩,e.aX,!e.high.auto,uH e kids t.p (dA [dA (jK e),om e t])⟩
def qG (e:Ed) (x:Ao) (kids:Nat) (r:Option La×Bool):Option (Fm×La):=if r.2=true then r.1.bind fun t=>if dH (jK e)=true∧dH [dA (jK e),om e t]=true then some (qI e x kids t,t) else none else none
theorem NX (l:List Nd) (hb:l.length≤8589934592) (n:Int) (e:Ed) (x:Ao) (r:Option La×Bool) (hr:r.2=true→r.1.isSome=true)
 (hI:aJ Go.Proofs.Try.prog 28 [.rv (bZ l),.rv (.int .i64 n),.rv (.int .i64 x.w),(nB e).sv,e.sv,.rv (.int .i64 (-1))] [] [] (.aM [.agg ((cF r.1).map .rv),.rv (.bool r.2)])) :
 aJ Go.Proofs.Try.prog 47 [.rv (bZ l),.rv (.int .i64 n),e.sv,.agg (x.cells.map .rv)] [] [] (kB (qG e x (cH l n).length r)):=by
 refine bJ Kf [.rv (bZ l),.rv (.int .i64 n),e.sv,.agg (x.cells.map .rv)] _ (by simp) (by simp [aN,bl,bz,bf,bq,ai.sv,Ln.sv,Nd.sv]) (fun K hK=>?_)
 obtain ⟨o,ok⟩:=r
 have hc:=Dw e.high.n e.least e.most
 have hf:=Dt l n hb
 have hfl:=CA (cH l n)
 have o1:=kk e.aY.a 0
 have o2:=kk e.aY.c 0
 have ha:=NR e
 cases ok with
 | false=>
   have e1:qG e x (cH l n).length (o,false)=none:=rfl
   rw [e1] at hK
   obtain ⟨u,hu,kK⟩:∃ u,cF o=u∧u.length=9:=⟨_,rfl,by cases o <;> rfl⟩
   rw [hu] at hI
   have q1:(u.map U.rv).length=9:=by simp [kK]
   have q2:(u.map U.rv).drop 9=[]:=List.drop_of_length_le (by omega)
   have q3:(u.map U.rv).take 9=u.map U.rv:=List.take_of_length_le (by omega)
   simp -implicitDefEqProofs only [nB] at hI
   simp -implicitDefEqProofs only [Ed.sv,Ed.cells,Q4.fm,Q4.ints,Sz.sv,Sz.cells,List.map_cons,List.map_nil,List.cons_append,List.nil_append] at hI
   conv in fc _ _ _ _=>reduce
   simp -implicitDefEqProofs only [Ed.sv,Ed.cells,Q4.fm,Q4.ints,Ao.cells,go_sem,Int.reduceNegSucc]
   cases hh:e.high.auto <;> simp -implicitDefEqProofs only [hh,Bool.false_eq_true,if_true,if_false] at hI ⊢
   all_goals ((have br:=hc;have y_2:=hI;repeat' (first | (simp -implicitDefEqProofs only [go_sem,Int.reduceNegSucc,kK,q2,q3,List.length_map,List.append_nil]) | (with_reducible refine aB ?_) | (with_reducible first | refine aF br ?_ | refine aG br ?_) | (with_reducible first | refine aF y_2 ?_ | refine aG y_2 ?_) | ((first | refine aj (fun hg=>?_) (fun hg=>?_) | refine aC (fun hg=>?_) (fun hg=>?_) | refine aD (fun hg=>?_) (fun hg=>?_)) <;> try simp -implicitDefEqProofs only [hg,Bool.not_true,Bool.not_false]) | ((with_reducible apply And.intro);focus (first | trivial | omega | decide | (simp -implicitDefEqProofs only [maxLen];omega) | (simp [maxLen,an,aq,au,aA,ak,ax,av] <;> omega))) | fail)))
   all_goals (refine (hK _ _ ?_).2;simp -implicitDefEqProofs only [go_sem,Int.reduceNegSucc,bw,bD,bL,bN,aZ,aR,aP,eP,cF,Option.map,Option.isSome])
 | true=>
   obtain ⟨t,rfl⟩:=Option.isSome_iff_exists.1 (hr rfl)
   have e1:qG e x (cH l n).length (some t,true)=if dH (jK e)=true∧dH [dA (jK e),om e t]=true then some (qI e x (cH l n).length t,t) else none:=rfl
   rw [e1] at hK
   have s1:=fun id=>rC id [dA (jK e),om e t] (by simp)
   have nu:=Dw t.high e.least e.most
   have vk:=NV e (cH l n).length (.sl 1 (aK t.ys)) t.p (dA [dA (jK e),om e t])
   simp -implicitDefEqProofs only [qI] at hK
   generalize uH e (cH l n).length t.p (dA [dA (jK e),om e t])=C at *
   generalize bh e.aY.a 0=O1 at *
   generalize bh e.aY.c 0=O2 at *
   generalize jK e=A at *
   simp -implicitDefEqProofs only [nB,om] at hI s1 vk hK
   simp -implicitDefEqProofs only [lN,cF,oF,Pl.cells,Ed.sv,Ed.cells,Q4.fm,Q4.ints,Sz.sv,Sz.cells,Ch.cells,List.map_cons,List.map_nil,List.cons_append,List.nil_append,List.length_cons,List.length_nil,Nat.reduceAdd] at hI vk ha o1 o2 s1
   conv in fc _ _ _ _=>reduce
   simp -implicitDefEqProofs only [Ed.sv,Ed.cells,Q4.fm,Q4.ints,Ao.cells,go_sem,Int.reduceNegSucc]
   cases hh:e.high.auto <;> simp -implicitDefEqProofs only [hh,Bool.false_eq_true,if_true,if_false] at hI ha s1 vk hK ⊢
   all_goals ((have bP:=hc;have bV:=nu;have cq:=hI;have cg:=ha;have cz:=s1;have cA:=o1;have cS:=o2;repeat' (first | (simp -implicitDefEqProofs only [go_sem,Int.reduceNegSucc]) | (with_reducible refine aB ?_) | (with_reducible first | refine aF bP ?_ | refine aG bP ?_) | (with_reducible first | refine aF bV ?_ | refine aG bV ?_) | (with_reducible first | refine aF cq ?_ | refine aG cq ?_) | (with_reducible first | refine aF cg ?_ | refine aG cg ?_) | ((first | refine cD (cz _) ?_ ?_ ?_ | refine cY (cz _) ?_ ?_ ?_ | fail);(focus (simp [aW,ag] <;> fail));(focus (simp [bp,bk] <;> fail))) | (with_reducible first | refine aF cA ?_ | refine aG cA ?_) | (with_reducible first | refine aF cS ?_ | refine aG cS ?_) | ((first | refine aj (fun hg=>?_) (fun hg=>?_) | refine aC (fun hg=>?_) (fun hg=>?_) | refine aD (fun hg=>?_) (fun hg=>?_)) <;> try simp -implicitDefEqProofs only [hg,Bool.not_true,Bool.not_false]) | ((with_reducible apply And.intro);focus (first | trivial | omega | decide | (simp -implicitDefEqProofs only [maxLen];omega) | (simp [maxLen,an,aq,au,aA,ak,ax,av] <;> omega))) | fail)))
   all_goals first | (refine sw 5 ?_;(have dc:=hf;have eM:=vk;repeat' (first | (simp -implicitDefEqProofs only [go_sem,Int.reduceNegSucc,tQ,tR,tS,tT,tU,tV,rV,Int.reduceLT,decide_true,decide_false,Int.reduceToNat,Nat.reduceMul,hfl]) | (with_reducible refine aB ?_) | (with_reducible show G _ _ (It.l _ _::_) _ _ _;refine su ?_) | (with_reducible first | refine aF dc ?_ | refine aG dc ?_) | (with_reducible first | refine aF eM ?_ | refine aG eM ?_) | ((first | refine aj (fun hg=>?_) (fun hg=>?_) | refine aC (fun hg=>?_) (fun hg=>?_) | refine aD (fun hg=>?_) (fun hg=>?_)) <;> try simp -implicitDefEqProofs only [hg,Bool.not_true,Bool.not_false]) | ((with_reducible apply And.intro);focus (first | trivial | omega | decide | (simp -implicitDefEqProofs only [maxLen];omega) | (simp [maxLen,an,aq,au,aA,ak,ax,av] <;> omega))) | fail))) | skip
   all_goals (refine (hK _ _ ?_).2;clear hK;simp -implicitDefEqProofs only [go_sem,Int.reduceNegSucc,bw,bD,bL,bN,aZ,aR,aP,eP,cF,Fm.cells,Q4.ints,Ch.cells,Pl.cells,Option.map,Option.isSome] <;>(try simp_all [-Int.not_lt,-Int.not_le,aZ,aR,aP,ck,eP,cF,Fm.cells,Q4.ints,Ch.cells,Pl.cells,Option.map,Option.isSome]) <;> try omega)
end Go.aH
