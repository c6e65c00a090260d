/- Part 3 of the proof: K3, K4, K5, K6, K7, K8, K9, K10, K11, K12, U1, P1, F1, FK, F2, F3, EngZe, EngZf, F4, F5, F6, F7, F8. -/
import Derived.Test.YteodikaaioghlaaFlowNone2
set_option linter.unusedSimpArgs false
set_option linter.unusedVariables false
set_option maxRecDepth 100000
set_option maxHeartbeats 16000000
namespace Go.aH
open Go
theorem Kt:aV Go.Proofs.Try.prog 57 94 (fc Go.Proofs.Try.prog 57 94 [(.t 2)]) [(.t 2)]:=bl (by kernel_rfl)
theorem Ku:aV Go.Proofs.Try.prog 38 63 (fc Go.Proofs.Try.prog 38 63 [(.t 2)]) [(.t 2)]:=bl (by kernel_rfl)
theorem Cb (s:aj) {k:Nat} (h:k<18):∃ o,kQ[k]?=some o∧((s.cells.map U.rv).drop o).take 2=((cm s)[k]'h).cells.map U.rv∧o+2≤48:=by
 have:k=0∨k=1∨k=2∨k=3∨k=4∨k=5∨k=6∨k=7∨k=8∨k=9∨k=10∨k=11∨k=12∨k=13∨k=14∨k=15∨k=16∨k=17:=by omega
 rcases this with rfl | rfl | rfl | rfl | rfl | rfl | rfl | rfl | rfl | rfl | rfl | rfl | rfl | rfl | rfl | rfl | rfl | rfl <;> exact ⟨_,rfl,rfl,by decide⟩
theorem KQ (s:aj) {k o:Nat} (h:k<18) (ho:kQ[k]?=some o):(s.cells.map U.rv)[o]?=some (.rv (.int .i64 ((cm s)[k]'h).kind))∧(s.cells.map U.rv)[o+1]?=some (.rv (.int .i64 ((cm s)[k]'h).n)):=by
 have:k=0∨k=1∨k=2∨k=3∨k=4∨k=5∨k=6∨k=7∨k=8∨k=9∨k=10∨k=11∨k=12∨k=13∨k=14∨k=15∨k=16∨k=17:=by omega
 rcases this with rfl | rfl | rfl | rfl | rfl | rfl | rfl | rfl | rfl | rfl | rfl | rfl | rfl | rfl | rfl | rfl | rfl | rfl <;>(cases ho;exact ⟨rfl,rfl⟩)
theorem CQ {k:Nat} {i o:Nat} (h:kQ[k]?=some o):(cV i kQ)[k]?.getD []=[.ptr i o]:=by
 simp [cV,List.getElem?_map,h]
def oK (s:aj):List Ln:=[s.width,s.height,s.eU,s.eT,s.fm,s.fl]
def oB (s:aj) (k:Nat):Bool:=(List.range k).all fun j=>gd (kU s.pad j) (kU s.bD j)
theorem LZ (s:aj) (k:Nat):oB s (k+1)=(oB s k && gd (kU s.pad k) (kU s.bD k)):=by simp [oB,List.range_succ]
theorem LY (s:aj):oB s 4=(gd s.pad.a s.bD.a && gd s.pad.b s.bD.b && gd s.pad.c s.bD.c && gd s.pad.d s.bD.d):=by
 simp [oB,List.range_succ,kU,Bool.and_assoc]
theorem DB (s:aj):aJ Go.Proofs.Try.prog 57 [s.sv] [] [] (.rv (.bool (eK s))):=by
 refine bz Kt [s.sv] _ (by simp) (by simp [aN,aW,bn,aT,bf,aj.sv,Ln.sv,Nd.sv]) (fun K hK=>?_)
 have bad:∀ e h,lk e 2 = .rv (.bool false)→eK s=false→K .ret ⟨e,h⟩:=fun e h l2 hf=>(hK _ _ (bM (by rw [l2,hf]))).2
 conv in fc _ _ _ _=>reduce
 simp -implicitDefEqProofs only [aj.sv,go_sem,Int.reduceNegSucc]
 refine cC (Dv 0 1 s (by decide)) (by simp [aZ,ag]) (by simp [bp,bk]) ?_
 simp -implicitDefEqProofs only [go_sem,Int.reduceNegSucc]
 refine cN (ι:=Nat) (fun k=>[(10,.rv (.int .i64 k)),(9,.rv (.int .i64 18)),(8,.row 1 13 18),(1,.ptr 0 0)]) (fun k=>[some (.var (s.cells.map .rv)),some (.row 1 13 (cV 0 kQ))]) (fun k=>k≤18∧((cm s).drop k).all lU=(cm s).all lU) (fun k=>18 - k) 0 (by simp) (bw (by simp [lk])) (fun k hk K' hN hX hR=>?_)
 obtain ⟨ct,hk2⟩:=hk
 simp -implicitDefEqProofs only [go_sem,Int.reduceNegSucc]
 refine ai (fun hg=>?_) (fun hg=>?_)
 ·have aE:k<18:=by simp at hg;omega
  obtain ⟨o,ho,sF,Ib⟩:=Cb s aE
  have dS:=CQ (i:=0) ho
  have pS:(cV 0 kQ).length=18:=rfl
  have bq:=NS ((cm s)[k]'aE);repeat' (first | (simp -implicitDefEqProofs only [go_sem,Int.reduceNegSucc,dS,pS,sF]) | (with_reducible refine az ?_) | (with_reducible first | refine aC bq ?_ | refine aD bq ?_) | ((first | refine ai (fun hg=>?_) (fun hg=>?_) | refine aA (fun hg=>?_) (fun hg=>?_) | refine aB (fun hg=>?_) (fun hg=>?_)) <;> try simp -implicitDefEqProofs only [hg,Bool.not_true,Bool.not_false]) | ((with_reducible apply And.intro);focus (first | trivial | omega | decide | (simp -implicitDefEqProofs only [maxLen];omega) | (simp [maxLen,an,aq,au,ay,ak,ax,av] <;> omega))) | fail)
  ·refine hR _ _ (bad _ _ rfl ?_)
   simp -implicitDefEqProofs only [eK,mB aE hk2 (by simpa using hg),Bool.false_and]
  ·rw [cu (by omega)]
   exact hN (k+1) _ _ ⟨by omega,mC aE hk2 (by simpa using hg)⟩ (by omega) (bw (by simp [lk]))
 ·have aE:k=18:=by simp at hg;omega
  subst aE
  have hall:=mA (by rw [av];omega) hk2
  simp -implicitDefEqProofs only [go_sem,Int.reduceNegSucc]
  refine hX _ _ _ ?_
  repeat' (first | (simp -implicitDefEqProofs only [go_sem,Int.reduceNegSucc,gj,iH,gk,iI,gC,iT,gN,je,gY,jr,ig,jA,ij,jB,iq,jC,ir,jD,iu,jE,gl,iJ,gn,iK,gp,iL,gq,iM,gu,iN,gw,iO,gx,iP,gz,iQ,gA,iR,gB,iS,gD,iU,gE,iV,gF,iW,gG,iX,gH,iY,gI,iZ,gJ,ja,gK,jb,gL,jc,gM,jd,gO,jf,gP,jg,gQ,jh,gR,ji,gS,jk,gT,jl,gU,jm,gV,jn,gW,jo,gX,jq,gZ,js,hD,jt,fT,ju,hJ,jv,hU,jw,ia,jx,ic,jy,ie,jz,iC,iw,iy,iz,iA,iB,iD,iE,iF,iG,gi,fS,an,Ln.cells]) | (with_reducible refine az ?_) | ((first | refine ai (fun hg=>?_) (fun hg=>?_) | refine aA (fun hg=>?_) (fun hg=>?_) | refine aB (fun hg=>?_) (fun hg=>?_)) <;> try simp -implicitDefEqProofs only [hg,Bool.not_true,Bool.not_false]) | ((with_reducible apply And.intro);focus (first | trivial | omega | decide | (simp -implicitDefEqProofs only [maxLen];omega) | (simp [maxLen,an,aq,au,ay,ak,ax,av] <;> omega))) | fail)
  refine cN (ι:=Nat) (fun k=>[(34,.rv (.int .i64 k)),(33,.rv (.int .i64 6)),(32,.row 2 0 6),(1,.ptr 0 0)]) (fun k=>[some (.var (s.cells.map .rv)),some (.row 1 13 (cV 0 kQ)),some (.row 2 0 (aI (fZ (oK s))))]) (fun k=>k≤6∧((oK s).drop k).all (fun x=>decide (0≤x.n))=(oK s).all (fun x=>decide (0≤x.n))) (fun k=>6 - k) 0 (by simp) (bw (by simp [lk])) (fun k hk K' hN hX hR=>?_)
  obtain ⟨ct,hk2⟩:=hk
  simp -implicitDefEqProofs only [go_sem,Int.reduceNegSucc]
  refine ai (fun hg=>?_) (fun hg=>?_)
  ·have aE:k<6:=by simp at hg;omega
   have hx:=yG (l:=oK s) aE
   have HV:(fZ (oK s)).length=6:=rfl
   repeat' (first | (simp -implicitDefEqProofs only [go_sem,Int.reduceNegSucc,hx,HV,Ln.cells]) | (with_reducible refine az ?_) | ((first | refine ai (fun hg=>?_) (fun hg=>?_) | refine aA (fun hg=>?_) (fun hg=>?_) | refine aB (fun hg=>?_) (fun hg=>?_)) <;> try simp -implicitDefEqProofs only [hg,Bool.not_true,Bool.not_false]) | ((with_reducible apply And.intro);focus (first | trivial | omega | decide | (simp -implicitDefEqProofs only [maxLen];omega) | (simp [maxLen,an,aq,au,ay,ak,ax,av] <;> omega))) | fail)
   ·refine hR _ _ (bad _ _ rfl ?_)
    simp -implicitDefEqProofs only [eK]
    rw [show [s.width,s.height,s.eU,s.eT,s.fm,s.fl]=oK s from rfl,mB aE hk2 (by simp at hg ⊢;omega)]
    simp
   ·rw [cu (by omega)]
    exact hN (k+1) _ _ ⟨by omega,mC aE hk2 (by simp at hg ⊢;omega)⟩ (by omega) (qB _ (by simp) (by simp [nD,ag,cG,cL,vZ,dy,dm]) (by simp [lk,aQ,dz,cW,dm]))
  ·have aE:k=6:=by simp at hg;omega
   subst aE
   have Hr:=mA (by simp [oK]) hk2
   simp -implicitDefEqProofs only [go_sem,Int.reduceNegSucc]
   refine hX _ _ _ ?_
   repeat' (first | (simp -implicitDefEqProofs only [go_sem,Int.reduceNegSucc]) | (with_reducible refine az ?_) | ((first | refine ai (fun hg=>?_) (fun hg=>?_) | refine aA (fun hg=>?_) (fun hg=>?_) | refine aB (fun hg=>?_) (fun hg=>?_)) <;> try simp -implicitDefEqProofs only [hg,Bool.not_true,Bool.not_false]) | ((with_reducible apply And.intro);focus (first | trivial | omega | decide | (simp -implicitDefEqProofs only [maxLen];omega) | (simp [maxLen,an,aq,au,ay,ak,ax,av] <;> omega))) | fail)
   refine cN (ι:=Nat) (fun k=>[(42,.rv (.int .i64 k)),(1,.ptr 0 0)]) (fun k=>[some (.var (s.cells.map .rv))]) (fun k=>k≤4∧oB s k=true) (fun k=>4 - k) 0 (by simp [oB]) (qB _ (by simp) (by simp [nD,ag,cG,cL,dm]) (by simp [lk,aQ,dz,cW,dm])) (fun k hk K' hN hX hR=>?_)
   obtain ⟨ct,hk2⟩:=hk
   simp -implicitDefEqProofs only [go_sem,Int.reduceNegSucc]
   refine ai (fun hg=>?_) (fun hg=>?_)
   ·have aE:k<4:=by simp at hg;omega
    have hn:gd (kU s.pad k) (kU s.bD k)=true→oB s (k+1)=true:=fun h=>by rw [LZ,hk2,h];rfl
    have hb:gd (kU s.pad k) (kU s.bD k)=false→eK s=false:=fun h=>by
     have:k=0∨k=1∨k=2∨k=3:=by omega
     rcases this with rfl | rfl | rfl | rfl <;> simp_all [eK,kU]
    have:k=0∨k=1∨k=2∨k=3:=by omega
    rcases this with rfl | rfl | rfl | rfl
    all_goals
     repeat' (first | (simp -implicitDefEqProofs only [go_sem,Int.reduceNegSucc,gj,iH,gk,iI,gC,iT,gN,je,gY,jr,ig,jA,ij,jB,iq,jC,ir,jD,iu,jE,gl,iJ,gn,iK,gp,iL,gq,iM,gu,iN,gw,iO,gx,iP,gz,iQ,gA,iR,gB,iS,gD,iU,gE,iV,gF,iW,gG,iX,gH,iY,gI,iZ,gJ,ja,gK,jb,gL,jc,gM,jd,gO,jf,gP,jg,gQ,jh,gR,ji,gS,jk,gT,jl,gU,jm,gV,jn,gW,jo,gX,jq,gZ,js,hD,jt,fT,ju,hJ,jv,hU,jw,ia,jx,ic,jy,ie,jz,iC,iw,iy,iz,iA,iB,iD,iE,iF,iG,gi,fS,an]) | (with_reducible refine az ?_) | ((first | refine ai (fun hg=>?_) (fun hg=>?_) | refine aA (fun hg=>?_) (fun hg=>?_) | refine aB (fun hg=>?_) (fun hg=>?_)) <;> try simp -implicitDefEqProofs only [hg,Bool.not_true,Bool.not_false]) | ((with_reducible apply And.intro);focus (first | trivial | omega | decide | (simp -implicitDefEqProofs only [maxLen];omega) | (simp [maxLen,an,aq,au,ay,ak,ax,av] <;> omega))) | fail)
    all_goals first
     | (refine hR _ _ (bad _ _ rfl (hb ?_));clear hN hX hR hb hn bad hK;simp_all [gd,kU,bY];done)
     | (rw [cu (by omega)];refine hN _ _ _ ⟨by omega,hn ?_⟩ (by omega) (bw (by simp [lk]));clear hN hX hR hb hn bad hK;simp_all [gd,kU,bY];done)
   ·have aE:k=4:=by simp at hg;omega
    subst aE
    rw [LY] at hk2
    simp -implicitDefEqProofs only [go_sem,Int.reduceNegSucc]
    refine hX _ _ _ ?_
    have fin:∀ e h,lk e 2 = .rv (.bool (ry s))→K .ret ⟨e,h⟩:=fun e h l2=>(hK _ _ (bM (by rw [l2,eK,hall,hk2];rw [show [s.width,s.height,s.eU,s.eT,s.fm,s.fl]=oK s from rfl,Hr];rfl))).2
    clear hK hN hX hR bad
    repeat' (first | (simp -implicitDefEqProofs only [go_sem,Int.reduceNegSucc,gj,iH,gk,iI,gC,iT,gN,je,gY,jr,ig,jA,ij,jB,iq,jC,ir,jD,iu,jE,gl,iJ,gn,iK,gp,iL,gq,iM,gu,iN,gw,iO,gx,iP,gz,iQ,gA,iR,gB,iS,gD,iU,gE,iV,gF,iW,gG,iX,gH,iY,gI,iZ,gJ,ja,gK,jb,gL,jc,gM,jd,gO,jf,gP,jg,gQ,jh,gR,ji,gS,jk,gT,jl,gU,jm,gV,jn,gW,jo,gX,jq,gZ,js,hD,jt,fT,ju,hJ,jv,hU,jw,ia,jx,ic,jy,ie,jz,iC,iw,iy,iz,iA,iB,iD,iE,iF,iG,gi,fS,an]) | (with_reducible refine az ?_) | ((first | refine ai (fun hg=>?_) (fun hg=>?_) | refine aA (fun hg=>?_) (fun hg=>?_) | refine aB (fun hg=>?_) (fun hg=>?_)) <;> try simp -implicitDefEqProofs only [hg,Bool.not_true,Bool.not_false]) | ((with_reducible apply And.intro);focus (first | trivial | omega | decide | (simp -implicitDefEqProofs only [maxLen];omega) | (simp [maxLen,an,aq,au,ay,ak,ax,av] <;> omega))) | fail)
    all_goals (refine fin _ _ ?_;(simp_all [lk,ry,bY]) <;>(try (intros;omega)))
theorem NR (s:aj):aJ Go.Proofs.Try.prog 38 [s.sv] [] [] (.rv (.bool (fI s))):=by
 refine bz Ku [s.sv] _ (by simp) (by simp [aN,aW,bn,aT,bf,aj.sv,Ln.sv,Nd.sv]) (fun K hK=>?_)
 have bad:∀ e h,lk e 2 = .rv (.bool false)→fI s=false→K .ret ⟨e,h⟩:=fun e h l2 hf=>(hK _ _ (bM (by rw [l2,hf]))).2
 conv in fc _ _ _ _=>reduce
 simp -implicitDefEqProofs only [aj.sv,go_sem,Int.reduceNegSucc]
 refine cC (Dv 0 1 s (by decide)) (by simp [aZ,ag]) (by simp [bp,bk]) ?_
 simp -implicitDefEqProofs only [go_sem,Int.reduceNegSucc]
 refine cN (ι:=Nat) (fun k=>[(9,.rv (.int .i64 k)),(8,.rv (.int .i64 18)),(7,.row 1 13 18),(1,.ptr 0 0)]) (fun k=>[some (.var (s.cells.map .rv)),some (.row 1 13 (cV 0 kQ))]) (fun k=>k≤18∧((cm s).drop k).all mT=(cm s).all mT) (fun k=>18 - k) 0 (by simp) (bw (by simp [lk])) (fun k hk K' hN hX hR=>?_)
 obtain ⟨ct,hk2⟩:=hk
 simp -implicitDefEqProofs only [go_sem,Int.reduceNegSucc]
 refine ai (fun hg=>?_) (fun hg=>?_)
 ·have aE:k<18:=by simp at hg;omega
  obtain ⟨o,ho,sF,Ib⟩:=Cb s aE
  have dS:=CQ (i:=0) ho
  have pS:(cV 0 kQ).length=18:=rfl
  obtain ⟨hc0,oa⟩:=KQ s aE ho
  have xX:o<48:=by omega
  have Ic:o+1<48:=by omega
  have fy:∀ e h,lk e 2 = .rv (.bool false)→mT ((cm s)[k]'aE)=false→K .ret ⟨e,h⟩:=fun e h l2 hf=>bad e h l2 (by simp -implicitDefEqProofs only [fI,mB aE hk2 hf,Bool.false_and])
  have nx:∀ e h,mT ((cm s)[k]'aE)=true→cB 0 ⟨e,h⟩ ⟨[(9,.rv (.int .i64 (k+1:Nat))),(8,.rv (.int .i64 18)),(7,.row 1 13 18),(1,.ptr 0 0)],[some (.var (s.cells.map .rv)),some (.row 1 13 (cV 0 kQ))]⟩→K' .normal ⟨e,h⟩:=fun e h hf he=>hN (k+1) _ _ ⟨by omega,mC aE hk2 hf⟩ (by omega) he
  have wu:=cu (k:=k) (by omega)
  generalize (cm s)[k]'aE=x at *
  have y_2:=zo x.n 1099511627776 (by decide) (by decide);have bP:=zo x.n 1000000 (by decide) (by decide);repeat' (first | (simp -implicitDefEqProofs only [go_sem,Int.reduceNegSucc,dS,pS,hc0,oa,wu]) | (with_reducible refine az ?_) | (with_reducible first | refine aC y_2 ?_ | refine aD y_2 ?_) | (with_reducible first | refine aC bP ?_ | refine aD bP ?_) | ((first | refine ai (fun hg=>?_) (fun hg=>?_) | refine aA (fun hg=>?_) (fun hg=>?_) | refine aB (fun hg=>?_) (fun hg=>?_)) <;> try simp -implicitDefEqProofs only [hg,Bool.not_true,Bool.not_false]) | ((with_reducible apply And.intro);focus (first | trivial | omega | decide | (simp -implicitDefEqProofs only [maxLen];omega) | (simp [maxLen,an,aq,au,ay,ak,ax,av] <;> omega))) | fail)
  all_goals first
   | (refine hR _ _ (fy _ _ rfl ?_);clear hN hX hR bad fy nx hK;simp_all [mT,bY];done)
   | (refine nx _ _ ?_ (bw (by simp [lk]));clear hN hX hR bad fy nx hK;simp_all [mT,bY];done)
 ·have aE:k=18:=by simp at hg;omega
  subst aE
  have hall:=mA (by rw [av];omega) hk2
  simp -implicitDefEqProofs only [go_sem,Int.reduceNegSucc]
  refine hX _ _ _ ?_
  repeat' (first | (simp -implicitDefEqProofs only [go_sem,Int.reduceNegSucc,gj,iH,gk,iI,gC,iT,gN,je,gY,jr,ig,jA,ij,jB,iq,jC,ir,jD,iu,jE,gl,iJ,gn,iK,gp,iL,gq,iM,gu,iN,gw,iO,gx,iP,gz,iQ,gA,iR,gB,iS,gD,iU,gE,iV,gF,iW,gG,iX,gH,iY,gI,iZ,gJ,ja,gK,jb,gL,jc,gM,jd,gO,jf,gP,jg,gQ,jh,gR,ji,gS,jk,gT,jl,gU,jm,gV,jn,gW,jo,gX,jq,gZ,js,hD,jt,fT,ju,hJ,jv,hU,jw,ia,jx,ic,jy,ie,jz,iC,iw,iy,iz,iA,iB,iD,iE,iF,iG,gi,fS,an]) | (with_reducible refine az ?_) | ((first | refine ai (fun hg=>?_) (fun hg=>?_) | refine aA (fun hg=>?_) (fun hg=>?_) | refine aB (fun hg=>?_) (fun hg=>?_)) <;> try simp -implicitDefEqProofs only [hg,Bool.not_true,Bool.not_false]) | ((with_reducible apply And.intro);focus (first | trivial | omega | decide | (simp -implicitDefEqProofs only [maxLen];omega) | (simp [maxLen,an,aq,au,ay,ak,ax,av] <;> omega))) | fail)
  refine cN (ι:=Nat) (fun k=>[(44,.rv (.int .i64 k)),(43,.agg (s.bD.ints.map .rv)),(1,.ptr 0 0)]) (fun k=>[some (.var (s.cells.map .rv))]) (fun k=>k≤4∧(s.bD.list.drop k).all (fun n=>decide (n≤1099511627776))=s.bD.list.all (fun n=>decide (n≤1099511627776))) (fun k=>4 - k) 0 (by simp) (qB _ (by simp) (by simp [nD,ag,cG,cL,dm]) (by simp [lk,aQ,dz,cW,aU,cL,dm])) (fun k hk K' hN hX hR=>?_)
  obtain ⟨ct,hk2⟩:=hk
  simp -implicitDefEqProofs only [go_sem,Int.reduceNegSucc]
  refine ai (fun hg=>?_) (fun hg=>?_)
  ·have aE:k<4:=by simp at hg;omega
   have hx:(s.bD.ints.map U.rv)[k*1]?.getD .dead = .rv (.int .i64 (s.bD.list[k]'aE)):=by
    have:k=0∨k=1∨k=2∨k=3:=by omega
    rcases this with rfl | rfl | rfl | rfl <;> rfl
   have HU:s.bD.ints.length=4:=rfl
   repeat' (first | (simp -implicitDefEqProofs only [go_sem,Int.reduceNegSucc,hx,HU]) | (with_reducible refine az ?_) | ((first | refine ai (fun hg=>?_) (fun hg=>?_) | refine aA (fun hg=>?_) (fun hg=>?_) | refine aB (fun hg=>?_) (fun hg=>?_)) <;> try simp -implicitDefEqProofs only [hg,Bool.not_true,Bool.not_false]) | ((with_reducible apply And.intro);focus (first | trivial | omega | decide | (simp -implicitDefEqProofs only [maxLen];omega) | (simp [maxLen,an,aq,au,ay,ak,ax,av] <;> omega))) | fail)
   ·refine hR _ _ (bad _ _ rfl ?_)
    simp -implicitDefEqProofs only [fI]
    rw [mB (l:=s.bD.list) aE hk2 (by simp at hg ⊢;omega)]
    simp
   ·rw [cu (by omega)]
    exact hN (k+1) _ _ ⟨by omega,mC (l:=s.bD.list) aE hk2 (by simp at hg ⊢;omega)⟩ (by omega) (bw (by simp [lk]))
  ·have aE:k=4:=by simp at hg;omega
   subst aE
   have hb:=mA (l:=s.bD.list) (by simp [Q4.list]) hk2
   simp -implicitDefEqProofs only [go_sem,Int.reduceNegSucc]
   refine hX _ _ _ ?_
   have fin:∀ e h,lk e 2 = .rv (.bool (oq s.z 1073741824 && decide (s.back≤16777216) && decide (s.line≤16777216)))→K .ret ⟨e,h⟩:=fun e h l2=>(hK _ _ (bM (by rw [l2,fI,hall,hb];rfl))).2
   clear hK hN hX hR bad
   have bV:=zo s.z 1073741824 (by decide) (by decide);repeat' (first | (simp -implicitDefEqProofs only [go_sem,Int.reduceNegSucc,gj,iH,gk,iI,gC,iT,gN,je,gY,jr,ig,jA,ij,jB,iq,jC,ir,jD,iu,jE,gl,iJ,gn,iK,gp,iL,gq,iM,gu,iN,gw,iO,gx,iP,gz,iQ,gA,iR,gB,iS,gD,iU,gE,iV,gF,iW,gG,iX,gH,iY,gI,iZ,gJ,ja,gK,jb,gL,jc,gM,jd,gO,jf,gP,jg,gQ,jh,gR,ji,gS,jk,gT,jl,gU,jm,gV,jn,gW,jo,gX,jq,gZ,js,hD,jt,fT,ju,hJ,jv,hU,jw,ia,jx,ic,jy,ie,jz,iC,iw,iy,iz,iA,iB,iD,iE,iF,iG,gi,fS,an]) | (with_reducible refine az ?_) | (with_reducible first | refine aC bV ?_ | refine aD bV ?_) | ((first | refine ai (fun hg=>?_) (fun hg=>?_) | refine aA (fun hg=>?_) (fun hg=>?_) | refine aB (fun hg=>?_) (fun hg=>?_)) <;> try simp -implicitDefEqProofs only [hg,Bool.not_true,Bool.not_false]) | ((with_reducible apply And.intro);focus (first | trivial | omega | decide | (simp -implicitDefEqProofs only [maxLen];omega) | (simp [maxLen,an,aq,au,ay,ak,ax,av] <;> omega))) | fail)
   all_goals (refine fin _ _ ?_;(simp_all [lk,bY]) <;>(try (intros;omega)))
end Go.aH

namespace Go.aH
open Go
theorem JC:aV Go.Proofs.Try.prog 33 31 (fc Go.Proofs.Try.prog 33 31 [(.t 2)]) [(.t 2)]:=bl (by kernel_rfl)
theorem JB:aV Go.Proofs.Try.prog 32 110 (fc Go.Proofs.Try.prog 32 110 [(.t 2)]) [(.t 2)]:=bl (by kernel_rfl)
theorem JD:aV Go.Proofs.Try.prog 20 89 (fc Go.Proofs.Try.prog 20 89 [(.t 2)]) [(.t 2)]:=bl (by kernel_rfl)
theorem KX (l:List Ln):∀ x∈fZ l,∀ r∈x,r.one=true:=by
 intro x hx r hr
 obtain ⟨n,_,rfl⟩:=List.mem_map.1 hx
 simp [Ln.cells] at hr
 rcases hr with rfl | rfl <;> rfl
theorem Dw (s:aj):aJ Go.Proofs.Try.prog 33 [s.sv] [] [] (.rv (.sl 2 (fZ (cm s)))):=by
 refine bz JC [s.sv] _ (by simp) (by simp [aN,aW,bn,aT,bf,aj.sv,Ln.sv,Nd.sv]) (fun K hK=>?_)
 conv in fc _ _ _ _=>reduce
 simp -implicitDefEqProofs only [aj.sv,go_sem,Int.reduceNegSucc]
 repeat' (first | (simp -implicitDefEqProofs only [go_sem,Int.reduceNegSucc,an]) | (with_reducible refine az ?_) | ((first | refine ai (fun hg=>?_) (fun hg=>?_) | refine aA (fun hg=>?_) (fun hg=>?_) | refine aB (fun hg=>?_) (fun hg=>?_)) <;> try simp -implicitDefEqProofs only [hg,Bool.not_true,Bool.not_false]) | ((with_reducible apply And.intro);focus (first | trivial | omega | decide | (simp -implicitDefEqProofs only [maxLen];omega) | (simp [maxLen,an,aq,au,ay,ak,ax,av] <;> omega))) | fail)
 exact (hK _ _ ⟨trivial,zc (xs:=fZ (cm s)) rfl rfl rfl (KX _)⟩).2
def cO (k:Nat) (x:Ln):Bool:=!(decide (x.kind<0) || decide (x.kind>2) || (decide (x.kind=0) && !decide (x.n=0))) && !((decide (x.n<0) && ((decide (4≤k) && decide (k<10)) || decide (14≤k))) || (decide (14≤k) && decide (x.kind=0)))
def nF (s:aj) (k:Nat):Bool:=(List.range k).all fun j=>cO j ((cm s).getD j default)
theorem LI {s:aj} {k:Nat} (h:k<18):nF s (k+1)=(nF s k && cO k ((cm s)[k]'h)):=by
 have:(cm s).getD k default=(cm s)[k]'h:=by rw [List.getD_eq_getElem?_getD,List.getElem?_eq_getElem h];rfl
 simp -implicitDefEqProofs only [nF,List.range_succ,List.all_append,List.all_cons,List.all_nil,Bool.and_true,this]
theorem LH {s:aj} {k:Nat} (h:k<18) (hf:cO k ((cm s)[k]'h)=false):nF s 18=false:=by
 have:(cm s).getD k default=(cm s)[k]'h:=by rw [List.getD_eq_getElem?_getD,List.getElem?_eq_getElem h];rfl
 rw [Bool.eq_false_iff]
 intro ht
 have:=List.all_eq_true.1 ht k (by simp;omega)
 simp_all
theorem zp (s:aj):eK s=(nF s 18 && (s.bD.list.all fun n=>!decide (n<0)) && ry s):=by
 have:nF s 18=(cO 0 s.off.a && cO 1 s.off.b && cO 2 s.off.c && cO 3 s.off.d && cO 4 s.width && cO 5 s.height && cO 6 s.eU && cO 7 s.eT && cO 8 s.fm && cO 9 s.fl && cO 10 s.bE.a && cO 11 s.bE.b && cO 12 s.bE.c && cO 13 s.bE.d && cO 14 s.pad.a && cO 15 s.pad.b && cO 16 s.pad.c && cO 17 s.pad.d):=by
  simp [nF,List.range_succ,cm,Q4.list,Bool.and_assoc]
 rw [this]
 have e1:∀ k x,(k<4∨(10≤k∧k<14))→cO k x=lU x:=fun k x hk=>by
  have h1:decide (14≤k)=false:=decide_eq_false (by omega)
  have h2:(decide (4≤k) && decide (k<10))=false:=by simp;omega
  simp -implicitDefEqProofs only [cO,lU,h1,h2]
  rw [Bool.eq_iff_iff];simp;omega
 have e2:∀ k x,(4≤k∧k<10)→cO k x=(lU x && decide (0≤x.n)):=fun k x hk=>by
  have h1:decide (14≤k)=false:=decide_eq_false (by omega)
  have h2:(decide (4≤k) && decide (k<10))=true:=by simp;omega
  simp -implicitDefEqProofs only [cO,lU,h1,h2]
  rw [Bool.eq_iff_iff];simp;omega
 have e3:∀ k x,14≤k→cO k x=(lU x && !(decide (x.kind=0) || decide (x.n<0))):=fun k x hk=>by
  have h1:decide (14≤k)=true:=decide_eq_true (by omega)
  simp -implicitDefEqProofs only [cO,lU,h1]
  rw [Bool.eq_iff_iff];simp;omega
 rw [e1 0 _ (by omega),e1 1 _ (by omega),e1 2 _ (by omega),e1 3 _ (by omega),e2 4 _ (by omega),e2 5 _ (by omega),e2 6 _ (by omega),e2 7 _ (by omega),e2 8 _ (by omega),e2 9 _ (by omega),e1 10 _ (by omega),e1 11 _ (by omega),e1 12 _ (by omega),e1 13 _ (by omega),e3 14 _ (by omega),e3 15 _ (by omega),e3 16 _ (by omega),e3 17 _ (by omega)]
 rw [Bool.eq_iff_iff]
 simp -implicitDefEqProofs only [eK,cm,Q4.list,gd,List.all_append,List.all_cons,List.all_nil,Bool.and_true,Bool.and_eq_true,Bool.not_eq_true',Bool.or_eq_false_iff,decide_eq_true_eq,decide_eq_false_iff_not]
 constructor <;>(intro h;simp -implicitDefEqProofs only [h,not_false_eq_true,and_self])
theorem NI (s:aj):aJ Go.Proofs.Try.prog 32 [s.sv] [] [] (.rv (.bool (eK s))):=by
 refine bz JB [s.sv] _ (by simp) (by simp [aN,aW,bn,aT,bf,aj.sv,Ln.sv,Nd.sv]) (fun K hK=>?_)
 have bad:∀ e h,lk e 2 = .rv (.bool false)→eK s=false→K .ret ⟨e,h⟩:=fun e h l2 hf=>(hK _ _ (bM (by rw [l2,hf]))).2
 conv in fc _ _ _ _=>reduce
 simp -implicitDefEqProofs only [aj.sv,go_sem,Int.reduceNegSucc]
 have bq:=Dw s;repeat' (first | (simp -implicitDefEqProofs only [go_sem,Int.reduceNegSucc,gj,iH,gk,iI,gC,iT,gN,je,gY,jr,ig,jA,ij,jB,iq,jC,ir,jD,iu,jE,gl,iJ,gn,iK,gp,iL,gq,iM,gu,iN,gw,iO,gx,iP,gz,iQ,gA,iR,gB,iS,gD,iU,gE,iV,gF,iW,gG,iX,gH,iY,gI,iZ,gJ,ja,gK,jb,gL,jc,gM,jd,gO,jf,gP,jg,gQ,jh,gR,ji,gS,jk,gT,jl,gU,jm,gV,jn,gW,jo,gX,jq,gZ,js,hD,jt,fT,ju,hJ,jv,hU,jw,ia,jx,ic,jy,ie,jz,iC,iw,iy,iz,iA,iB,iD,iE,iF,iG,gi,fS,an,ay,av]) | (with_reducible refine az ?_) | (with_reducible first | refine aC bq ?_ | refine aD bq ?_) | ((first | refine ai (fun hg=>?_) (fun hg=>?_) | refine aA (fun hg=>?_) (fun hg=>?_) | refine aB (fun hg=>?_) (fun hg=>?_)) <;> try simp -implicitDefEqProofs only [hg,Bool.not_true,Bool.not_false]) | ((with_reducible apply And.intro);focus (first | trivial | omega | decide | (simp -implicitDefEqProofs only [maxLen];omega) | (simp [maxLen,an,aq,au,ay,ak,ax,av] <;> omega))) | fail)
 refine cN (ι:=Nat) (fun k=>[(10,.rv (.int .i64 k)),(9,.rv (.int .i64 18)),(3,.rv (.sl 2 (fZ (cm s)))),(1,.ptr 0 0)]) (fun k=>[some (.var (s.cells.map .rv))]) (fun k=>k≤18∧nF s k=true) (fun k=>18 - k) 0 (by simp [nF]) (bw (by simp [lk])) (fun k hk K' hN hX hR=>?_)
 obtain ⟨ct,hk2⟩:=hk
 simp -implicitDefEqProofs only [go_sem,Int.reduceNegSucc]
 refine ai (fun hg=>?_) (fun hg=>?_)
 ·have aE:k<18:=by simp at hg;omega
  have hx:=yG (l:=cm s) aE
  have fy:∀ e h,lk e 2 = .rv (.bool false)→cO k ((cm s)[k]'aE)=false→K .ret ⟨e,h⟩:=fun e h l2 hf=>bad e h l2 (by rw [zp,LH aE hf];rfl)
  have nx:∀ e h,cO k ((cm s)[k]'aE)=true→cB 0 ⟨e,h⟩ ⟨[(10,.rv (.int .i64 (k+1:Nat))),(9,.rv (.int .i64 18)),(3,.rv (.sl 2 (fZ (cm s)))),(1,.ptr 0 0)],[some (.var (s.cells.map .rv))]⟩→K' .normal ⟨e,h⟩:=fun e h hf he=>hN (k+1) _ _ ⟨by omega,by rw [LI aE,hk2,hf];rfl⟩ (by omega) he
  have wu:=cu (k:=k) (by omega)
  have qJ:(fZ (cm s)).length=18:=rfl
  clear hN hX hK bad
  generalize Iz:(cm s)[k]'aE=x at *
  repeat' (first | (simp -implicitDefEqProofs only [go_sem,Int.reduceNegSucc,hx,qJ,Ln.cells,wu]) | (with_reducible refine az ?_) | ((first | refine ai (fun hg=>?_) (fun hg=>?_) | refine aA (fun hg=>?_) (fun hg=>?_) | refine aB (fun hg=>?_) (fun hg=>?_)) <;> try simp -implicitDefEqProofs only [hg,Bool.not_true,Bool.not_false]) | ((with_reducible apply And.intro);focus (first | trivial | omega | decide | (simp -implicitDefEqProofs only [maxLen];omega) | (simp [maxLen,an,aq,au,ay,ak,ax,av] <;> omega))) | fail)
  all_goals first
   | (refine hR _ _ (fy _ _ rfl ?_);clear hR fy nx;simp_all [cO,bY];done)
   | (refine nx _ _ ?_ (bw (by simp [lk]));clear hR fy nx;simp_all [cO,bY];done)
   | (refine hR _ _ (fy _ _ rfl ?_);clear hR fy nx;simp_all [cO,bY];omega)
   | (refine nx _ _ ?_ (bw (by simp [lk]));clear hR fy nx;simp_all [cO,bY];omega)
 ·have aE:k=18:=by simp at hg;omega
  subst aE
  simp -implicitDefEqProofs only [go_sem,Int.reduceNegSucc]
  refine hX _ _ _ ?_
  repeat' (first | (simp -implicitDefEqProofs only [go_sem,Int.reduceNegSucc,gj,iH,gk,iI,gC,iT,gN,je,gY,jr,ig,jA,ij,jB,iq,jC,ir,jD,iu,jE,gl,iJ,gn,iK,gp,iL,gq,iM,gu,iN,gw,iO,gx,iP,gz,iQ,gA,iR,gB,iS,gD,iU,gE,iV,gF,iW,gG,iX,gH,iY,gI,iZ,gJ,ja,gK,jb,gL,jc,gM,jd,gO,jf,gP,jg,gQ,jh,gR,ji,gS,jk,gT,jl,gU,jm,gV,jn,gW,jo,gX,jq,gZ,js,hD,jt,fT,ju,hJ,jv,hU,jw,ia,jx,ic,jy,ie,jz,iC,iw,iy,iz,iA,iB,iD,iE,iF,iG,gi,fS,an]) | (with_reducible refine az ?_) | ((first | refine ai (fun hg=>?_) (fun hg=>?_) | refine aA (fun hg=>?_) (fun hg=>?_) | refine aB (fun hg=>?_) (fun hg=>?_)) <;> try simp -implicitDefEqProofs only [hg,Bool.not_true,Bool.not_false]) | ((with_reducible apply And.intro);focus (first | trivial | omega | decide | (simp -implicitDefEqProofs only [maxLen];omega) | (simp [maxLen,an,aq,au,ay,ak,ax,av] <;> omega))) | fail)
  refine cN (ι:=Nat) (fun k=>[(74,.rv (.int .i64 k)),(1,.ptr 0 0)]) (fun k=>[some (.var (s.cells.map .rv))]) (fun k=>k≤4∧(s.bD.list.drop k).all (fun n=>!decide (n<0))=s.bD.list.all (fun n=>!decide (n<0))) (fun k=>4 - k) 0 (by simp) (bw (by simp [lk])) (fun k hk K' hN hX hR=>?_)
  obtain ⟨ct,cU⟩:=hk
  simp -implicitDefEqProofs only [go_sem,Int.reduceNegSucc]
  refine ai (fun hg=>?_) (fun hg=>?_)
  ·have aE:k<4:=by simp at hg;omega
   have hx:(s.cells.map U.rv)[38+k*1]?=some (.rv (.int .i64 (s.bD.list[k]'aE))):=by
    have:k=0∨k=1∨k=2∨k=3:=by omega
    rcases this with rfl | rfl | rfl | rfl <;> rfl
   repeat' (first | (simp -implicitDefEqProofs only [go_sem,Int.reduceNegSucc,hx,an]) | (with_reducible refine az ?_) | ((first | refine ai (fun hg=>?_) (fun hg=>?_) | refine aA (fun hg=>?_) (fun hg=>?_) | refine aB (fun hg=>?_) (fun hg=>?_)) <;> try simp -implicitDefEqProofs only [hg,Bool.not_true,Bool.not_false]) | ((with_reducible apply And.intro);focus (first | trivial | omega | decide | (simp -implicitDefEqProofs only [maxLen];omega) | (simp [maxLen,an,aq,au,ay,ak,ax,av] <;> omega))) | fail)
   ·refine hR _ _ (bad _ _ rfl ?_)
    rw [zp,mB (l:=s.bD.list) aE cU (by simp at hg ⊢;omega)]
    simp
   ·rw [cu (by omega)]
    exact hN (k+1) _ _ ⟨by omega,mC (l:=s.bD.list) aE cU (by simp at hg ⊢;omega)⟩ (by omega) (bw (by simp [lk]))
  ·have aE:k=4:=by simp at hg;omega
   subst aE
   have hb:=mA (l:=s.bD.list) (by simp [Q4.list]) cU
   simp -implicitDefEqProofs only [go_sem,Int.reduceNegSucc]
   refine hX _ _ _ ?_
   have fin:∀ e h,lk e 2 = .rv (.bool (ry s))→K .ret ⟨e,h⟩:=fun e h l2=>(hK _ _ (bM (by rw [l2,zp,hk2,hb];rfl))).2
   clear hK hN hX hR bad
   repeat' (first | (simp -implicitDefEqProofs only [go_sem,Int.reduceNegSucc,gj,iH,gk,iI,gC,iT,gN,je,gY,jr,ig,jA,ij,jB,iq,jC,ir,jD,iu,jE,gl,iJ,gn,iK,gp,iL,gq,iM,gu,iN,gw,iO,gx,iP,gz,iQ,gA,iR,gB,iS,gD,iU,gE,iV,gF,iW,gG,iX,gH,iY,gI,iZ,gJ,ja,gK,jb,gL,jc,gM,jd,gO,jf,gP,jg,gQ,jh,gR,ji,gS,jk,gT,jl,gU,jm,gV,jn,gW,jo,gX,jq,gZ,js,hD,jt,fT,ju,hJ,jv,hU,jw,ia,jx,ic,jy,ie,jz,iC,iw,iy,iz,iA,iB,iD,iE,iF,iG,gi,fS,an]) | (with_reducible refine az ?_) | ((first | refine ai (fun hg=>?_) (fun hg=>?_) | refine aA (fun hg=>?_) (fun hg=>?_) | refine aB (fun hg=>?_) (fun hg=>?_)) <;> try simp -implicitDefEqProofs only [hg,Bool.not_true,Bool.not_false]) | ((with_reducible apply And.intro);focus (first | trivial | omega | decide | (simp -implicitDefEqProofs only [maxLen];omega) | (simp [maxLen,an,aq,au,ay,ak,ax,av] <;> omega))) | fail)
   all_goals (refine fin _ _ ?_;(simp_all [lk,ry,bY]) <;>(try (intros;omega)))
def kR (x:Ln):Bool:=!(((!decide (x.kind=0) && decide (x.kind<3)) && decide (x.kind>0)) && (decide (x.n>if x.kind=2 then 1000000 else 1099511627776) || decide (x.n < - if x.kind=2 then 1000000 else 1099511627776)))
theorem KW (x:Ln):mT x=kR x:=by
 rw [Bool.eq_iff_iff]
 unfold mT kR oq
 by_cases h2:x.kind=2
 ·simp [h2];omega
 ·by_cases h1:x.kind=1
  ·simp [h1];omega
  ·simp [h1,h2];omega
theorem DJ (s:aj):fI s=((cm s).all kR && (s.bD.list.all fun n=>decide (n≤1099511627776)) && (decide (s.z≤1073741824) && decide (s.z≥-1073741824) && decide (s.back≤16777216) && decide (s.line≤16777216))):=by
 unfold fI
 rw [show mT=kR from funext KW]
 rw [Bool.eq_iff_iff]
 simp [oq];omega
theorem NJ (s:aj):aJ Go.Proofs.Try.prog 20 [s.sv] [] [] (.rv (.bool (fI s))):=by
 refine bz JD [s.sv] _ (by simp) (by simp [aN,aW,bn,aT,bf,aj.sv,Ln.sv,Nd.sv]) (fun K hK=>?_)
 have bad:∀ e h,lk e 2 = .rv (.bool false)→fI s=false→K .ret ⟨e,h⟩:=fun e h l2 hf=>(hK _ _ (bM (by rw [l2,hf]))).2
 conv in fc _ _ _ _=>reduce
 simp -implicitDefEqProofs only [aj.sv,go_sem,Int.reduceNegSucc]
 have y_2:=Dw s;repeat' (first | (simp -implicitDefEqProofs only [go_sem,Int.reduceNegSucc,gj,iH,gk,iI,gC,iT,gN,je,gY,jr,ig,jA,ij,jB,iq,jC,ir,jD,iu,jE,gl,iJ,gn,iK,gp,iL,gq,iM,gu,iN,gw,iO,gx,iP,gz,iQ,gA,iR,gB,iS,gD,iU,gE,iV,gF,iW,gG,iX,gH,iY,gI,iZ,gJ,ja,gK,jb,gL,jc,gM,jd,gO,jf,gP,jg,gQ,jh,gR,ji,gS,jk,gT,jl,gU,jm,gV,jn,gW,jo,gX,jq,gZ,js,hD,jt,fT,ju,hJ,jv,hU,jw,ia,jx,ic,jy,ie,jz,iC,iw,iy,iz,iA,iB,iD,iE,iF,iG,gi,fS,an,ay,av]) | (with_reducible refine az ?_) | (with_reducible first | refine aC y_2 ?_ | refine aD y_2 ?_) | ((first | refine ai (fun hg=>?_) (fun hg=>?_) | refine aA (fun hg=>?_) (fun hg=>?_) | refine aB (fun hg=>?_) (fun hg=>?_)) <;> try simp -implicitDefEqProofs only [hg,Bool.not_true,Bool.not_false]) | ((with_reducible apply And.intro);focus (first | trivial | omega | decide | (simp -implicitDefEqProofs only [maxLen];omega) | (simp [maxLen,an,aq,au,ay,ak,ax,av] <;> omega))) | fail)
 refine cN (ι:=Nat) (fun k=>[(11,.rv (.int .i64 k)),(10,.rv (.int .i64 18)),(3,.rv (.sl 2 (fZ (cm s)))),(1,.ptr 0 0)]) (fun k=>[some (.var (s.cells.map .rv))]) (fun k=>k≤18∧((cm s).drop k).all kR=(cm s).all kR) (fun k=>18 - k) 0 (by simp) (bw (by simp [lk])) (fun k hk K' hN hX hR=>?_)
 obtain ⟨ct,hk2⟩:=hk
 simp -implicitDefEqProofs only [go_sem,Int.reduceNegSucc]
 refine ai (fun hg=>?_) (fun hg=>?_)
 ·have aE:k<18:=by simp at hg;omega
  have hx:=yG (l:=cm s) aE
  have fy:∀ e h,lk e 2 = .rv (.bool false)→kR ((cm s)[k]'aE)=false→K .ret ⟨e,h⟩:=fun e h l2 hf=>bad e h l2 (by rw [DJ,mB aE hk2 hf];rfl)
  have nx:∀ e h,kR ((cm s)[k]'aE)=true→cB 0 ⟨e,h⟩ ⟨[(11,.rv (.int .i64 (k+1:Nat))),(10,.rv (.int .i64 18)),(3,.rv (.sl 2 (fZ (cm s)))),(1,.ptr 0 0)],[some (.var (s.cells.map .rv))]⟩→K' .normal ⟨e,h⟩:=fun e h hf he=>hN (k+1) _ _ ⟨by omega,mC aE hk2 hf⟩ (by omega) he
  have wu:=cu (k:=k) (by omega)
  have qJ:(fZ (cm s)).length=18:=rfl
  have w1:=DZ (m:=1000000) (by decide) (by decide)
  have w2:=DZ (m:=1099511627776) (by decide) (by decide)
  clear hN hX hK bad
  generalize Iz:(cm s)[k]'aE=x at *
  repeat' (first | (simp -implicitDefEqProofs only [go_sem,Int.reduceNegSucc,hx,qJ,Ln.cells,wu,w1,w2]) | (with_reducible refine az ?_) | ((first | refine ai (fun hg=>?_) (fun hg=>?_) | refine aA (fun hg=>?_) (fun hg=>?_) | refine aB (fun hg=>?_) (fun hg=>?_)) <;> try simp -implicitDefEqProofs only [hg,Bool.not_true,Bool.not_false]) | ((with_reducible apply And.intro);focus (first | trivial | omega | decide | (simp -implicitDefEqProofs only [maxLen];omega) | (simp [maxLen,an,aq,au,ay,ak,ax,av] <;> omega))) | fail)
  all_goals first
   | (refine hR _ _ (fy _ _ rfl ?_);clear hR fy nx;simp_all [kR,bY];done)
   | (refine nx _ _ ?_ (bw (by simp [lk]));clear hR fy nx;simp_all [kR,bY];done)
   | (refine hR _ _ (fy _ _ rfl ?_);clear hR fy nx;simp_all [kR,bY];omega)
   | (refine nx _ _ ?_ (bw (by simp [lk]));clear hR fy nx;simp_all [kR,bY];omega)
 ·have aE:k=18:=by simp at hg;omega
  subst aE
  have hall:=mA (by rw [av];omega) hk2
  simp -implicitDefEqProofs only [go_sem,Int.reduceNegSucc]
  refine hX _ _ _ ?_
  repeat' (first | (simp -implicitDefEqProofs only [go_sem,Int.reduceNegSucc,gj,iH,gk,iI,gC,iT,gN,je,gY,jr,ig,jA,ij,jB,iq,jC,ir,jD,iu,jE,gl,iJ,gn,iK,gp,iL,gq,iM,gu,iN,gw,iO,gx,iP,gz,iQ,gA,iR,gB,iS,gD,iU,gE,iV,gF,iW,gG,iX,gH,iY,gI,iZ,gJ,ja,gK,jb,gL,jc,gM,jd,gO,jf,gP,jg,gQ,jh,gR,ji,gS,jk,gT,jl,gU,jm,gV,jn,gW,jo,gX,jq,gZ,js,hD,jt,fT,ju,hJ,jv,hU,jw,ia,jx,ic,jy,ie,jz,iC,iw,iy,iz,iA,iB,iD,iE,iF,iG,gi,fS,an]) | (with_reducible refine az ?_) | ((first | refine ai (fun hg=>?_) (fun hg=>?_) | refine aA (fun hg=>?_) (fun hg=>?_) | refine aB (fun hg=>?_) (fun hg=>?_)) <;> try simp -implicitDefEqProofs only [hg,Bool.not_true,Bool.not_false]) | ((with_reducible apply And.intro);focus (first | trivial | omega | decide | (simp -implicitDefEqProofs only [maxLen];omega) | (simp [maxLen,an,aq,au,ay,ak,ax,av] <;> omega))) | fail)
  refine cN (ι:=Nat) (fun k=>[(62,.rv (.int .i64 k)),(1,.ptr 0 0)]) (fun k=>[some (.var (s.cells.map .rv))]) (fun k=>k≤4∧(s.bD.list.drop k).all (fun n=>decide (n≤1099511627776))=s.bD.list.all (fun n=>decide (n≤1099511627776))) (fun k=>4 - k) 0 (by simp) (bw (by simp [lk])) (fun k hk K' hN hX hR=>?_)
  obtain ⟨ct,cU⟩:=hk
  simp -implicitDefEqProofs only [go_sem,Int.reduceNegSucc]
  refine ai (fun hg=>?_) (fun hg=>?_)
  ·have aE:k<4:=by simp at hg;omega
   have hx:(s.cells.map U.rv)[38+k*1]?=some (.rv (.int .i64 (s.bD.list[k]'aE))):=by
    have:k=0∨k=1∨k=2∨k=3:=by omega
    rcases this with rfl | rfl | rfl | rfl <;> rfl
   repeat' (first | (simp -implicitDefEqProofs only [go_sem,Int.reduceNegSucc,hx,an]) | (with_reducible refine az ?_) | ((first | refine ai (fun hg=>?_) (fun hg=>?_) | refine aA (fun hg=>?_) (fun hg=>?_) | refine aB (fun hg=>?_) (fun hg=>?_)) <;> try simp -implicitDefEqProofs only [hg,Bool.not_true,Bool.not_false]) | ((with_reducible apply And.intro);focus (first | trivial | omega | decide | (simp -implicitDefEqProofs only [maxLen];omega) | (simp [maxLen,an,aq,au,ay,ak,ax,av] <;> omega))) | fail)
   ·refine hR _ _ (bad _ _ rfl ?_)
    simp -implicitDefEqProofs only [fI]
    rw [mB (l:=s.bD.list) aE cU (by simp at hg ⊢;omega)]
    simp
   ·rw [cu (by omega)]
    exact hN (k+1) _ _ ⟨by omega,mC (l:=s.bD.list) aE cU (by simp at hg ⊢;omega)⟩ (by omega) (bw (by simp [lk]))
  ·have aE:k=4:=by simp at hg;omega
   subst aE
   have hb:=mA (l:=s.bD.list) (by simp [Q4.list]) cU
   simp -implicitDefEqProofs only [go_sem,Int.reduceNegSucc]
   refine hX _ _ _ ?_
   have fin:∀ e h,lk e 2 = .rv (.bool (decide (s.z≤1073741824) && decide (s.z≥-1073741824) && decide (s.back≤16777216) && decide (s.line≤16777216)))→K .ret ⟨e,h⟩:=fun e h l2=>(hK _ _ (bM (by rw [l2,DJ,hall,hb];rfl))).2
   clear hK hN hX hR bad
   repeat' (first | (simp -implicitDefEqProofs only [go_sem,Int.reduceNegSucc,gj,iH,gk,iI,gC,iT,gN,je,gY,jr,ig,jA,ij,jB,iq,jC,ir,jD,iu,jE,gl,iJ,gn,iK,gp,iL,gq,iM,gu,iN,gw,iO,gx,iP,gz,iQ,gA,iR,gB,iS,gD,iU,gE,iV,gF,iW,gG,iX,gH,iY,gI,iZ,gJ,ja,gK,jb,gL,jc,gM,jd,gO,jf,gP,jg,gQ,jh,gR,ji,gS,jk,gT,jl,gU,jm,gV,jn,gW,jo,gX,jq,gZ,js,hD,jt,fT,ju,hJ,jv,hU,jw,ia,jx,ic,jy,ie,jz,iC,iw,iy,iz,iA,iB,iD,iE,iF,iG,gi,fS,an]) | (with_reducible refine az ?_) | ((first | refine ai (fun hg=>?_) (fun hg=>?_) | refine aA (fun hg=>?_) (fun hg=>?_) | refine aB (fun hg=>?_) (fun hg=>?_)) <;> try simp -implicitDefEqProofs only [hg,Bool.not_true,Bool.not_false]) | ((with_reducible apply And.intro);focus (first | trivial | omega | decide | (simp -implicitDefEqProofs only [maxLen];omega) | (simp [maxLen,an,aq,au,ay,ak,ax,av] <;> omega))) | fail)
   all_goals (refine fin _ _ ?_;(simp_all [lk,bY]) <;>(try (intros;omega)))
end Go.aH

namespace Go.aH
open Go
theorem KD:aV Go.Proofs.Try.prog 56 27 (fc Go.Proofs.Try.prog 56 27 [(.t 4),(.t 5)]) [(.t 4),(.t 5)]:=bl (by kernel_rfl)
theorem KB:aV Go.Proofs.Try.prog 34 39 (fc Go.Proofs.Try.prog 34 39 [(.t 2)]) [(.t 2)]:=bl (by kernel_rfl)
theorem lX (x:Nd):(x.cells.drop 48)[0]?=some (.int .i64 x.parent):=rfl
theorem th (x:Nd):(x.cells.take 48).map U.rv=x.s.cells.map U.rv:=rfl
theorem NW (l:List Nd) (k:Nat) (h0:0<k) (hk:k<l.length) (hw:WF l k) (hb:l.length≤8589934592) :
 aJ Go.Proofs.Try.prog 56 [.rv (.sl 49 (bg l)),.rv (.int .i64 k)] [] [] (.aM [.rv (.int .i64 ((kC l k).getD 0:Nat)),.rv (.bool (kC l k).isSome)]):=by
 refine bz KD [.rv (.sl 49 (bg l)),.rv (.int .i64 k)] _ (by simp) (by simp [aN,aW,bn,aT,bf,aj.sv,Ln.sv,Nd.sv]) (fun K hK=>?_)
 have wd:=rD h0 (by omega)
 have Iy:=fG hk
 have hlen:=au l
 have hpk:=lZ hk
 conv in fc _ _ _ _=>reduce
 simp -implicitDefEqProofs only [wd,go_sem,Int.reduceNegSucc]
 refine cN (ι:=Nat) (fun i=>[(7,.rv (.int .i64 (fe (aO l (k - 1)) i))),(6,.rv (.int .i64 i)),(0,.rv (.sl 49 (bg l))),(1,.rv (.int .i64 k))]) (fun _=>[]) (fun i=>i≤(aO l (k - 1)).length∧∀ j,(h:j<(aO l (k - 1)).length)→j<i→(((aO l (k - 1))[j]'h:Nat):Int)≠aX l k) (fun i=>(aO l (k - 1)).length - i) 0 (by simp) (by rw [rK];exact bw (by simp [lk])) (fun i hi K' hN hX hR=>?_)
 obtain ⟨hi1,hi2⟩:=hi
 have dS:=qU (l:=l) (k - 1)
 simp -implicitDefEqProofs only [go_sem,Int.reduceNegSucc]
 refine ai (fun hg=>?_) (fun hg=>?_)
 ·have cQ:i<(aO l (k - 1)).length:=nO.1 (by simpa using hg)
  have kk:=rJ cQ
  have hlt:(aO l (k - 1))[i]<k:=vT (by omega) cQ
  have hx:=fG (l:=l) (i:=(aO l (k - 1))[i]) (by omega)
  have hpar:=lZ (l:=l) (n:=(aO l (k - 1))[i]) (by omega)
  have lI:=vP hw (k - 1) (by omega) i cQ
  repeat' (first | (simp -implicitDefEqProofs only [go_sem,Int.reduceNegSucc,Iy,hlen,aq,lX,hpk,kk,hx,hpar,lI]) | (with_reducible refine az ?_) | ((first | refine ai (fun hg=>?_) (fun hg=>?_) | refine aA (fun hg=>?_) (fun hg=>?_) | refine aB (fun hg=>?_) (fun hg=>?_)) <;> try simp -implicitDefEqProofs only [hg,Bool.not_true,Bool.not_false]) | ((with_reducible apply And.intro);focus (first | trivial | omega | decide | (simp -implicitDefEqProofs only [maxLen];omega) | (simp [maxLen,an,aq,au,ay,ak,ax,av] <;> omega))) | fail)
  ·refine hR _ _ (hK _ _ ?_).2
   rw [Oo cQ (by simpa using hg) hi2]
   exact jU rfl rfl
  ·rw [cu (by omega)]
   refine hN (i+1) _ _ ⟨by omega,fun j hj hji=>?_⟩ (by omega) (bw (by simp [lk]))
   rcases Nat.lt_or_ge j i with h | h
   ·exact hi2 j hj h
   ·obtain rfl:j=i:=by omega
    simpa using hg
 ·simp -implicitDefEqProofs only [go_sem,Int.reduceNegSucc]
  refine hX _ _ _ ?_
  repeat' (first | (simp -implicitDefEqProofs only [go_sem,Int.reduceNegSucc]) | (with_reducible refine az ?_) | ((first | refine ai (fun hg=>?_) (fun hg=>?_) | refine aA (fun hg=>?_) (fun hg=>?_) | refine aB (fun hg=>?_) (fun hg=>?_)) <;> try simp -implicitDefEqProofs only [hg,Bool.not_true,Bool.not_false]) | ((with_reducible apply And.intro);focus (first | trivial | omega | decide | (simp -implicitDefEqProofs only [maxLen];omega) | (simp [maxLen,an,aq,au,ay,ak,ax,av] <;> omega))) | fail)
  refine (hK _ _ ?_).2
  have cQ:¬ i<(aO l (k - 1)).length:=fun h=>by have:=nO.2 h;simp at hg;omega
  rw [Oq fun j hj=>hi2 j hj (by omega)]
  exact jU rfl rfl
theorem DD (l:List Nd) (hb:l.length≤8589934592):aJ Go.Proofs.Try.prog 34 [.rv (.sl 49 (bg l))] [] [] (.rv (.bool (cY l))):=by
 refine bz KB [.rv (.sl 49 (bg l))] _ (by simp) (by simp [aN,aW,bn,aT,bf,aj.sv,Ln.sv,Nd.sv]) (fun K hK=>?_)
 have bad:∀ e h,lk e 2 = .rv (.bool false)→cY l=false→K .ret ⟨e,h⟩:=fun e h l2 hf=>(hK _ _ (bM (by rw [l2,hf]))).2
 have hlen:=au l
 conv in fc _ _ _ _=>reduce
 simp -implicitDefEqProofs only [hlen,go_sem,Int.reduceNegSucc]
 by_cases mN:l.length=0
 ·have e0:(((l.length:Nat):Int) == 0)=true:=by simp [mN]
  repeat' (first | (simp -implicitDefEqProofs only [go_sem,Int.reduceNegSucc,e0,hlen]) | (with_reducible refine az ?_) | ((first | refine ai (fun hg=>?_) (fun hg=>?_) | refine aA (fun hg=>?_) (fun hg=>?_) | refine aB (fun hg=>?_) (fun hg=>?_)) <;> try simp -implicitDefEqProofs only [hg,Bool.not_true,Bool.not_false]) | ((with_reducible apply And.intro);focus (first | trivial | omega | decide | (simp -implicitDefEqProofs only [maxLen];omega) | (simp [maxLen,an,aq,au,ay,ak,ax,av] <;> omega))) | fail)
  exact bad _ _ rfl (by simp [cY,fH,mN])
 ·have e0:(((l.length:Nat):Int) == 0)=false:=by simp [mN]
  have hx0:=fG (l:=l) (i:=0) (by omega)
  have eP:=lZ (l:=l) (n:=0) (by omega)
  repeat' (first | (simp -implicitDefEqProofs only [go_sem,Int.reduceNegSucc,e0,hlen,hx0,aq,lX,eP]) | (with_reducible refine az ?_) | ((first | refine ai (fun hg=>?_) (fun hg=>?_) | refine aA (fun hg=>?_) (fun hg=>?_) | refine aB (fun hg=>?_) (fun hg=>?_)) <;> try simp -implicitDefEqProofs only [hg,Bool.not_true,Bool.not_false]) | ((with_reducible apply And.intro);focus (first | trivial | omega | decide | (simp -implicitDefEqProofs only [maxLen];omega) | (simp [maxLen,an,aq,au,ay,ak,ax,av] <;> omega))) | fail)
  ·exact bad _ _ rfl (by simp [cY,fH];intro _ h;simp at hg;exact absurd h hg)
  ·have sJ:aX l 0 = -1:=by simpa using hg
   refine cN (ι:=Nat) (fun k=>[(18,.rv (.int .i64 k)),(17,.rv (.int .i64 l.length)),(0,.rv (.sl 49 (bg l)))]) (fun _=>[]) (fun k=>k≤l.length∧(∀ j,j<k→eB l j=true)∧((l.drop k).all fun x=>eK x.s)=l.all fun x=>eK x.s) (fun k=>l.length - k) 0 (by simp) (bw (by simp [lk])) (fun k hk K' hN hX hR=>?_)
   obtain ⟨ct,hk2,cU⟩:=hk
   have hw:=DX sJ hk2
   simp -implicitDefEqProofs only [go_sem,Int.reduceNegSucc]
   refine ai (fun hg=>?_) (fun hg=>?_)
   ·have aE:k<l.length:=by simp at hg;omega
    have hx:=fG aE
    have h48:(l[k]'aE).cells.drop 0=(l[k]'aE).cells:=rfl
    have rM:eB l k=false→cY l=false:=fun h=>by
     simp -implicitDefEqProofs only [cY,Bool.and_eq_false_iff]
     left
     rw [Bool.eq_false_iff]
     intro ht
     simp -implicitDefEqProofs only [fH,Bool.and_eq_true,List.all_eq_true,List.mem_range] at ht
     have:=ht.2 k aE
     rw [h] at this;cases this
    have zI:eK (l[k]'aE).s=false→cY l=false:=fun h=>by
     have:(l.all fun x=>eK x.s)=false:=mB aE cU h
     simp -implicitDefEqProofs only [cY,this,Bool.and_false]
    have nx:∀ e h,eB l k=true→eK (l[k]'aE).s=true→cB 0 ⟨e,h⟩ ⟨[(18,.rv (.int .i64 (k+1:Nat))),(17,.rv (.int .i64 l.length)),(0,.rv (.sl 49 (bg l)))],[]⟩→K' .normal ⟨e,h⟩:=fun e h h1 h2 he=>hN (k+1) _ _ ⟨by omega,fun j hj=>by
     rcases Nat.lt_or_ge j k with h | h
     ·exact hk2 j h
     ·obtain rfl:j=k:=by omega
      exact h1,mC aE cU h2⟩ (by omega) he
    have wu:=cu (k:=k) (by omega)
    clear hN hX hK
    by_cases cK:0<k
    ·have hn:eB l k=(kC l k).isSome:=by simp [eB];intro h;omega
     have hgt:decide ((k:Int)>0)=true:=decide_eq_true (by omega)
     have bq:=NW l k cK aE hw hb;have y_2:=DB (l[k]'aE).s;repeat' (first | (simp -implicitDefEqProofs only [go_sem,Int.reduceNegSucc,hgt,hlen,hx,aq,lX,th,wu]) | (with_reducible refine az ?_) | (with_reducible first | refine aC bq ?_ | refine aD bq ?_) | (with_reducible first | refine aC y_2 ?_ | refine aD y_2 ?_) | ((first | refine ai (fun hg=>?_) (fun hg=>?_) | refine aA (fun hg=>?_) (fun hg=>?_) | refine aB (fun hg=>?_) (fun hg=>?_)) <;> try simp -implicitDefEqProofs only [hg,Bool.not_true,Bool.not_false]) | ((with_reducible apply And.intro);focus (first | trivial | omega | decide | (simp -implicitDefEqProofs only [maxLen];omega) | (simp [maxLen,an,aq,au,ay,ak,ax,av] <;> omega))) | fail)
     all_goals first
      | (refine hR _ _ (bad _ _ rfl (rM ?_));rw [hn];simpa using hg;done)
      | (refine hR _ _ (bad _ _ rfl (zI ?_));simpa using hg;done)
      | (refine nx _ _ ?_ ?_ (bw (by simp [lk])) <;> simp_all;done)
    ·obtain rfl:k=0:=by omega
     have hn:eB l 0=true:=by simp [eB]
     have hgt:decide (((0:Nat):Int)>0)=false:=rfl
     have bP:=DB (l[0]'aE).s;repeat' (first | (simp -implicitDefEqProofs only [go_sem,Int.reduceNegSucc,hgt,hlen,hx,aq,lX,th,wu]) | (with_reducible refine az ?_) | (with_reducible first | refine aC bP ?_ | refine aD bP ?_) | ((first | refine ai (fun hg=>?_) (fun hg=>?_) | refine aA (fun hg=>?_) (fun hg=>?_) | refine aB (fun hg=>?_) (fun hg=>?_)) <;> try simp -implicitDefEqProofs only [hg,Bool.not_true,Bool.not_false]) | ((with_reducible apply And.intro);focus (first | trivial | omega | decide | (simp -implicitDefEqProofs only [maxLen];omega) | (simp [maxLen,an,aq,au,ay,ak,ax,av] <;> omega))) | fail)
     all_goals first
      | (refine hR _ _ (bad _ _ rfl (zI ?_));simpa using hg;done)
      | (refine nx _ _ hn ?_ (bw (by simp [lk]));simpa using hg)
   ·have aE:k=l.length:=by simp at hg;omega
    subst aE
    have hall:=mA (Nat.le_refl _) cU
    have hs:fH l=true:=by
     simp -implicitDefEqProofs only [fH,Bool.and_eq_true,decide_eq_true_eq,List.all_eq_true,List.mem_range]
     exact ⟨⟨by omega,sJ⟩,hk2⟩
    simp -implicitDefEqProofs only [go_sem,Int.reduceNegSucc]
    refine hX _ _ _ ?_
    repeat' (first | (simp -implicitDefEqProofs only [go_sem,Int.reduceNegSucc]) | (with_reducible refine az ?_) | ((first | refine ai (fun hg=>?_) (fun hg=>?_) | refine aA (fun hg=>?_) (fun hg=>?_) | refine aB (fun hg=>?_) (fun hg=>?_)) <;> try simp -implicitDefEqProofs only [hg,Bool.not_true,Bool.not_false]) | ((with_reducible apply And.intro);focus (first | trivial | omega | decide | (simp -implicitDefEqProofs only [maxLen];omega) | (simp [maxLen,an,aq,au,ay,ak,ax,av] <;> omega))) | fail)
    exact (hK _ _ (bM (by rw [cY,hs,hall];rfl))).2
end Go.aH

namespace Go.aH
open Go
theorem Kp:aV Go.Proofs.Try.prog 58 25 (fc Go.Proofs.Try.prog 58 25 [(.t 2)]) [(.t 2)]:=bl (by kernel_rfl)
theorem KC:aV Go.Proofs.Try.prog 35 33 (fc Go.Proofs.Try.prog 35 33 [(.t 2)]) [(.t 2)]:=bl (by kernel_rfl)
theorem KA:aV Go.Proofs.Try.prog 37 7 (fc Go.Proofs.Try.prog 37 7 [(.t 2)]) [(.t 2)]:=bl (by kernel_rfl)
theorem Km:aV Go.Proofs.Try.prog 59 19 (fc Go.Proofs.Try.prog 59 19 [(.t 4)]) [(.t 4)]:=bl (by kernel_rfl)
theorem Kj:aV Go.Proofs.Try.prog 36 9 (fc Go.Proofs.Try.prog 36 9 [(.t 4)]) [(.t 4)]:=bl (by kernel_rfl)
theorem Kz:aV Go.Proofs.Try.prog 22 18 (fc Go.Proofs.Try.prog 22 18 [(.t 2)]) [(.t 2)]:=bl (by kernel_rfl)
def lV (ys:List Int) (m:Int) (k:Nat):Int:=(ys.drop k).foldl (fun a b=>if b>a then b else a) m
theorem Lq {ys:List Int} {m:Int} {k:Nat} (h:k<ys.length):lV ys m k=lV ys (if ys[k]'h>m then ys[k]'h else m) (k+1):=by
 unfold lV;rw [List.drop_eq_getElem_cons h];rfl
theorem Lo {ys:List Int} {m:Int} {k:Nat} (h:ys.length≤k):lV ys m k=m:=by
 unfold lV;rw [List.drop_of_length_le h];rfl
theorem Nj (ys:List Int) (h0:0<ys.length) (hb:ys.length≤8589934592):aJ Go.Proofs.Try.prog 58 [.rv (.sl 1 (aL ys))] [] [] (.rv (.int .i64 (lV ys (ys[0]'h0) 1))):=by
 refine bz Kp [.rv (.sl 1 (aL ys))] _ (by simp) (by simp [aN,aW,bn,aT,bf,aj.sv,Ln.sv,Nd.sv]) (fun K hK=>?_)
 have hlen:=ak ys
 have e0:decide (((ys.length:Nat):Int)<1)=false:=decide_eq_false (by omega)
 have hx0:=ov h0
 conv in fc _ _ _ _=>reduce
 simp -implicitDefEqProofs only [go_sem,Int.reduceNegSucc]
 repeat' (first | (simp -implicitDefEqProofs only [go_sem,Int.reduceNegSucc,hlen,e0,hx0]) | (with_reducible refine az ?_) | ((first | refine ai (fun hg=>?_) (fun hg=>?_) | refine aA (fun hg=>?_) (fun hg=>?_) | refine aB (fun hg=>?_) (fun hg=>?_)) <;> try simp -implicitDefEqProofs only [hg,Bool.not_true,Bool.not_false]) | ((with_reducible apply And.intro);focus (first | trivial | omega | decide | (simp -implicitDefEqProofs only [maxLen];omega) | (simp [maxLen,an,aq,au,ay,ak,ax,av] <;> omega))) | fail)
 refine cN (ι:=Nat×Int) (fun i=>[(4,.rv (.int .i64 i.1)),(3,.rv (.int .i64 i.2)),(0,.rv (.sl 1 (aL ys)))]) (fun _=>[]) (fun i=>i.1≤ys.length∧lV ys i.2 i.1=lV ys (ys[0]'h0) 1) (fun i=>ys.length - i.1) (1,ys[0]'h0) ⟨by dsimp only;omega,rfl⟩ (bw (by simp [lk])) (fun i hi K' hN hX hR=>?_)
 obtain ⟨k,m⟩:=i
 obtain ⟨ct,hk2⟩:=hi
 dsimp only at ct hk2 ⊢
 simp -implicitDefEqProofs only [hlen,go_sem,Int.reduceNegSucc]
 refine ai (fun hg=>?_) (fun hg=>?_)
 ·have aE:k<ys.length:=by simp at hg;omega
  have hx:=ov aE
  repeat' (first | (simp -implicitDefEqProofs only [go_sem,Int.reduceNegSucc,hlen,hx]) | (with_reducible refine az ?_) | ((first | refine ai (fun hg=>?_) (fun hg=>?_) | refine aA (fun hg=>?_) (fun hg=>?_) | refine aB (fun hg=>?_) (fun hg=>?_)) <;> try simp -implicitDefEqProofs only [hg,Bool.not_true,Bool.not_false]) | ((with_reducible apply And.intro);focus (first | trivial | omega | decide | (simp -implicitDefEqProofs only [maxLen];omega) | (simp [maxLen,an,aq,au,ay,ak,ax,av] <;> omega))) | fail)
  rw [cu (by omega)]
  exact hN (k+1,if ys[k]'aE>m then ys[k]'aE else m) _ _ ⟨by dsimp only;omega,by rw [← hk2];exact (Lq aE).symm⟩ (by dsimp only;omega) (bw (by simp [lk]))
 ·simp -implicitDefEqProofs only [go_sem,Int.reduceNegSucc]
  refine hX _ _ _ ?_
  repeat' (first | (simp -implicitDefEqProofs only [go_sem,Int.reduceNegSucc]) | (with_reducible refine az ?_) | ((first | refine ai (fun hg=>?_) (fun hg=>?_) | refine aA (fun hg=>?_) (fun hg=>?_) | refine aB (fun hg=>?_) (fun hg=>?_)) <;> try simp -implicitDefEqProofs only [hg,Bool.not_true,Bool.not_false]) | ((with_reducible apply And.intro);focus (first | trivial | omega | decide | (simp -implicitDefEqProofs only [maxLen];omega) | (simp [maxLen,an,aq,au,ay,ak,ax,av] <;> omega))) | fail)
  refine (hK _ _ (bM ?_)).2
  rw [← hk2,Lo (by simp at hg;omega)];rfl
def bH (l:List Nd) (k:Nat):List Int:=(List.range l.length).map fun j=>if j<k then (depth l j:Int) else 0
theorem qx (l:List Nd) (k:Nat):(bH l k).length=l.length:=by simp [bH]
theorem uI {l:List Nd} {k:Nat} (hk:k<l.length):(bH l k).set k (depth l k)=bH l (k+1):=by
 refine List.ext_getElem (by simp [bH]) (fun i h1 h2=>?_)
 simp -implicitDefEqProofs only [List.getElem_set,bH,List.getElem_map,List.getElem_range]
 by_cases h:k=i
 ·subst h;simp
 ·rw [if_neg h]
  by_cases hi:i<k
  ·rw [if_pos hi,if_pos (by omega)]
  ·rw [if_neg hi,if_neg (by omega)]
theorem xe (l:List Nd):bH l 0=List.replicate l.length 0:=by
 refine List.ext_getElem (by simp [bH]) (fun i h1 h2=>?_)
 simp [bH]
theorem xb {l:List Nd} {k j:Nat} (hj:j<k) (hl:j<l.length):((bH l k).set k 1).getD j 0=depth l j:=by
 rw [List.getD_eq_getElem?_getD,List.getElem?_set_ne (by omega)]
 simp [bH,hl,hj]
theorem xd {l:List Nd} {k:Nat} (hk:k<l.length):((bH l k).set k 1).set k (depth l k)=bH l (k+1):=by
 rw [List.set_set,uI hk]
def rX (l:List Nd):Int:=lV (bH l l.length) ((bH l l.length).getD 0 0) 1
theorem NV (l:List Nd) (h0:0<l.length) (hw:WF l l.length) (hb:l.length≤8589934592):aJ Go.Proofs.Try.prog 35 [.rv (.sl 49 (bg l))] [] [] (.rv (.int .i64 (rX l))):=by
 refine bz KC [.rv (.sl 49 (bg l))] _ (by simp) (by simp [aN,aW,bn,aT,bf,aj.sv,Ln.sv,Nd.sv]) (fun K hK=>?_)
 have hlen:=au l
 conv in fc _ _ _ _=>reduce
 simp -implicitDefEqProofs only [go_sem,Int.reduceNegSucc]
 repeat' (first | (simp -implicitDefEqProofs only [go_sem,Int.reduceNegSucc,hlen,wk]) | (with_reducible refine az ?_) | ((first | refine ai (fun hg=>?_) (fun hg=>?_) | refine aA (fun hg=>?_) (fun hg=>?_) | refine aB (fun hg=>?_) (fun hg=>?_)) <;> try simp -implicitDefEqProofs only [hg,Bool.not_true,Bool.not_false]) | ((with_reducible apply And.intro);focus (first | trivial | omega | decide | (simp -implicitDefEqProofs only [maxLen];omega) | (simp [maxLen,an,aq,au,ay,ak,ax,av] <;> omega))) | fail)
 refine cN (ι:=Nat) (fun k=>[(11,.rv (.int .i64 k)),(10,.rv (.int .i64 l.length)),(9,.rv (.sl 49 (bg l))),(3,.row 0 0 l.length)]) (fun k=>[some (.row 1 0 (aI (aL (bH l k))))]) (fun k=>k≤l.length) (fun k=>l.length - k) 0 (by simp) (by rw [xe];exact bw (by simp [lk])) (fun k hk K' hN hX hR=>?_)
 simp -implicitDefEqProofs only [go_sem,Int.reduceNegSucc]
 refine ai (fun hg=>?_) (fun hg=>?_)
 ·have aE:k<l.length:=by simp at hg;omega
  have hx:=fG aE
  have fO:=qx l k
  have mJ:=fE (l:=bH l k) (i:=k) (by omega)
  have fN:=ak (bH l k)
  have kN:((bH l k).set k 1).length=l.length:=by simp [fO]
  have hpk:=lZ aE
  have wu:=cu (k:=k) (by omega)
  have nx:∀ e,cB 0 ⟨e,[some (.row 1 0 (aI (aL (bH l (k+1))))),some (.var ((l[k]'aE).cells.map .rv))]⟩ ⟨[(11,.rv (.int .i64 (k+1:Nat))),(10,.rv (.int .i64 l.length)),(9,.rv (.sl 49 (bg l))),(3,.row 0 0 l.length)],[some (.row 1 0 (aI (aL (bH l (k+1)))))]⟩→K' .normal ⟨e,_⟩:=fun e he=>hN (k+1) _ _ (by omega) (by omega) he
  have hds:=uI aE
  have pM:=xd aE
  by_cases cK:0<k
  ·have hgt:decide ((k:Int)>0)=true:=decide_eq_true (by omega)
   obtain ⟨p1,p2⟩:=hw.2 k cK aE
   obtain ⟨p,hp⟩:∃ p:Nat,aX l k=p:=⟨(aX l k).toNat,by omega⟩
   have mK:=fE (l:=(bH l k).set k 1) (i:=p) (by omega)
   have pL:=fE (l:=(bH l k).set k 1) (i:=k) (by omega)
   rw [xb (by omega) (by omega)] at mK
   have pN:=ak ((bH l k).set k 1)
   have oc:=xg hw cK aE
   rw [hp,Int.toNat_natCast] at oc
   have wd:=cu (k:=depth l p) (by have:=qU (l:=l) p;unfold depth;omega)
   rw [← oc] at wd
   repeat' (first | (simp -implicitDefEqProofs only [go_sem,Int.reduceNegSucc,hgt,hlen,hx,aq,qQ,nE,wu,mJ,fO,fN,ku,hpk,hp,mK,pL,kN,pN,wd,pM]) | (with_reducible refine az ?_) | ((first | refine ai (fun hg=>?_) (fun hg=>?_) | refine aA (fun hg=>?_) (fun hg=>?_) | refine aB (fun hg=>?_) (fun hg=>?_)) <;> try simp -implicitDefEqProofs only [hg,Bool.not_true,Bool.not_false]) | ((with_reducible apply And.intro);focus (first | trivial | omega | decide | (simp -implicitDefEqProofs only [maxLen];omega) | (simp [maxLen,an,aq,au,ay,ak,ax,av] <;> omega))) | fail)
   exact nx _ (qB _ (by simp) (by simp [nD,ag,cG,dy]) (by simp [lk,aQ,cW,dm]))
  ·obtain rfl:k=0:=by omega
   have hgt:decide (((0:Nat):Int)>0)=false:=rfl
   rw [xh] at hds
   repeat' (first | (simp -implicitDefEqProofs only [go_sem,Int.reduceNegSucc,hgt,hlen,hx,aq,qQ,nE,wu,mJ,fO,fN,ku]) | (with_reducible refine az ?_) | ((first | refine ai (fun hg=>?_) (fun hg=>?_) | refine aA (fun hg=>?_) (fun hg=>?_) | refine aB (fun hg=>?_) (fun hg=>?_)) <;> try simp -implicitDefEqProofs only [hg,Bool.not_true,Bool.not_false]) | ((with_reducible apply And.intro);focus (first | trivial | omega | decide | (simp -implicitDefEqProofs only [maxLen];omega) | (simp [maxLen,an,aq,au,ay,ak,ax,av] <;> omega))) | fail)
   rw [show (1:Int)=((1:Nat):Int) from rfl,hds]
   exact nx _ (qB _ (by simp) (by simp [nD,ag,cG,dy]) (by simp [lk,aQ,cW,dm]))
 ·have aE:k=l.length:=by simp at hg;omega
  subst aE
  have hpos:0<(bH l l.length).length:=by rw [qx];exact h0
  have hm:=Nj (bH l l.length) hpos (by rw [qx];exact hb)
  have hml:=Cd (id:=0) (v:=0) (n:=l.length) (bs:=[]) hm (.int _ _) (by simp [aL,bH]) (lO _)
  simp -implicitDefEqProofs only [go_sem,Int.reduceNegSucc]
  refine hX _ _ _ ?_
  have bq:=hml;repeat' (first | (simp -implicitDefEqProofs only [go_sem,Int.reduceNegSucc]) | (with_reducible refine az ?_) | (refine cC bq ?_ ?_ ?_;(focus (simp [aZ,ag] <;> fail));(focus (simp [bp,bk] <;> fail))) | (refine dc bq ?_ ?_ ?_;(focus (simp [aZ,ag] <;> fail));(focus (simp [bp,bk] <;> fail))) | ((first | refine ai (fun hg=>?_) (fun hg=>?_) | refine aA (fun hg=>?_) (fun hg=>?_) | refine aB (fun hg=>?_) (fun hg=>?_)) <;> try simp -implicitDefEqProofs only [hg,Bool.not_true,Bool.not_false]) | ((with_reducible apply And.intro);focus (first | trivial | omega | decide | (simp -implicitDefEqProofs only [maxLen];omega) | (simp [maxLen,an,aq,au,ay,ak,ax,av] <;> omega))) | fail)
  refine (hK _ _ (bM ?_)).2
  rw [rX,List.getD_eq_getElem?_getD,List.getElem?_eq_getElem hpos];rfl
theorem Lp {ys:List Int} {m b:Int} {k:Nat}:lV ys m k≤b↔m≤b∧∀ x∈ys.drop k,x≤b:=by
 unfold lV
 induction ys.drop k generalizing m with
 | nil=>simp
 | cons a r ih=>
   rw [List.foldl_cons,ih]
   by_cases h:a>m
   ·rw [if_pos h];simp;intro _;omega
   ·rw [if_neg h];simp;intro _ _;omega
theorem Fx (l:List Nd) (h0:0<l.length):decide (rX l>256)=(List.range l.length).any (fun k=>decide (depth l k>256)):=by
 have hg:∀ k,k<l.length→(bH l l.length)[k]?=some (depth l k:Int):=fun k hk=>by simp [bH,hk]
 have:rX l≤256↔∀ k,k<l.length→depth l k≤256:=by
  rw [rX,Lp]
  constructor
  ·rintro ⟨h1,h2⟩ k hk
   rcases Nat.eq_zero_or_pos k with rfl | cK
   ·rw [List.getD_eq_getElem?_getD,hg 0 hk] at h1;simp at h1;omega
   ·have:=h2 (depth l k) (List.mem_iff_getElem?.2 ⟨k - 1,by rw [List.getElem?_drop,show 1+(k - 1)=k by omega,hg k hk]⟩)
    omega
  ·intro h
   refine ⟨by rw [List.getD_eq_getElem?_getD,hg 0 h0];have:=h 0 h0;simp;omega,fun x hx=>?_⟩
   obtain ⟨i,hi⟩:=List.mem_iff_getElem?.1 hx
   rw [List.getElem?_drop] at hi
   have hlt:1+i<l.length:=by have:=(List.getElem?_eq_some_iff.1 hi).1;rwa [qx] at this
   rw [hg _ hlt] at hi
   have:=h _ hlt
   simp at hi;omega
 rw [Bool.eq_iff_iff]
 simp -implicitDefEqProofs only [decide_eq_true_eq,List.any_eq_true,List.mem_range]
 constructor
 ·intro h
  apply Classical.byContradiction
  intro hn
  have:=this.2 (fun k hk=>by apply Classical.byContradiction;intro h2;exact hn ⟨k,hk,by omega⟩)
  omega
 ·rintro ⟨k,hk,h⟩
  apply Classical.byContradiction
  intro hn
  have:=this.1 (by omega) k hk
  omega
theorem NU (x:Nd):aJ Go.Proofs.Try.prog 37 [x.sv] [] [] (.rv (.bool (!fI x.s))):=by
 refine bz KA [x.sv] _ (by simp) (by simp [aN,aW,bn,aT,bf,aj.sv,Ln.sv,Nd.sv]) (fun K hK=>?_)
 conv in fc _ _ _ _=>reduce
 simp -implicitDefEqProofs only [go_sem,Int.reduceNegSucc]
 have h48:(x.cells.map U.rv).take 48=x.s.cells.map U.rv:=rfl
 have y_2:=NR x.s;repeat' (first | (simp -implicitDefEqProofs only [go_sem,Int.reduceNegSucc,aq,h48]) | (with_reducible refine az ?_) | (with_reducible first | refine aC y_2 ?_ | refine aD y_2 ?_) | ((first | refine ai (fun hg=>?_) (fun hg=>?_) | refine aA (fun hg=>?_) (fun hg=>?_) | refine aB (fun hg=>?_) (fun hg=>?_)) <;> try simp -implicitDefEqProofs only [hg,Bool.not_true,Bool.not_false]) | ((with_reducible apply And.intro);focus (first | trivial | omega | decide | (simp -implicitDefEqProofs only [maxLen];omega) | (simp [maxLen,an,aq,au,ay,ak,ax,av] <;> omega))) | fail)
 exact (hK _ _ (bM rfl)).2
theorem Nc (l:List Nd) (f:Nat) (p:Nd→Bool) (hf:∀ x:Nd,aJ Go.Proofs.Try.prog f [x.sv] [] [] (.rv (.bool (p x)))) (hb:l.length≤8589934592) :
 aJ Go.Proofs.Try.prog 59 [.rv (.sl 49 (bg l)),.fn f []] [] [] (.rv (.int .i64 (match l.findIdx? p with | some i=>((i:Nat):Int) | none=>-1))):=by
 refine bz Km [.rv (.sl 49 (bg l)),.fn f []] _ (by simp) (by simp [aN,aW,bn,aT,bf,aj.sv,Ln.sv,Nd.sv]) (fun K hK=>?_)
 have hlen:=au l
 conv in fc _ _ _ _=>reduce
 simp -implicitDefEqProofs only [hlen,go_sem,Int.reduceNegSucc]
 refine cN (ι:=Nat) (fun k=>[(8,.rv (.int .i64 k)),(7,.rv (.int .i64 l.length)),(0,.rv (.sl 49 (bg l))),(1,.fn f [])]) (fun _=>[]) (fun k=>k≤l.length∧∀ j,(h:j<l.length)→j<k→p (l[j]'h)=false) (fun k=>l.length - k) 0 (by simp) (bw (by simp [lk])) (fun k hk K' hN hX hR=>?_)
 obtain ⟨ct,hk2⟩:=hk
 simp -implicitDefEqProofs only [go_sem,Int.reduceNegSucc]
 refine ai (fun hg=>?_) (fun hg=>?_)
 ·have aE:k<l.length:=by simp at hg;omega
  have hx:=fG aE
  have bP:=hf (l[k]'aE);repeat' (first | (simp -implicitDefEqProofs only [go_sem,Int.reduceNegSucc,hlen,hx,aq,nE]) | (with_reducible refine az ?_) | (with_reducible first | refine aC bP ?_ | refine aD bP ?_) | ((first | refine ai (fun hg=>?_) (fun hg=>?_) | refine aA (fun hg=>?_) (fun hg=>?_) | refine aB (fun hg=>?_) (fun hg=>?_)) <;> try simp -implicitDefEqProofs only [hg,Bool.not_true,Bool.not_false]) | ((with_reducible apply And.intro);focus (first | trivial | omega | decide | (simp -implicitDefEqProofs only [maxLen];omega) | (simp [maxLen,an,aq,au,ay,ak,ax,av] <;> omega))) | fail)
  ·refine hR _ _ (hK _ _ (bM ?_)).2
   have:l.findIdx? p=some k:=by
    rw [List.findIdx?_eq_some_iff_getElem]
    exact ⟨aE,by simpa using hg,fun j hj=>by rw [hk2 j (by omega) hj];simp⟩
   rw [this];rfl
  ·rw [cu (by omega)]
   refine hN (k+1) _ _ ⟨by omega,fun j hj hji=>?_⟩ (by omega) (bw (by simp [lk]))
   rcases Nat.lt_or_ge j k with h | h
   ·exact hk2 j hj h
   ·obtain rfl:j=k:=by omega
    simpa using hg
 ·have aE:k=l.length:=by simp at hg;omega
  subst aE
  simp -implicitDefEqProofs only [go_sem,Int.reduceNegSucc]
  refine hX _ _ _ ?_
  repeat' (first | (simp -implicitDefEqProofs only [go_sem,Int.reduceNegSucc]) | (with_reducible refine az ?_) | ((first | refine ai (fun hg=>?_) (fun hg=>?_) | refine aA (fun hg=>?_) (fun hg=>?_) | refine aB (fun hg=>?_) (fun hg=>?_)) <;> try simp -implicitDefEqProofs only [hg,Bool.not_true,Bool.not_false]) | ((with_reducible apply And.intro);focus (first | trivial | omega | decide | (simp -implicitDefEqProofs only [maxLen];omega) | (simp [maxLen,an,aq,au,ay,ak,ax,av] <;> omega))) | fail)
  refine (hK _ _ (bM ?_)).2
  have:l.findIdx? p=none:=by
   rw [List.findIdx?_eq_none_iff]
   intro x hx
   obtain ⟨j,hj,rfl⟩:=List.getElem_of_mem hx
   exact hk2 j hj hj
  rw [this];rfl
theorem MV (l:List Nd) (f:Nat) (p:Nd→Bool) (hf:∀ x:Nd,aJ Go.Proofs.Try.prog f [x.sv] [] [] (.rv (.bool (p x)))) (hb:l.length≤8589934592) :
 aJ Go.Proofs.Try.prog 36 [.rv (.sl 49 (bg l)),.fn f []] [] [] (.rv (.bool (l.any p))):=by
 refine bz Kj [.rv (.sl 49 (bg l)),.fn f []] _ (by simp) (by simp [aN,aW,bn,aT,bf,aj.sv,Ln.sv,Nd.sv]) (fun K hK=>?_)
 conv in fc _ _ _ _=>reduce
 simp -implicitDefEqProofs only [go_sem,Int.reduceNegSucc]
 have bV:=Nc l f p hf hb;repeat' (first | (simp -implicitDefEqProofs only [go_sem,Int.reduceNegSucc]) | (with_reducible refine az ?_) | (with_reducible first | refine aC bV ?_ | refine aD bV ?_) | ((first | refine ai (fun hg=>?_) (fun hg=>?_) | refine aA (fun hg=>?_) (fun hg=>?_) | refine aB (fun hg=>?_) (fun hg=>?_)) <;> try simp -implicitDefEqProofs only [hg,Bool.not_true,Bool.not_false]) | ((with_reducible apply And.intro);focus (first | trivial | omega | decide | (simp -implicitDefEqProofs only [maxLen];omega) | (simp [maxLen,an,aq,au,ay,ak,ax,av] <;> omega))) | fail)
 refine (hK _ _ (bM ?_)).2
 have:(l.findIdx? p).isSome=l.any p:=List.findIdx?_isSome
 rw [← this]
 cases l.findIdx? p <;> simp [lk]
theorem DC (l:List Nd) (hb:l.length≤8589934592):aJ Go.Proofs.Try.prog 22 [.rv (.sl 49 (bg l))] [] [] (.rv (.int .i64 (fA l))):=by
 refine bz Kz [.rv (.sl 49 (bg l))] _ (by simp) (by simp [aN,aW,bn,aT,bf,aj.sv,Ln.sv,Nd.sv]) (fun K hK=>?_)
 have hlen:=au l
 conv in fc _ _ _ _=>reduce
 simp -implicitDefEqProofs only [go_sem,Int.reduceNegSucc]
 cases ht:cY l with
 | false=>
   have hc:=DD l hb
   rw [ht] at hc
   have cq:=hc;repeat' (first | (simp -implicitDefEqProofs only [go_sem,Int.reduceNegSucc]) | (with_reducible refine az ?_) | (with_reducible first | refine aC cq ?_ | refine aD cq ?_) | ((first | refine ai (fun hg=>?_) (fun hg=>?_) | refine aA (fun hg=>?_) (fun hg=>?_) | refine aB (fun hg=>?_) (fun hg=>?_)) <;> try simp -implicitDefEqProofs only [hg,Bool.not_true,Bool.not_false]) | ((with_reducible apply And.intro);focus (first | trivial | omega | decide | (simp -implicitDefEqProofs only [maxLen];omega) | (simp [maxLen,an,aq,au,ay,ak,ax,av] <;> omega))) | fail)
   exact (hK _ _ (bM (by simp [fA,ht,lk]))).2
 | true=>
   have hc:=DD l hb
   rw [ht] at hc
   have hs:dN l:=tC.1 (by unfold cY at ht;simp -implicitDefEqProofs only [Bool.and_eq_true] at ht;exact ht.1)
   have hd:=Fx l hs.pos
   have bW:=hc;have cr:=NV l hs.pos hs.wf hb;have cA:=MV l 37 (fun x=>!fI x.s) NU hb;repeat' (first | (simp -implicitDefEqProofs only [go_sem,Int.reduceNegSucc,hlen]) | (with_reducible refine az ?_) | (with_reducible first | refine aC bW ?_ | refine aD bW ?_) | (with_reducible first | refine aC cr ?_ | refine aD cr ?_) | (with_reducible first | refine aC cA ?_ | refine aD cA ?_) | ((first | refine ai (fun hg=>?_) (fun hg=>?_) | refine aA (fun hg=>?_) (fun hg=>?_) | refine aB (fun hg=>?_) (fun hg=>?_)) <;> try simp -implicitDefEqProofs only [hg,Bool.not_true,Bool.not_false]) | ((with_reducible apply And.intro);focus (first | trivial | omega | decide | (simp -implicitDefEqProofs only [maxLen];omega) | (simp [maxLen,an,aq,au,ay,ak,ax,av] <;> omega))) | fail)
   all_goals (refine (hK _ _ (bM ?_)).2;clear hK;(simp_all [fA,lk]) <;>(try (intros;omega)))
end Go.aH

namespace Go.aH
open Go
theorem JE:aV Go.Proofs.Try.prog 55 17 (fc Go.Proofs.Try.prog 55 17 [(.t 6)]) [(.t 6)]:=bl (by kernel_rfl)
theorem JI:aV Go.Proofs.Try.prog 31 41 (fc Go.Proofs.Try.prog 31 41 [(.t 2)]) [(.t 2)]:=bl (by kernel_rfl)
theorem JH:aV Go.Proofs.Try.prog 19 20 (fc Go.Proofs.Try.prog 19 20 [(.t 2)]) [(.t 2)]:=bl (by kernel_rfl)
theorem JG:aV Go.Proofs.Try.prog 21 16 (fc Go.Proofs.Try.prog 21 16 [(.t 4)]) [(.t 4)]:=bl (by kernel_rfl)
theorem JF:aV Go.Proofs.Try.prog 8 29 (fc Go.Proofs.Try.prog 8 29 [(.t 2)]) [(.t 2)]:=bl (by kernel_rfl)
def nc (l:List Nd) (a:Int) (n:Nat):Bool:=(aO l n).any fun (j:Nat)=>decide ((j:Int)=a)
theorem Em {l:List Nd} {a:Int} {n i:Nat} (h:i<(aO l n).length) (hp:(((aO l n)[i]'h:Nat):Int)=a):nc l a n=true:=by
 unfold nc;rw [List.any_eq_true];exact ⟨_,List.getElem_mem h,by simpa using hp⟩
theorem En {l:List Nd} {a:Int} {n:Nat} (hn:∀ j,(h:j<(aO l n).length)→(((aO l n)[j]'h:Nat):Int)≠a):nc l a n=false:=by
 unfold nc;rw [List.any_eq_false]
 intro x hx
 obtain ⟨j,hj,rfl⟩:=List.getElem_of_mem hx
 simpa using hn j hj
theorem NK (l:List Nd) (a:Int) (n:Nat) (hw:WF l (n+1)) (hn:n<l.length) (hb:l.length≤8589934592) :
 aJ Go.Proofs.Try.prog 55 [.rv (.sl 49 (bg l)),.rv (.int .i64 a),.rv (.int .i64 n)] [] [] (.rv (.bool (nc l a n))):=by
 refine bz JE [.rv (.sl 49 (bg l)),.rv (.int .i64 a),.rv (.int .i64 n)] _ (by simp) (by simp [aN,aW,bn,aT,bf,aj.sv,Ln.sv,Nd.sv]) (fun K hK=>?_)
 have hlen:=au l
 conv in fc _ _ _ _=>reduce
 simp -implicitDefEqProofs only [go_sem,Int.reduceNegSucc]
 refine cN (ι:=Nat) (fun i=>[(2,.rv (.int .i64 (fe (aO l n) i))),(0,.rv (.sl 49 (bg l))),(1,.rv (.int .i64 a))]) (fun _=>[]) (fun i=>i≤(aO l n).length∧∀ j,(h:j<(aO l n).length)→j<i→(((aO l n)[j]'h:Nat):Int)≠a) (fun i=>(aO l n).length - i) 0 (by simp) (by rw [rK];exact bw (by simp [lk])) (fun i hi K' hN hX hR=>?_)
 obtain ⟨hi1,hi2⟩:=hi
 have dS:=qU (l:=l) n
 simp -implicitDefEqProofs only [go_sem,Int.reduceNegSucc]
 refine ai (fun hg=>?_) (fun hg=>?_)
 ·have cQ:i<(aO l n).length:=nO.1 (by simpa using hg)
  have kk:=rJ cQ
  have hlt:(aO l n)[i]<n+1:=vT (by omega) cQ
  have hx:=fG (l:=l) (i:=(aO l n)[i]) (by omega)
  have hpar:=lZ (l:=l) (n:=(aO l n)[i]) (by omega)
  have lI:=vP hw n (by omega) i cQ
  repeat' (first | (simp -implicitDefEqProofs only [go_sem,Int.reduceNegSucc,hlen,aq,lX,kk,hx,hpar,lI]) | (with_reducible refine az ?_) | ((first | refine ai (fun hg=>?_) (fun hg=>?_) | refine aA (fun hg=>?_) (fun hg=>?_) | refine aB (fun hg=>?_) (fun hg=>?_)) <;> try simp -implicitDefEqProofs only [hg,Bool.not_true,Bool.not_false]) | ((with_reducible apply And.intro);focus (first | trivial | omega | decide | (simp -implicitDefEqProofs only [maxLen];omega) | (simp [maxLen,an,aq,au,ay,ak,ax,av] <;> omega))) | fail)
  ·exact hR _ _ (hK _ _ (bM (by rw [Em cQ (by simpa using hg)];rfl))).2
  ·refine hN (i+1) _ _ ⟨by omega,fun j hj hji=>?_⟩ (by omega) (bw (by simp [lk]))
   rcases Nat.lt_or_ge j i with h | h
   ·exact hi2 j hj h
   ·obtain rfl:j=i:=by omega
    simpa using hg
 ·have cQ:¬ i<(aO l n).length:=fun h=>by have:=nO.2 h;simp at hg;omega
  simp -implicitDefEqProofs only [go_sem,Int.reduceNegSucc]
  refine hX _ _ _ ?_
  repeat' (first | (simp -implicitDefEqProofs only [go_sem,Int.reduceNegSucc]) | (with_reducible refine az ?_) | ((first | refine ai (fun hg=>?_) (fun hg=>?_) | refine aA (fun hg=>?_) (fun hg=>?_) | refine aB (fun hg=>?_) (fun hg=>?_)) <;> try simp -implicitDefEqProofs only [hg,Bool.not_true,Bool.not_false]) | ((with_reducible apply And.intro);focus (first | trivial | omega | decide | (simp -implicitDefEqProofs only [maxLen];omega) | (simp [maxLen,an,aq,au,ay,ak,ax,av] <;> omega))) | fail)
  exact (hK _ _ (bM (by rw [En fun j hj=>hi2 j hj (by omega)];rfl))).2
theorem LB {l:List Nd} {k:Nat} (hk:0<k):eB l k=(!(decide (aX l k<0) || decide (aX l k≥k) || !nc l (aX l k) (k - 1))):=by
 have h1:eB l k=nc l (aX l k) (k - 1):=by
  have:decide (k=0)=false:=decide_eq_false (by omega)
  simp -implicitDefEqProofs only [eB,this,Bool.false_or,kC,nc,List.findIdx?_isSome]
 rw [h1]
 cases h:nc l (aX l k) (k - 1) with
 | false=>simp
 | true=>
   rw [← h1] at h
   have cK:¬ k=0:=by omega
   simp [eB,cK] at h
   obtain ⟨a,b,_⟩:=zA h
   simp;omega
theorem NO (l:List Nd) (hb:l.length≤8589934592):aJ Go.Proofs.Try.prog 31 [.rv (.sl 49 (bg l))] [] [] (.rv (.bool (fH l))):=by
 refine bz JI [.rv (.sl 49 (bg l))] _ (by simp) (by simp [aN,aW,bn,aT,bf,aj.sv,Ln.sv,Nd.sv]) (fun K hK=>?_)
 have bad:∀ e h,lk e 2 = .rv (.bool false)→fH l=false→K .ret ⟨e,h⟩:=fun e h l2 hf=>(hK _ _ (bM (by rw [l2,hf]))).2
 have hlen:=au l
 conv in fc _ _ _ _=>reduce
 simp -implicitDefEqProofs only [hlen,go_sem,Int.reduceNegSucc]
 by_cases mN:l.length=0
 ·have e0:(((l.length:Nat):Int) == 0)=true:=by simp [mN]
  repeat' (first | (simp -implicitDefEqProofs only [go_sem,Int.reduceNegSucc,e0,hlen]) | (with_reducible refine az ?_) | ((first | refine ai (fun hg=>?_) (fun hg=>?_) | refine aA (fun hg=>?_) (fun hg=>?_) | refine aB (fun hg=>?_) (fun hg=>?_)) <;> try simp -implicitDefEqProofs only [hg,Bool.not_true,Bool.not_false]) | ((with_reducible apply And.intro);focus (first | trivial | omega | decide | (simp -implicitDefEqProofs only [maxLen];omega) | (simp [maxLen,an,aq,au,ay,ak,ax,av] <;> omega))) | fail)
  exact bad _ _ rfl (by simp [fH,mN])
 ·have e0:(((l.length:Nat):Int) == 0)=false:=by simp [mN]
  have hx0:=fG (l:=l) (i:=0) (by omega)
  have eP:=lZ (l:=l) (n:=0) (by omega)
  repeat' (first | (simp -implicitDefEqProofs only [go_sem,Int.reduceNegSucc,e0,hlen,hx0,aq,lX,eP]) | (with_reducible refine az ?_) | ((first | refine ai (fun hg=>?_) (fun hg=>?_) | refine aA (fun hg=>?_) (fun hg=>?_) | refine aB (fun hg=>?_) (fun hg=>?_)) <;> try simp -implicitDefEqProofs only [hg,Bool.not_true,Bool.not_false]) | ((with_reducible apply And.intro);focus (first | trivial | omega | decide | (simp -implicitDefEqProofs only [maxLen];omega) | (simp [maxLen,an,aq,au,ay,ak,ax,av] <;> omega))) | fail)
  ·exact bad _ _ rfl (by simp [fH];intro _ h;simp at hg;exact absurd h hg)
  ·have sJ:aX l 0 = -1:=by simpa using hg
   refine cN (ι:=Nat) (fun k=>[(3,.rv (.int .i64 k)),(0,.rv (.sl 49 (bg l)))]) (fun _=>[]) (fun k=>0<k∧k≤l.length∧(∀ j,j<k→eB l j=true)) (fun k=>l.length - k) 1 ⟨by omega,by omega,fun j hj=>by simp [eB];omega⟩ (bw (by simp [lk])) (fun k hk K' hN hX hR=>?_)
   obtain ⟨cK,ct,hk2⟩:=hk
   have hw:=DX sJ hk2
   simp -implicitDefEqProofs only [hlen,go_sem,Int.reduceNegSucc]
   refine ai (fun hg=>?_) (fun hg=>?_)
   ·have aE:k<l.length:=by simp at hg;omega
    have hx:=fG aE
    have hpk:=lZ aE
    have wd:=rD cK (by omega)
    have wu:=cu (k:=k) (by omega)
    have vl:=LB (l:=l) cK
    have rM:eB l k=false→fH l=false:=fun h=>by
     rw [Bool.eq_false_iff]
     intro ht
     simp -implicitDefEqProofs only [fH,Bool.and_eq_true,List.all_eq_true,List.mem_range] at ht
     have:=ht.2 k aE
     rw [h] at this;cases this
    have nx:∀ e h,eB l k=true→cB 0 ⟨e,h⟩ ⟨[(3,.rv (.int .i64 (k+1:Nat))),(0,.rv (.sl 49 (bg l)))],[]⟩→K' .normal ⟨e,h⟩:=fun e h h1 he=>hN (k+1) _ _ ⟨by omega,by omega,fun j hj=>by
     rcases Nat.lt_or_ge j k with h | h
     ·exact hk2 j h
     ·obtain rfl:j=k:=by omega
      exact h1⟩ (by omega) he
    have hwk:WF l (k - 1+1):=by rw [show k - 1+1=k by omega];exact hw
    have bq:=NK l (aX l k) (k - 1) hwk (by omega) hb;repeat' (first | (simp -implicitDefEqProofs only [go_sem,Int.reduceNegSucc,hlen,hx,hpk,aq,lX,wd,wu]) | (with_reducible refine az ?_) | (with_reducible first | refine aC bq ?_ | refine aD bq ?_) | ((first | refine ai (fun hg=>?_) (fun hg=>?_) | refine aA (fun hg=>?_) (fun hg=>?_) | refine aB (fun hg=>?_) (fun hg=>?_)) <;> try simp -implicitDefEqProofs only [hg,Bool.not_true,Bool.not_false]) | ((with_reducible apply And.intro);focus (first | trivial | omega | decide | (simp -implicitDefEqProofs only [maxLen];omega) | (simp [maxLen,an,aq,au,ay,ak,ax,av] <;> omega))) | fail)
    all_goals first
     | (refine hR _ _ (bad _ _ rfl (rM ?_));rw [vl];clear vl rM nx hK hN hX hR bad;simp_all;done)
     | (refine nx _ _ ?_ (bw (by simp [lk]));rw [vl];clear vl rM nx hK hN hX hR bad;(simp_all) <;> omega)
   ·have aE:k=l.length:=by simp at hg;omega
    subst aE
    simp -implicitDefEqProofs only [go_sem,Int.reduceNegSucc]
    refine hX _ _ _ ?_
    repeat' (first | (simp -implicitDefEqProofs only [go_sem,Int.reduceNegSucc]) | (with_reducible refine az ?_) | ((first | refine ai (fun hg=>?_) (fun hg=>?_) | refine aA (fun hg=>?_) (fun hg=>?_) | refine aB (fun hg=>?_) (fun hg=>?_)) <;> try simp -implicitDefEqProofs only [hg,Bool.not_true,Bool.not_false]) | ((with_reducible apply And.intro);focus (first | trivial | omega | decide | (simp -implicitDefEqProofs only [maxLen];omega) | (simp [maxLen,an,aq,au,ay,ak,ax,av] <;> omega))) | fail)
    refine (hK _ _ (bM ?_)).2
    have hs:fH l=true:=by
     simp -implicitDefEqProofs only [fH,Bool.and_eq_true,decide_eq_true_eq,List.all_eq_true,List.mem_range]
     exact ⟨⟨by omega,sJ⟩,hk2⟩
    rw [hs];rfl
theorem NN (l:List Nd) (hb:l.length≤8589934592):aJ Go.Proofs.Try.prog 19 [.rv (.sl 49 (bg l))] [] [] (.rv (.bool (cY l))):=by
 refine bz JH [.rv (.sl 49 (bg l))] _ (by simp) (by simp [aN,aW,bn,aT,bf,aj.sv,Ln.sv,Nd.sv]) (fun K hK=>?_)
 have bad:∀ e h,lk e 2 = .rv (.bool false)→cY l=false→K .ret ⟨e,h⟩:=fun e h l2 hf=>(hK _ _ (bM (by rw [l2,hf]))).2
 have hlen:=au l
 conv in fc _ _ _ _=>reduce
 simp -implicitDefEqProofs only [go_sem,Int.reduceNegSucc]
 have y_2:=NO l hb;repeat' (first | (simp -implicitDefEqProofs only [go_sem,Int.reduceNegSucc]) | (with_reducible refine az ?_) | (with_reducible first | refine aC y_2 ?_ | refine aD y_2 ?_) | ((first | refine ai (fun hg=>?_) (fun hg=>?_) | refine aA (fun hg=>?_) (fun hg=>?_) | refine aB (fun hg=>?_) (fun hg=>?_)) <;> try simp -implicitDefEqProofs only [hg,Bool.not_true,Bool.not_false]) | ((with_reducible apply And.intro);focus (first | trivial | omega | decide | (simp -implicitDefEqProofs only [maxLen];omega) | (simp [maxLen,an,aq,au,ay,ak,ax,av] <;> omega))) | fail)
 ·exact bad _ _ rfl (by simp at hg;simp [cY,hg])
 ·have hs:fH l=true:=by simpa using hg
  simp -implicitDefEqProofs only [hlen,go_sem,Int.reduceNegSucc]
  refine cN (ι:=Nat) (fun k=>[(9,.rv (.int .i64 k)),(8,.rv (.int .i64 l.length)),(0,.rv (.sl 49 (bg l)))]) (fun _=>[]) (fun k=>k≤l.length∧((l.drop k).all fun x=>eK x.s)=l.all fun x=>eK x.s) (fun k=>l.length - k) 0 (by simp) (bw (by simp [lk])) (fun k hk K' hN hX hR=>?_)
  obtain ⟨ct,cU⟩:=hk
  simp -implicitDefEqProofs only [go_sem,Int.reduceNegSucc]
  refine ai (fun hg=>?_) (fun hg=>?_)
  ·have aE:k<l.length:=by simp at hg;omega
   have hx:=fG aE
   have wu:=cu (k:=k) (by omega)
   have bP:=NI (l[k]'aE).s;repeat' (first | (simp -implicitDefEqProofs only [go_sem,Int.reduceNegSucc,hlen,hx,aq,lX,th,wu]) | (with_reducible refine az ?_) | (with_reducible first | refine aC bP ?_ | refine aD bP ?_) | ((first | refine ai (fun hg=>?_) (fun hg=>?_) | refine aA (fun hg=>?_) (fun hg=>?_) | refine aB (fun hg=>?_) (fun hg=>?_)) <;> try simp -implicitDefEqProofs only [hg,Bool.not_true,Bool.not_false]) | ((with_reducible apply And.intro);focus (first | trivial | omega | decide | (simp -implicitDefEqProofs only [maxLen];omega) | (simp [maxLen,an,aq,au,ay,ak,ax,av] <;> omega))) | fail)
   ·refine hR _ _ (bad _ _ rfl ?_)
    have:(l.all fun x=>eK x.s)=false:=mB aE cU (by simpa using hg)
    simp -implicitDefEqProofs only [cY,this,Bool.and_false]
   ·exact hN (k+1) _ _ ⟨by omega,mC aE cU (by simpa using hg)⟩ (by omega) (bw (by simp [lk]))
  ·have aE:k=l.length:=by simp at hg;omega
   subst aE
   have hall:=mA (Nat.le_refl _) cU
   simp -implicitDefEqProofs only [go_sem,Int.reduceNegSucc]
   refine hX _ _ _ ?_
   repeat' (first | (simp -implicitDefEqProofs only [go_sem,Int.reduceNegSucc]) | (with_reducible refine az ?_) | ((first | refine ai (fun hg=>?_) (fun hg=>?_) | refine aA (fun hg=>?_) (fun hg=>?_) | refine aB (fun hg=>?_) (fun hg=>?_)) <;> try simp -implicitDefEqProofs only [hg,Bool.not_true,Bool.not_false]) | ((with_reducible apply And.intro);focus (first | trivial | omega | decide | (simp -implicitDefEqProofs only [maxLen];omega) | (simp [maxLen,an,aq,au,ay,ak,ax,av] <;> omega))) | fail)
   exact (hK _ _ (bM (by rw [cY,hs,hall];rfl))).2
theorem NM (l:List Nd) (n:Nat) (hw:WF l (n+1)) (hn:n<l.length) (hb:l.length≤8589934592) :
 aJ Go.Proofs.Try.prog 21 [.rv (.sl 49 (bg l)),.rv (.int .i64 n)] [] [] (.rv (.int .i64 (depth l n))):=by
 refine bz JG [.rv (.sl 49 (bg l)),.rv (.int .i64 n)] _ (by simp) (by simp [aN,aW,bn,aT,bf,aj.sv,Ln.sv,Nd.sv]) (fun K hK=>?_)
 have hlen:=au l
 conv in fc _ _ _ _=>reduce
 simp -implicitDefEqProofs only [go_sem,Int.reduceNegSucc]
 refine cN (ι:=Nat) (fun i=>[(1,.rv (.int .i64 (fe (aO l n) i))),(0,.rv (.sl 49 (bg l))),(5,.rv (.int .i64 i))]) (fun _=>[]) (fun i=>i≤(aO l n).length) (fun i=>(aO l n).length - i) 0 (by simp) (by rw [rK];exact bw (by simp [lk])) (fun i hi1 K' hN hX hR=>?_)
 have dS:=qU (l:=l) n
 simp -implicitDefEqProofs only [go_sem,Int.reduceNegSucc]
 refine ai (fun hg=>?_) (fun hg=>?_)
 ·have cQ:i<(aO l n).length:=nO.1 (by simpa using hg)
  have kk:=rJ cQ
  have hlt:(aO l n)[i]<n+1:=vT (by omega) cQ
  have hx:=fG (l:=l) (i:=(aO l n)[i]) (by omega)
  have hpar:=lZ (l:=l) (n:=(aO l n)[i]) (by omega)
  have lI:=vP hw n (by omega) i cQ
  have wu:=cu (k:=i) (by omega)
  repeat' (first | (simp -implicitDefEqProofs only [go_sem,Int.reduceNegSucc,hlen,aq,lX,kk,hx,hpar,lI,wu]) | (with_reducible refine az ?_) | ((first | refine ai (fun hg=>?_) (fun hg=>?_) | refine aA (fun hg=>?_) (fun hg=>?_) | refine aB (fun hg=>?_) (fun hg=>?_)) <;> try simp -implicitDefEqProofs only [hg,Bool.not_true,Bool.not_false]) | ((with_reducible apply And.intro);focus (first | trivial | omega | decide | (simp -implicitDefEqProofs only [maxLen];omega) | (simp [maxLen,an,aq,au,ay,ak,ax,av] <;> omega))) | fail)
  exact hN (i+1) _ _ (by omega) (by omega) (bw (by simp [lk]))
 ·have cQ:¬ i<(aO l n).length:=fun h=>by have:=nO.2 h;simp at hg;omega
  have:i=(aO l n).length:=by omega
  subst this
  simp -implicitDefEqProofs only [go_sem,Int.reduceNegSucc]
  refine hX _ _ _ ?_
  repeat' (first | (simp -implicitDefEqProofs only [go_sem,Int.reduceNegSucc]) | (with_reducible refine az ?_) | ((first | refine ai (fun hg=>?_) (fun hg=>?_) | refine aA (fun hg=>?_) (fun hg=>?_) | refine aB (fun hg=>?_) (fun hg=>?_)) <;> try simp -implicitDefEqProofs only [hg,Bool.not_true,Bool.not_false]) | ((with_reducible apply And.intro);focus (first | trivial | omega | decide | (simp -implicitDefEqProofs only [maxLen];omega) | (simp [maxLen,an,aq,au,ay,ak,ax,av] <;> omega))) | fail)
  exact (hK _ _ (bM rfl)).2
theorem NL (l:List Nd) (hb:l.length≤8589934592):aJ Go.Proofs.Try.prog 8 [.rv (.sl 49 (bg l))] [] [] (.rv (.int .i64 (fA l))):=by
 refine bz JF [.rv (.sl 49 (bg l))] _ (by simp) (by simp [aN,aW,bn,aT,bf,aj.sv,Ln.sv,Nd.sv]) (fun K hK=>?_)
 have hlen:=au l
 conv in fc _ _ _ _=>reduce
 simp -implicitDefEqProofs only [go_sem,Int.reduceNegSucc]
 have bV:=NN l hb;repeat' (first | (simp -implicitDefEqProofs only [go_sem,Int.reduceNegSucc]) | (with_reducible refine az ?_) | (with_reducible first | refine aC bV ?_ | refine aD bV ?_) | ((first | refine ai (fun hg=>?_) (fun hg=>?_) | refine aA (fun hg=>?_) (fun hg=>?_) | refine aB (fun hg=>?_) (fun hg=>?_)) <;> try simp -implicitDefEqProofs only [hg,Bool.not_true,Bool.not_false]) | ((with_reducible apply And.intro);focus (first | trivial | omega | decide | (simp -implicitDefEqProofs only [maxLen];omega) | (simp [maxLen,an,aq,au,ay,ak,ax,av] <;> omega))) | fail)
 ·exact (hK _ _ (bM (by simp at hg;simp [fA,hg,lk]))).2
 ·have ht:cY l=true:=by simpa using hg
  have hs:dN l:=tC.1 (by unfold cY at ht;simp -implicitDefEqProofs only [Bool.and_eq_true] at ht;exact ht.1)
  simp -implicitDefEqProofs only [hlen,go_sem,Int.reduceNegSucc]
  refine cN (ι:=Nat) (fun k=>[(9,.rv (.int .i64 k)),(8,.rv (.int .i64 l.length)),(0,.rv (.sl 49 (bg l)))]) (fun _=>[]) (fun k=>k≤l.length∧∀ j,(h:j<l.length)→j<k→fI (l[j]'h).s=true∧depth l j≤256) (fun k=>l.length - k) 0 (by simp) (bw (by simp [lk])) (fun k hk K' hN hX hR=>?_)
  obtain ⟨ct,cU⟩:=hk
  simp -implicitDefEqProofs only [go_sem,Int.reduceNegSucc]
  refine ai (fun hg=>?_) (fun hg=>?_)
  ·have aE:k<l.length:=by simp at hg;omega
   have hx:=fG aE
   have wu:=cu (k:=k) (by omega)
   have bad:∀ e h,lk e 2 = .rv (.int .i64 3)→(fI (l[k]'aE).s=false∨depth l k>256)→K' .ret ⟨e,h⟩:=fun e h l2 hf=>hR _ _ (hK _ _ (bM (by
    rw [l2];unfold fA
    rw [if_neg (by rw [ht];simp),if_pos]
    simp -implicitDefEqProofs only [Bool.or_eq_true,List.any_eq_true,List.mem_range,decide_eq_true_eq,Bool.not_eq_true']
    rcases hf with h | h
    ·exact .inr ⟨_,List.getElem_mem aE,h⟩
    ·exact .inl (.inr ⟨k,aE,h⟩)))).2
   have nx:∀ e h,fI (l[k]'aE).s=true→depth l k≤256→cB 0 ⟨e,h⟩ ⟨[(9,.rv (.int .i64 (k+1:Nat))),(8,.rv (.int .i64 l.length)),(0,.rv (.sl 49 (bg l)))],[]⟩→K' .normal ⟨e,h⟩:=fun e h h1 h2 he=>hN (k+1) _ _ ⟨by omega,fun j hj hji=>by
    rcases Nat.lt_or_ge j k with h | h
    ·exact cU j hj h
    ·obtain rfl:j=k:=by omega
     exact ⟨h1,h2⟩⟩ (by omega) he
   have cq:=NJ (l[k]'aE).s;have bW:=NM l k (hs.wf.mono (by omega)) aE hb;repeat' (first | (simp -implicitDefEqProofs only [go_sem,Int.reduceNegSucc,hlen,hx,aq,lX,th,wu]) | (with_reducible refine az ?_) | (with_reducible first | refine aC cq ?_ | refine aD cq ?_) | (with_reducible first | refine aC bW ?_ | refine aD bW ?_) | ((first | refine ai (fun hg=>?_) (fun hg=>?_) | refine aA (fun hg=>?_) (fun hg=>?_) | refine aB (fun hg=>?_) (fun hg=>?_)) <;> try simp -implicitDefEqProofs only [hg,Bool.not_true,Bool.not_false]) | ((with_reducible apply And.intro);focus (first | trivial | omega | decide | (simp -implicitDefEqProofs only [maxLen];omega) | (simp [maxLen,an,aq,au,ay,ak,ax,av] <;> omega))) | fail)
   all_goals first
    | (refine bad _ _ rfl ?_;clear bad nx hK hN hX hR;(simp_all) <;> omega)
    | (refine nx _ _ ?_ ?_ (bw (by simp [lk])) <;> clear bad nx hK hN hX hR <;>(simp_all) <;> omega)
  ·have aE:k=l.length:=by simp at hg;omega
   subst aE
   simp -implicitDefEqProofs only [go_sem,Int.reduceNegSucc]
   refine hX _ _ _ ?_
   have hno:((List.range l.length).any (fun k=>decide (depth l k>256)) || l.any fun x=>!fI x.s)=false:=by
    rw [Bool.or_eq_false_iff,List.any_eq_false,List.any_eq_false]
    refine ⟨fun k hk=>?_,fun x hx=>?_⟩
    ·have:=(cU k (by simpa using hk) (by simpa using hk)).2;simp;omega
    ·obtain ⟨j,hj,rfl⟩:=List.getElem_of_mem hx
     simp [(cU j hj hj).1]
   have fin:fA l=if (l.length:Int)>65535 then 3 else 0:=by
    unfold fA
    rw [if_neg (by rw [ht];simp),Bool.or_assoc,hno]
    by_cases h:l.length>65535
    ·have:(l.length:Int)>65535:=by omega
     simp [h,this]
    ·have:¬ (l.length:Int)>65535:=by omega
     simp [h,this]
   repeat' (first | (simp -implicitDefEqProofs only [go_sem,Int.reduceNegSucc,hlen]) | (with_reducible refine az ?_) | ((first | refine ai (fun hg=>?_) (fun hg=>?_) | refine aA (fun hg=>?_) (fun hg=>?_) | refine aB (fun hg=>?_) (fun hg=>?_)) <;> try simp -implicitDefEqProofs only [hg,Bool.not_true,Bool.not_false]) | ((with_reducible apply And.intro);focus (first | trivial | omega | decide | (simp -implicitDefEqProofs only [maxLen];omega) | (simp [maxLen,an,aq,au,ay,ak,ax,av] <;> omega))) | fail)
   all_goals (refine (hK _ _ (bM ?_)).2;rw [fin];clear fin hK hN hX hR;(simp_all [lk]) <;> omega)
end Go.aH

namespace Go.aH
open Go
theorem BT:aV Go.Proofs.Try.prog 23 8 (fc Go.Proofs.Try.prog 23 8 [(.t 2)]) [(.t 2)]:=bl (by kernel_rfl)
theorem BU:aV Go.Proofs.Try.prog 89 8 (fc Go.Proofs.Try.prog 89 8 [(.t 2)]) [(.t 2)]:=bl (by kernel_rfl)
theorem Dn (xs:List (List RV)) (m:Nat) (hb:xs.length≤8589934592):aJ Go.Proofs.Try.prog 23 [.rv (.sl 49 xs)] [] [(m,.row 49 1 (aI xs))] (.row m 1 xs.length):=by
 have nz:∀ r:RV,(r = .jV∧xs=[])∨(r = .sl 49 xs∧0<xs.length)→aJ Go.Proofs.Try.prog 23 [.rv r] [] [(m,.row 49 1 (aI xs))] (.row m 1 xs.length):=fun r hr=>by
  refine kF BT [] [] [] [.rv r] [.rv r] _ _ (by simp) (by simp [aN,fV,fL,aT,aW,lq,bf,lu,lp,dg,kW,bL]) rfl (by simp [bL]) (by simp [dg]) (fun K hK=>?_)
  conv in fc _ _ _ _=>reduce
  simp -implicitDefEqProofs only [go_sem,Int.reduceNegSucc]
  rcases hr with ⟨rfl,rfl⟩ | ⟨rfl,h0⟩
  ·repeat' (first | (simp -implicitDefEqProofs only [go_sem,Int.reduceNegSucc]) | (with_reducible refine az ?_) | ((first | refine ai (fun hg=>?_) (fun hg=>?_) | refine aA (fun hg=>?_) (fun hg=>?_) | refine aB (fun hg=>?_) (fun hg=>?_)) <;> try simp -implicitDefEqProofs only [hg,Bool.not_true,Bool.not_false]) | ((with_reducible apply And.intro);focus (first | trivial | omega | decide | (simp -implicitDefEqProofs only [maxLen];omega) | (simp [maxLen,an,aq,au,ay,ak,ax,av] <;> omega))) | fail)
   refine (hK _ _ _ _ [some m] (dh _ _) ?_).2
   simp [dx,bL,newL,dB,di,bB,br,lk,bJ,cG,cR,cJ,dR,dQ,ag,dy,bN,aQ,cW,dz,ek,aU,eg,aP,cX,cL]
   exact ⟨by simp [aI],fun i x y hx=>by simp at hx⟩
  ·repeat' (first | (simp -implicitDefEqProofs only [go_sem,Int.reduceNegSucc,zg]) | (with_reducible refine az ?_) | ((first | refine ai (fun hg=>?_) (fun hg=>?_) | refine aA (fun hg=>?_) (fun hg=>?_) | refine aB (fun hg=>?_) (fun hg=>?_)) <;> try simp -implicitDefEqProofs only [hg,Bool.not_true,Bool.not_false]) | ((with_reducible apply And.intro);focus (first | trivial | omega | decide | (simp -implicitDefEqProofs only [maxLen];omega) | (simp [maxLen,an,aq,au,ay,ak,ax,av] <;> omega))) | fail)
   refine (hK _ _ _ _ [some m] (dh _ _) ?_).2
   simp [dx,bL,newL,dB,di,bB,br,lk,bJ,cG,cR,cJ,dR,dQ,ag,dy,bN,aQ,cW,dz,ek,aU,eg,aP,cX,cL]
 by_cases h0:xs=[]
 ·subst h0
  refine @zS _ _ _ [] [] _ _ _ ?_ (nz _ (.inl ⟨rfl,rfl⟩))
  show aJ _ _ [.rv .bQ] _ _ _
  refine kF BT [] [] [] [.rv .bQ] [.rv .bQ] _ _ (by simp) (by simp [aN,fV,fL,aT,aW,lq,bf,lu,lp,dg,kW,bL]) rfl (by simp [bL]) (by simp [dg]) (fun K hK=>?_)
  conv in fc _ _ _ _=>reduce
  simp -implicitDefEqProofs only [go_sem,Int.reduceNegSucc]
  repeat' (first | (simp -implicitDefEqProofs only [go_sem,Int.reduceNegSucc]) | (with_reducible refine az ?_) | ((first | refine ai (fun hg=>?_) (fun hg=>?_) | refine aA (fun hg=>?_) (fun hg=>?_) | refine aB (fun hg=>?_) (fun hg=>?_)) <;> try simp -implicitDefEqProofs only [hg,Bool.not_true,Bool.not_false]) | ((with_reducible apply And.intro);focus (first | trivial | omega | decide | (simp -implicitDefEqProofs only [maxLen];omega) | (simp [maxLen,an,aq,au,ay,ak,ax,av] <;> omega))) | fail)
  refine (hK _ _ _ _ [some m] (rY 2 49 1 rfl) ?_).2
  simp [dx,bL,newL,dB,di,bB,br,lk,bJ,cG,cR,cJ,dR,dQ,ag,dy,bN,aQ,cW,dz,ek,aU,eg,aP,cX,cL]
  exact ⟨by simp [aI],fun i x y hx=>by simp at hx⟩
 ·exact nz _ (.inr ⟨rfl,List.length_pos_iff.2 h0⟩)
theorem MU (xs:List (List RV)) (m:Nat) (hb:xs.length≤8589934592):aJ Go.Proofs.Try.prog 89 [.rv (.sl 1 xs)] [] [(m,.row 1 1 (aI xs))] (.row m 1 xs.length):=by
 have nz:∀ r:RV,(r = .jV∧xs=[])∨(r = .sl 1 xs∧0<xs.length)→aJ Go.Proofs.Try.prog 89 [.rv r] [] [(m,.row 1 1 (aI xs))] (.row m 1 xs.length):=fun r hr=>by
  refine kF BU [] [] [] [.rv r] [.rv r] _ _ (by simp) (by simp [aN,fV,fL,aT,aW,lq,bf,lu,lp,dg,kW,bL]) rfl (by simp [bL]) (by simp [dg]) (fun K hK=>?_)
  conv in fc _ _ _ _=>reduce
  simp -implicitDefEqProofs only [go_sem,Int.reduceNegSucc]
  rcases hr with ⟨rfl,rfl⟩ | ⟨rfl,h0⟩
  ·repeat' (first | (simp -implicitDefEqProofs only [go_sem,Int.reduceNegSucc]) | (with_reducible refine az ?_) | ((first | refine ai (fun hg=>?_) (fun hg=>?_) | refine aA (fun hg=>?_) (fun hg=>?_) | refine aB (fun hg=>?_) (fun hg=>?_)) <;> try simp -implicitDefEqProofs only [hg,Bool.not_true,Bool.not_false]) | ((with_reducible apply And.intro);focus (first | trivial | omega | decide | (simp -implicitDefEqProofs only [maxLen];omega) | (simp [maxLen,an,aq,au,ay,ak,ax,av] <;> omega))) | fail)
   refine (hK _ _ _ _ [some m] (dh _ _) ?_).2
   simp [dx,bL,newL,dB,di,bB,br,lk,bJ,cG,cR,cJ,dR,dQ,ag,dy,bN,aQ,cW,dz,ek,aU,eg,aP,cX,cL]
   exact ⟨by simp [aI],fun i x y hx=>by simp at hx⟩
  ·repeat' (first | (simp -implicitDefEqProofs only [go_sem,Int.reduceNegSucc,zg]) | (with_reducible refine az ?_) | ((first | refine ai (fun hg=>?_) (fun hg=>?_) | refine aA (fun hg=>?_) (fun hg=>?_) | refine aB (fun hg=>?_) (fun hg=>?_)) <;> try simp -implicitDefEqProofs only [hg,Bool.not_true,Bool.not_false]) | ((with_reducible apply And.intro);focus (first | trivial | omega | decide | (simp -implicitDefEqProofs only [maxLen];omega) | (simp [maxLen,an,aq,au,ay,ak,ax,av] <;> omega))) | fail)
   refine (hK _ _ _ _ [some m] (dh _ _) ?_).2
   simp [dx,bL,newL,dB,di,bB,br,lk,bJ,cG,cR,cJ,dR,dQ,ag,dy,bN,aQ,cW,dz,ek,aU,eg,aP,cX,cL]
 by_cases h0:xs=[]
 ·subst h0
  refine @zS _ _ _ [] [] _ _ _ ?_ (nz _ (.inl ⟨rfl,rfl⟩))
  show aJ _ _ [.rv .bQ] _ _ _
  refine kF BU [] [] [] [.rv .bQ] [.rv .bQ] _ _ (by simp) (by simp [aN,fV,fL,aT,aW,lq,bf,lu,lp,dg,kW,bL]) rfl (by simp [bL]) (by simp [dg]) (fun K hK=>?_)
  conv in fc _ _ _ _=>reduce
  simp -implicitDefEqProofs only [go_sem,Int.reduceNegSucc]
  repeat' (first | (simp -implicitDefEqProofs only [go_sem,Int.reduceNegSucc]) | (with_reducible refine az ?_) | ((first | refine ai (fun hg=>?_) (fun hg=>?_) | refine aA (fun hg=>?_) (fun hg=>?_) | refine aB (fun hg=>?_) (fun hg=>?_)) <;> try simp -implicitDefEqProofs only [hg,Bool.not_true,Bool.not_false]) | ((with_reducible apply And.intro);focus (first | trivial | omega | decide | (simp -implicitDefEqProofs only [maxLen];omega) | (simp [maxLen,an,aq,au,ay,ak,ax,av] <;> omega))) | fail)
  refine (hK _ _ _ _ [some m] (rY 2 1 1 rfl) ?_).2
  simp [dx,bL,newL,dB,di,bB,br,lk,bJ,cG,cR,cJ,dR,dQ,ag,dy,bN,aQ,cW,dz,ek,aU,eg,aP,cX,cL]
  exact ⟨by simp [aI],fun i x y hx=>by simp at hx⟩
 ·exact nz _ (.inr ⟨rfl,List.length_pos_iff.2 h0⟩)
end Go.aH

namespace Go.aH
open Go
theorem BS:aV Go.Proofs.Try.prog 9 157 (fc Go.Proofs.Try.prog 9 157 [(.t 2),(.t 3)]) [(.t 2),(.t 3)]:=bl (by kernel_rfl)
def bt (l:List Nat):List Int:=l.map fun (n:Nat)=>(n:Int)
def ey (bs:List Bool):List (List RV):=bs.map fun b=>[.bool b]
theorem ug (bs:List Bool):(ey bs).length=bs.length:=by simp [ey]
theorem qq {bs:List Bool} {i:Nat} (h:i<bs.length):(ey bs)[i]?.getD []=[.bool (bs.getD i false)]:=by simp [ey,h]
theorem rj {ys:List Bool} {k:Nat} {v:Bool}:(aI (ey ys)).set k [.rv (.bool v)]=aI (ey (ys.set k v)):=by simp [aI,ey,List.map_set]
theorem Dh {n:Nat}:List.replicate n [U.rv (.bool false)]=aI (ey (List.replicate n false)):=by simp [aI,ey]
theorem zO (l:List Bool):∀ x∈ey l,∀ r∈x,r.one=true:=by
 intro x hx r hr
 obtain ⟨n,_,rfl⟩:=List.mem_map.1 hx
 simp at hr;rw [hr];rfl
def cn (l:List Nd) (k:Nat):List Bool:=(List.range l.length).map fun j=>if j<k then jT l j else false
theorem Cp (l:List Nd) (k:Nat):(cn l k).length=l.length:=by simp [cn]
theorem Cq (l:List Nd):cn l 0=List.replicate l.length false:=by
 refine List.ext_getElem (by simp [cn]) (fun i h1 h2=>?_)
 simp [cn]
theorem vB {l:List Nd} {k:Nat} (hk:k<l.length):(cn l k).set k (jT l k)=cn l (k+1):=by
 refine List.ext_getElem (by simp [cn]) (fun i h1 h2=>?_)
 simp -implicitDefEqProofs only [List.getElem_set,cn,List.getElem_map,List.getElem_range]
 by_cases h:k=i
 ·subst h;simp
 ·rw [if_neg h]
  by_cases hi:i<k
  ·rw [if_pos hi,if_pos (by omega)]
  ·rw [if_neg hi,if_neg (by omega)]
theorem Co {l:List Nd} {k j:Nat} {b:Bool} (hj:j<k) (hl:j<l.length):((cn l k).set k b).getD j false=jT l j:=by
 rw [List.getD_eq_getElem?_getD,List.getElem?_set_ne (by omega)]
 simp [cn,hl,hj]
def dU (l:List Nd) (k:Nat):List (List U):=(List.range l.length).map fun p=>[.row (p+6) (aR l k p).length (aR l k p).length]
def dI (l:List Nd) (k:Nat):List (Option HB):=(List.range l.length).map fun p=>some (.row 1 (aR l k p).length (aI (aL (bt (aR l k p)))))
theorem sW (l:List Nd) (k:Nat):(dU l k).length=l.length:=by simp [dU]
theorem kO (l:List Nd) (k:Nat):(dI l k).length=l.length:=by simp [dI]
theorem BI {l:List Nd} {k p:Nat} (hp:p<l.length):(dU l k)[p]?.getD []=[.row (p+6) (aR l k p).length (aR l k p).length]:=by simp [dU,hp]
theorem yA {l:List Nd} {k p:Nat} {C:List (Option HB)} (hp:p<l.length):ag (dI l k++C) p=some (.row 1 (aR l k p).length (aI (aL (bt (aR l k p))))):=by
 unfold ag
 rw [List.getElem?_append_left (by rw [kO];exact hp)]
 simp [dI,hp]
theorem yy {l:List Nd} {k:Nat} {x:Option HB} {C:List (Option HB)}:ag (dI l k++x::C) l.length=x:=by
 unfold ag
 rw [List.getElem?_append_right (by rw [kO];exact Nat.le_refl _),kO]
 simp
theorem BE {l:List Nd} {k:Nat} {x y:Option HB} {C:List (Option HB)}:ag (dI l k++x::y::C) (l.length+1)=y:=by
 unfold ag
 rw [List.getElem?_append_right (by rw [kO];omega),kO,show l.length+1 - l.length=1 by omega]
 simp
theorem BG {l:List Nd} {k p:Nat} {hb:Option HB} {x y:Option HB} {C:List (Option HB)}:ag ((dI l k).set p hb++x::C) l.length=x:=by
 unfold ag
 rw [List.getElem?_append_right (by rw [List.length_set,kO];exact Nat.le_refl _),List.length_set,kO]
 simp
theorem yC {l:List Nd} {k:Nat} {x y:Option HB} {C:List (Option HB)}:(dI l k++x::C).set l.length y=dI l k++y::C:=by
 rw [List.set_append_right _ _ (by rw [kO];exact Nat.le_refl _),kO,Nat.sub_self];rfl
theorem Jk {l:List Nd} {k p:Nat} {y:Option HB} {C:List (Option HB)} (hp:p<l.length):(dI l k++C).set p y=(dI l k).set p y++C:=by
 rw [List.set_append_left _ _ (by rw [kO];exact hp)]
theorem Jm (l:List Nd):dI l 0=dO l.length 1:=by
 refine List.ext_getElem (by simp [dI,dO]) (fun i h1 h2=>?_)
 simp [dI,dO,sZ,bt,aL,aI]
theorem BK (l:List Nd):dU l 0=dn 6 l.length l.length:=by
 refine List.ext_getElem (by simp [dU,dn]) (fun i h1 h2=>?_)
 simp [dU] at h1
 simp [dU,dn,sZ,h1];omega
theorem Ji {l:List Nd} {k p:Nat} (h0:0<k) (hp:aX l k=p) (hl:p<l.length) :
 (dI l k).set p (some (.row 1 ((aR l k p).length+1) (aI (aL (bt (aR l k p)++[(k:Int)])))))=dI l (k+1):=by
 refine List.ext_getElem (by simp [dI]) (fun i h1 h2=>?_)
 simp -implicitDefEqProofs only [List.getElem_set,dI,List.getElem_map,List.getElem_range,sY]
 by_cases h:p=i
 ·subst h;simp [h0,hp,bt]
 ·rw [if_neg h,if_neg (by rw [hp];omega)];simp
theorem Jq {l:List Nd} {k p:Nat} (h0:0<k) (hp:aX l k=p) (hl:p<l.length) :
 (dU l k).set p [.row (p+6) ((aR l k p).length+1) ((aR l k p).length+1)]=dU l (k+1):=by
 refine List.ext_getElem (by simp [dU]) (fun i h1 h2=>?_)
 simp -implicitDefEqProofs only [List.getElem_set,dU,List.getElem_map,List.getElem_range,sY]
 by_cases h:p=i
 ·subst h;simp [h0,hp]
 ·rw [if_neg h,if_neg (by rw [hp];omega)];simp
theorem Jg (l:List Nd):dI l 1=dI l 0:=by
 refine List.ext_getElem (by simp [dI]) (fun i h1 h2=>?_)
 simp [dI,aR,List.range_succ]
theorem Jo (l:List Nd):dU l 1=dU l 0:=by
 refine List.ext_getElem (by simp [dU]) (fun i h1 h2=>?_)
 simp [dU,aR,List.range_succ]
def fY (l:List Nd):List (List RV):=(List.range l.length).map fun p=>[.sl 1 (aL (bt (dw l p)))]
def pz (l:List Nd):List Int:=(List.range l.length).map fun n=>(cZ l n:Int)
abbrev cg (l:List Nd):RV:=.rop [.sl 49 (bg l),.sl 1 (fY l),.sl 1 (aL (pz l)),.sl 1 (aL (bH l l.length)),.sl 1 (ey (cn l l.length))]
def ox (l:List Nd) (k:Nat) (es ds:List Int) (bs:List Bool):List (Option HB):=some (.row 49 1 (aI (bg l)))::some (.row 1 0 (dU l k))::some (.row 1 0 (aI (aL es)))::some (.row 1 0 (aI (aL ds)))::some (.row 1 0 (aI (ey bs)))::some (.var [.row 0 1 l.length,.row 1 0 l.length,.row 2 0 l.length,.row 3 0 l.length,.row 4 0 l.length])::dI l k
theorem BD {l:List Nd} {k:Nat} {es ds:List Int} {bs:List Bool}:(ox l k es ds bs).length=l.length+6:=by simp [ox,kO]
theorem Je {l:List Nd} {k:Nat} {es ds:List Int} {bs:List Bool}:kD (mZ (l.length+6)) (ox l k es ds bs):=by
 refine ⟨fW,fun i x hx=>?_,fW,fW,fW,by simp [mZ,kE,mE],kD.of fun j x hx=>?_⟩
 ·obtain ⟨hl,rfl⟩:=List.getElem?_eq_some_iff.1 hx
  simp [sW] at hl
  simp [dU,kE,mE,hl]
 ·obtain ⟨hl,rfl⟩:=List.getElem?_eq_some_iff.1 hx
  exact ⟨.row 1 (aR l k j).length (aI (aL (bt (aR l k j)))),by simp [dI],fW⟩
theorem yw {l:List Nd} {k:Nat} {es ds:List Int} {bs:List Bool} {env env':List (Nat×U)} {C:List (Option HB)} (he:jG (l.length+6) env env'):cB 0 ⟨env,ox l k es ds bs++C⟩ ⟨env',ox l k es ds bs⟩:=
 uM (Nat.zero_le _) (by rw [BD];exact Je) (by rw [BD];exact he)
def cP (l:List Nd) (k:Nat):List Int:=(List.range l.length).map fun j=>if k≤j then (cZ l j:Int) else 0
theorem Al (l:List Nd) (k:Nat):(cP l k).length=l.length:=by simp [cP]
theorem An (l:List Nd):cP l l.length=List.replicate l.length 0:=by
 refine List.ext_getElem (by simp [cP]) (fun i h1 h2=>?_)
 simp [cP] at h1
 simp [cP];omega
theorem Ap (l:List Nd):cP l 0=pz l:=by simp [cP,pz]
theorem Am {l:List Nd} {k:Nat} (hk:0<k) (hl:k≤l.length):(cP l k).set (k - 1) (cZ l (k - 1))=cP l (k - 1):=by
 refine List.ext_getElem (by simp [cP]) (fun i h1 h2=>?_)
 simp -implicitDefEqProofs only [List.getElem_set,cP,List.getElem_map,List.getElem_range]
 by_cases h:k - 1=i
 ·subst h;simp
 ·rw [if_neg h]
  by_cases hi:k≤i
  ·rw [if_pos hi,if_pos (by omega)]
  ·rw [if_neg hi,if_neg (by omega)]
theorem Ak {l:List Nd} {k j:Nat} {v:Int} (hj:k≤j) (hk:0<k) (hl:j<l.length):((cP l k).set (k - 1) v).getD j 0=cZ l j:=by
 rw [List.getD_eq_getElem?_getD,List.getElem?_set_ne (by omega)]
 simp [cP,hl,hj]
theorem lD {τ:Nat→Option Nat} {h:Hp} {j e af len:Nat} {xs:List (List RV)} (hj:h j=some (.row e af (aI xs))) (fX:τ j=none) (hl:len=xs.length) (h1:∀ x∈xs,∀ r∈x,r.one=true):Fz τ h (.row j af len) (.sl e xs):=by
 have:=pH (τ:=τ) hj fX (len:=len) (by omega) h1
 rw [hl,List.take_length] at this
 rw [hl];exact this
theorem KJ (l:List Nd):Fz (fun _=>none) (ag (ox l l.length (pz l) (bH l l.length) (cn l l.length))) (.ptr 5 0) (cg l):=by
 refine .ptr 5 [.row 0 1 l.length,.row 1 0 l.length,.row 2 0 l.length,.row 3 0 l.length,.row 4 0 l.length] _ rfl rfl rfl (fun i r hr=>?_) (fun i x r hx hr=>?_)
 ·match i with
  | 0=>cases hr;rfl
  | 1=>cases hr;rfl
  | 2=>cases hr;rfl
  | 3=>cases hr;rfl
  | 4=>cases hr;rfl
  | i+5=>simp at hr
 ·match i with
  | 0=>cases hx;cases hr;exact lD rfl rfl (by simp [bg]) (vG l)
  | 1=>
    cases hx;cases hr
    refine .row 1 1 0 l.length (dU l l.length) (fY l) rfl rfl (by simp [fY]) (by rw [sW];exact Nat.le_refl _) (fun i x r hx hr=>?_) (fun i r k q hr hq=>?_) (fun i x r k y q hx hr hy hq=>?_)
    ·obtain ⟨_,rfl⟩:=List.getElem?_eq_some_iff.1 hx
     obtain ⟨_,rfl⟩:=List.getElem?_eq_some_iff.1 hr
     simp [dU,fY]
    ·obtain ⟨_,rfl⟩:=List.getElem?_eq_some_iff.1 hr
     have:=List.mem_of_getElem? hq
     simp [fY] at this
     rw [this];rfl
    ·obtain ⟨hl,rfl⟩:=List.getElem?_eq_some_iff.1 hx
     obtain ⟨_,rfl⟩:=List.getElem?_eq_some_iff.1 hr
     rw [sW] at hl
     cases k with
     | succ k=>simp [dU] at hy
     | zero=>
       simp [dU] at hy
       simp [fY] at hq
       subst hy;subst hq
       refine lD (xs:=aL (bt (dw l i))) ?_ rfl (by simp [aL,bt,dw]) (lO _)
       have:=yA (k:=l.length) (C:=[]) hl
       rw [List.append_nil] at this
       exact this
  | 2=>cases hx;cases hr;exact lD rfl rfl (by simp [aL,pz]) (lO _)
  | 3=>cases hx;cases hr;exact lD rfl rfl (by simp [aL,bH]) (lO _)
  | 4=>cases hx;cases hr;exact lD rfl rfl (by simp [ey,cn]) (zO _)
  | i+5=>simp at hx
theorem qP (x:Nd):(x.cells.map U.rv)[0]?=some (.rv (.bool x.s.shown)):=rfl
theorem NB (l:List Nd) (hb:l.length≤8589934592) (hc:fA l=0):aJ Go.Proofs.Try.prog 9 [.rv (.sl 49 (bg l))] [] [] (.aM [.rv (cg l),.rv (.int .i64 0)]):=by
 refine bz BS [.rv (.sl 49 (bg l))] _ (by simp) (by simp [aN,aW,bn,aT,bf,aj.sv,Ln.sv,Nd.sv]) (fun K hK=>?_)
 have hlen:=au l
 have mI:=DC l hb
 rw [hc] at mI
 have ht:cY l=true:=by
  unfold fA at hc
  cases h:cY l with
  | true=>rfl
  | false=>rw [h] at hc;simp at hc
 have hs:dN l:=tC.1 (by unfold cY at ht;simp -implicitDefEqProofs only [Bool.and_eq_true] at ht;exact ht.1)
 have nq:(((0:Int)) != 0)=false:=rfl
 conv in fc _ _ _ _=>reduce
 simp -implicitDefEqProofs only [go_sem,Int.reduceNegSucc]
 have jN:(bg l).length≤8589934592:=by rw [hlen];exact hb
 have bq:=mI;have y_2:=Dn (bg l) 0 jN;repeat' (first | (simp -implicitDefEqProofs only [go_sem,Int.reduceNegSucc,nq,hlen,wk,Dh]) | (with_reducible refine az ?_) | (with_reducible first | refine aC bq ?_ | refine aD bq ?_) | (refine cC y_2 ?_ ?_ ?_;(focus (simp [aZ,ag] <;> fail));(focus (simp [bp,bk] <;> fail))) | (refine dc y_2 ?_ ?_ ?_;(focus (simp [aZ,ag] <;> fail));(focus (simp [bp,bk] <;> fail))) | ((first | refine ai (fun hg=>?_) (fun hg=>?_) | refine aA (fun hg=>?_) (fun hg=>?_) | refine aB (fun hg=>?_) (fun hg=>?_)) <;> try simp -implicitDefEqProofs only [hg,Bool.not_true,Bool.not_false]) | ((with_reducible apply And.intro);focus (first | trivial | omega | decide | (simp -implicitDefEqProofs only [maxLen];omega) | (simp [maxLen,an,aq,au,ay,ak,ax,av] <;> omega))) | fail)
 have HT:∀ n:Nat,dU l 0=dn 6 l.length l.length:=fun _=>BK l
 let ev:Nat→List (Nat×U):=fun k=>[(33,.rv (.int .i64 k)),(32,.rv (.int .i64 l.length)),(31,.rv (.sl 49 (bg l))),(5,.ptr 5 0),(0,.rv (.sl 49 (bg l)))]
 refine cN (ι:=Nat) (fun k=>[(33,.rv (.int .i64 k)),(32,.rv (.int .i64 l.length)),(31,.rv (.sl 49 (bg l))),(5,.ptr 5 0),(0,.rv (.sl 49 (bg l)))]) (fun k=>some (.row 49 1 (aI (bg l)))::some (.row 1 0 (dU l k))::some (.row 1 0 (aI (aL (List.replicate l.length 0))))::some (.row 1 0 (aI (aL (bH l k))))::some (.row 1 0 (aI (ey (cn l k))))::some (.var [.row 0 1 l.length,.row 1 0 l.length,.row 2 0 l.length,.row 3 0 l.length,.row 4 0 l.length])::dI l k) (fun k=>k≤l.length) (fun k=>l.length - k) 0 (by simp) ?_ (fun k hk K' hN hX hR=>?_)
 ·refine (bw (env':=[(33,.rv (.int .i64 0)),(32,.rv (.int .i64 l.length)),(31,.rv (.sl 49 (bg l))),(5,.ptr 5 0),(0,.rv (.sl 49 (bg l)))]) (by simp [lk])).trans ?_
  rw [BK,Jm,xe,Cq]
  exact Ar (r:=1) (v:=0) (n:=l.length) (e:=1) rfl
 simp -implicitDefEqProofs only [go_sem,Int.reduceNegSucc]
 refine ai (fun hg=>?_) (fun hg=>?_)
 ·have aE:k<l.length:=by simp at hg;omega
  have hx:=fG aE
  have pV:=kO l k
  have fO:=qx l k
  have fN:=ak (bH l k)
  have mJ:=fE (l:=bH l k) (i:=k) (by omega)
  have hml:=Cp l k
  have kM:=ug (cn l k)
  have pP:=qq (bs:=cn l k) (i:=k) (by omega)
  have hsh:=zh aE
  have e1:(l.length=l.length+1)=False:=eq_false (by omega)
  have e2:(l.length=l.length+2)=False:=eq_false (by omega)
  have hds:=uI aE
  have pM:=xd aE
  have wu:=cu (k:=k) (by omega)
  by_cases cK:0<k
  ·have hgt:decide ((k:Int)>0)=true:=decide_eq_true (by omega)
   obtain ⟨p1,p2⟩:=hs.wf.2 k cK aE
   obtain ⟨p,hp⟩:∃ p:Nat,aX l k=p:=⟨(aX l k).toNat,by omega⟩
   have dS:p<l.length:=by omega
   have q0:(p=l.length)=False:=eq_false (by omega)
   have q1:(p=l.length+1)=False:=eq_false (by omega)
   have q2:(p=l.length+2)=False:=eq_false (by omega)
   have hpk:=lZ aE
   have HC:(bH l k).set k 1=(bH l k).set k 1:=rfl
   have pN:((bH l k).set k 1).length=l.length:=by simp [fO]
   have sx:=ak ((bH l k).set k 1)
   have mK:=fE (l:=(bH l k).set k 1) (i:=p) (by omega)
   have pL:=fE (l:=(bH l k).set k 1) (i:=k) (by omega)
   rw [xb (by omega) (by omega)] at mK
   have oc:=xg hs.wf cK aE
   rw [hp,Int.toNat_natCast] at oc
   have wd:=cu (k:=depth l p) (by have:=qU (l:=l) p;unfold depth;omega)
   rw [← oc] at wd
   obtain ⟨b,pU⟩:∃ b,mW l k=b:=⟨_,rfl⟩
   have hmp:=qq (bs:=(cn l k).set k b) (i:=p) (by simp [hml];omega)
   have hmk:=qq (bs:=(cn l k).set k b) (i:=k) (by simp [hml];omega)
   rw [Co (by omega) (by omega)] at hmp
   have sG:((cn l k).set k b).length=l.length:=by simp [hml]
   have sH:=ug ((cn l k).set k b)
   have ko:((cn l k).set k b).set k (b && jT l p)=cn l (k+1):=by
    have:=Cm hs.wf cK aE
    rw [hp,Int.toNat_natCast,pU] at this
    rw [List.set_set,← this,vB aE]
   have lH:=sW l k
   have lG:=BI (k:=k) dS
   have kn:=fun C=>yA (k:=k) (C:=C) dS
   have hkn:=Ji cK hp dS
   have sM:=Jq cK hp dS
   have hsp:=fun (y:Option HB) C=>Jk (k:=k) (y:=y) (C:=C) dS
   have fj:(bt (aR l k p)).length=(aR l k p).length:=by simp [bt]
   have lF:=ak (bt (aR l k p))
   have mQ:(aL (bt (aR l k p))).take (aR l k p).length=aL (bt (aR l k p)):=List.take_of_length_le (by rw [lF,fj];exact Nat.le_refl _)
   have hkk:=qM (l:=l) (k:=k) (p:=p)
   cases b
   all_goals simp -implicitDefEqProofs only [Bool.false_and,Bool.true_and] at ko
   ·repeat' (first | (simp -implicitDefEqProofs only [go_sem,Int.reduceNegSucc,hlen,hx,pV,aq,nE,Nat.add_assoc,yy,List.append_assoc,fO,fN,mJ,hml,kM,pP,ku,rj,qP,hsh,pU,e1,e2,yC,hgt,hpk,hp,qQ,lH,lG,kn,q0,q1,q2,hsp,BE,BG,fj,lF,mQ,ri,hkn,sM,pN,sx,mK,pL,wd,pM,wu,hmp,hmk,sG,sH]) | (with_reducible refine az ?_) | ((first | refine ai (fun hg=>?_) (fun hg=>?_) | refine aA (fun hg=>?_) (fun hg=>?_) | refine aB (fun hg=>?_) (fun hg=>?_)) <;> try simp -implicitDefEqProofs only [hg,Bool.not_true,Bool.not_false]) | ((with_reducible apply And.intro);focus (first | trivial | omega | decide | (simp -implicitDefEqProofs only [maxLen];omega) | (simp [maxLen,an,aq,au,ay,ak,ax,av] <;> omega) | (simp (decide:=true) [mG,nW,ki,nk,Nat.testBit,q0,q1,q2];done))) | fail)
    rw [ko]
    exact hN (k+1) _ _ (by omega) (by omega) (yw (l:=l) (k:=k+1) (by simp [jG,lk,nT,nS]))
   ·repeat' (first | (simp -implicitDefEqProofs only [go_sem,Int.reduceNegSucc,hlen,hx,pV,aq,nE,Nat.add_assoc,yy,List.append_assoc,fO,fN,mJ,hml,kM,pP,ku,rj,qP,hsh,pU,e1,e2,yC,hgt,hpk,hp,qQ,lH,lG,kn,q0,q1,q2,hsp,BE,BG,fj,lF,mQ,ri,hkn,sM,pN,sx,mK,pL,wd,pM,wu,hmp,hmk,sG,sH]) | (with_reducible refine az ?_) | ((first | refine ai (fun hg=>?_) (fun hg=>?_) | refine aA (fun hg=>?_) (fun hg=>?_) | refine aB (fun hg=>?_) (fun hg=>?_)) <;> try simp -implicitDefEqProofs only [hg,Bool.not_true,Bool.not_false]) | ((with_reducible apply And.intro);focus (first | trivial | omega | decide | (simp -implicitDefEqProofs only [maxLen];omega) | (simp [maxLen,an,aq,au,ay,ak,ax,av] <;> omega) | (simp (decide:=true) [mG,nW,ki,nk,Nat.testBit,q0,q1,q2];done))) | fail)
    rw [ko]
    exact hN (k+1) _ _ (by omega) (by omega) (yw (l:=l) (k:=k+1) (by simp [jG,lk,nT,nS]))
  ·obtain rfl:k=0:=by omega
   have hgt:decide (((0:Nat):Int)>0)=false:=rfl
   rw [xh] at hds
   have ko:=vB aE
   rw [Cn] at ko
   have xN:(bH l 0).set 0 1=bH l (0+1):=hds
   repeat' (first | (simp -implicitDefEqProofs only [go_sem,Int.reduceNegSucc,hlen,hx,pV,aq,nE,Nat.add_assoc,yy,List.append_assoc,fO,fN,mJ,hml,kM,pP,ku,rj,qP,hsh,e1,e2,yC,hgt,wu,ko,xN]) | (with_reducible refine az ?_) | ((first | refine ai (fun hg=>?_) (fun hg=>?_) | refine aA (fun hg=>?_) (fun hg=>?_) | refine aB (fun hg=>?_) (fun hg=>?_)) <;> try simp -implicitDefEqProofs only [hg,Bool.not_true,Bool.not_false]) | ((with_reducible apply And.intro);focus (first | trivial | omega | decide | (simp -implicitDefEqProofs only [maxLen];omega) | (simp [maxLen,an,aq,au,ay,ak,ax,av] <;> omega))) | fail)
   refine hN 1 _ _ (by omega) (by omega) ?_
   rw [Jo,Jg]
   exact yw (l:=l) (k:=0) (es:=List.replicate l.length 0) (ds:=bH l (0+1)) (bs:=cn l (0+1)) (C:=[some (.var ((l[0]'aE).cells.map .rv))]) (by simp [jG,lk,nT,nS])
 ·have aE:k=l.length:=by simp at hg;omega
  subst aE
  simp -implicitDefEqProofs only [go_sem,Int.reduceNegSucc]
  refine hX _ _ _ ?_
  have wl:=rD hs.pos (by omega)
  repeat' (first | (simp -implicitDefEqProofs only [go_sem,Int.reduceNegSucc,hlen,wl]) | (with_reducible refine az ?_) | ((first | refine ai (fun hg=>?_) (fun hg=>?_) | refine aA (fun hg=>?_) (fun hg=>?_) | refine aB (fun hg=>?_) (fun hg=>?_)) <;> try simp -implicitDefEqProofs only [hg,Bool.not_true,Bool.not_false]) | ((with_reducible apply And.intro);focus (first | trivial | omega | decide | (simp -implicitDefEqProofs only [maxLen];omega) | (simp [maxLen,an,aq,au,ay,ak,ax,av] <;> omega))) | fail)
  clear hN hX hR
  refine cN (ι:=Nat) (fun k=>[(8,.rv (.int .i64 ((k:Int) - 1))),(5,.ptr 5 0)]) (fun k=>ox l l.length (cP l k) (bH l l.length) (cn l l.length)) (fun k=>k≤l.length) (fun k=>k) l.length (Nat.le_refl _) (by rw [An];exact bw (by simp [lk];have:=hs.pos;omega)) (fun k hk K' hN hX hR=>?_)
  simp -implicitDefEqProofs only [ox,go_sem,Int.reduceNegSucc]
  refine ai (fun hg=>?_) (fun hg=>?_)
  ·have cK:0<k:=by simp at hg;omega
   obtain ⟨j,rfl⟩:∃ j,k=j+1:=⟨k - 1,by omega⟩
   have ej:(((j+1:Nat):Int) - 1)=(j:Int):=by omega
   have wj:=cu (k:=j) (by omega)
   have hjl:j<l.length:=by omega
   have hel:=Al l (j+1)
   have sA:=ak (cP l (j+1))
   have pO:=fE (l:=cP l (j+1)) (i:=j) (by omega)
   have lH:=sW l l.length
   have lG:=BI (k:=l.length) hjl
   have kn:=yA (k:=l.length) (C:=[]) hjl
   simp -implicitDefEqProofs only [List.append_nil] at kn
   have fj:(bt (aR l l.length j)).length=(aR l l.length j).length:=by simp [bt]
   have lF:=ak (bt (aR l l.length j))
   have hkk:=qM (l:=l) (k:=l.length) (p:=j)
   have kN:((cP l (j+1)).set j ((j+1:Nat):Int)).length=l.length:=by simp [hel]
   have yg:=ak ((cP l (j+1)).set j ((j+1:Nat):Int))
   have kr:=Am (l:=l) (k:=j+1) (by omega) (by omega)
   simp -implicitDefEqProofs only [Nat.add_sub_cancel] at kr
   have wd:IntKind.i64.wrap ((j:Int) - 1)=((j:Int) - 1):=wrap_i64 (by omega) (by omega)
   by_cases ct:aR l l.length j=[]
   ·have hm0:decide ((((aR l l.length j).length:Nat):Int)>0)=false:=by rw [ct];rfl
    have he:=xp ct
    rw [he] at kr
    repeat' (first | (simp -implicitDefEqProofs only [go_sem,Int.reduceNegSucc,hel,sA,pO,lH,lG,kn,ej,wj,hm0,ku,kr,wd]) | (with_reducible refine az ?_) | ((first | refine ai (fun hg=>?_) (fun hg=>?_) | refine aA (fun hg=>?_) (fun hg=>?_) | refine aB (fun hg=>?_) (fun hg=>?_)) <;> try simp -implicitDefEqProofs only [hg,Bool.not_true,Bool.not_false]) | ((with_reducible apply And.intro);focus (first | trivial | omega | decide | (simp -implicitDefEqProofs only [maxLen];omega) | (simp [maxLen,an,aq,au,ay,ak,ax,av] <;> omega))) | fail)
    refine hN j _ _ (by omega) (by omega) (bw (by simp [lk]))
   ·obtain ⟨c,hc⟩:∃ c,(aR l l.length j).getLast?=some c:=by
     cases h:(aR l l.length j).getLast? with
     | none=>exact absurd (List.getLast?_eq_none_iff.1 h) ct
     | some c=>exact ⟨c,rfl⟩
    have hpos:0<(aR l l.length j).length:=List.length_pos_iff.2 ct
    have hm0:decide ((((aR l l.length j).length:Nat):Int)>0)=true:=decide_eq_true (by omega)
    have sw:c∈dw l j:=List.mem_of_getLast? hc
    obtain ⟨c1,c2,c3⟩:=qO.1 sw
    have xI:j<c:=by have:=(hs.wf.2 c c1 c2).2;omega
    have he:=xo hc xI c2
    rw [he] at kr
    have wm:=rD hpos (by omega)
    have xH:(bt (aR l l.length j)).getD ((aR l l.length j).length - 1) 0=(c:Int):=by
     rw [List.getLast?_eq_getElem?] at hc
     simp [bt,List.getD_eq_getElem?_getD,hc]
    have eG:=fE (l:=bt (aR l l.length j)) (i:=(aR l l.length j).length - 1) (by omega)
    rw [xH] at eG
    have sy:=fE (l:=(cP l (j+1)).set j ((j+1:Nat):Int)) (i:=c) (by omega)
    have nw:=Ak (l:=l) (k:=j+1) (j:=c) (v:=((j+1:Nat):Int)) (by omega) (by omega) c2
    simp -implicitDefEqProofs only [Nat.add_sub_cancel] at nw
    rw [nw] at sy
    have xQ:=fE (l:=(cP l (j+1)).set j ((j+1:Nat):Int)) (i:=j) (by omega)
    have sK:((cP l (j+1)).set j ((j+1:Nat):Int)).set j (cZ l c)=cP l j:=by rw [List.set_set,kr]
    repeat' (first | (simp -implicitDefEqProofs only [go_sem,Int.reduceNegSucc,hel,sA,pO,lH,lG,kn,ej,wj,hm0,ku,wd,wm,eG,sy,xQ,sK,kN,yg,fj,lF]) | (with_reducible refine az ?_) | ((first | refine ai (fun hg=>?_) (fun hg=>?_) | refine aA (fun hg=>?_) (fun hg=>?_) | refine aB (fun hg=>?_) (fun hg=>?_)) <;> try simp -implicitDefEqProofs only [hg,Bool.not_true,Bool.not_false]) | ((with_reducible apply And.intro);focus (first | trivial | omega | decide | (simp -implicitDefEqProofs only [maxLen];omega) | (simp [maxLen,an,aq,au,ay,ak,ax,av] <;> omega))) | fail)
    refine hN j _ _ (by omega) (by omega) (bw (by simp [lk]))
  ·obtain rfl:k=0:=by simp at hg;omega
   simp -implicitDefEqProofs only [go_sem,Int.reduceNegSucc]
   refine hX _ _ _ ?_
   repeat' (first | (simp -implicitDefEqProofs only [go_sem,Int.reduceNegSucc]) | (with_reducible refine az ?_) | ((first | refine ai (fun hg=>?_) (fun hg=>?_) | refine aA (fun hg=>?_) (fun hg=>?_) | refine aB (fun hg=>?_) (fun hg=>?_)) <;> try simp -implicitDefEqProofs only [hg,Bool.not_true,Bool.not_false]) | ((with_reducible apply And.intro);focus (first | trivial | omega | decide | (simp -implicitDefEqProofs only [maxLen];omega) | (simp [maxLen,an,aq,au,ay,ak,ax,av] <;> omega))) | fail)
   refine (hK _ _ ?_).2
   rw [Ap]
   exact ⟨trivial,bN.2 ⟨.fz _ _ (KJ l),aQ.2 rfl,trivial⟩⟩
end Go.aH

namespace Go.aH
open Go
theorem BO:aV Go.Proofs.Try.prog 39 10 (fc Go.Proofs.Try.prog 39 10 [(.t 2)]) [(.t 2)]:=bl (by kernel_rfl)
theorem BR:aV Go.Proofs.Try.prog 24 13 (fc Go.Proofs.Try.prog 24 13 [(.t 4)]) [(.t 4)]:=bl (by kernel_rfl)
theorem Kb:aV Go.Proofs.Try.prog 40 18 (fc Go.Proofs.Try.prog 40 18 [(.c 4 48 true)]) [(.c 4 48 true)]:=bl (by kernel_rfl)
theorem BP:aV Go.Proofs.Try.prog 10 17 (fc Go.Proofs.Try.prog 10 17 [(.t 4)]) [(.t 4)]:=bl (by kernel_rfl)
theorem BQ:aV Go.Proofs.Try.prog 27 36 (fc Go.Proofs.Try.prog 27 36 [(.t 4)]) [(.t 4)]:=bl (by kernel_rfl)
def dH (l:List Nd) (n:Int):Bool:=decide (n≥0) && decide (n<l.length)
theorem sQ {l:List Nd} {n:Int} (h:dH l n=true):∃ k:Nat,n=k∧k<l.length:=by
 simp [dH] at h;exact ⟨n.toNat,by omega,by omega⟩
def cF (l:List Nd) (n:Int):aj:=if dH l n=true then (l.getD n.toNat default).s else default
def Pd (l:List Nd) (n:Int):Int:=if dH l n=true then aX l n.toNat else -1
def xm (l:List Nd) (n:Int):Int:=if dH l n=true then cZ l n.toNat else 0
def OG (l:List Nd) (n:Int):Int:=if dH l n=true then depth l n.toNat else 0
def fR (l:List Nd) (n:Int):Bool:=dH l n && jT l n.toNat
def vM (l:List Nd) (n:Int):Bool:=fR l n && decide (n>0) && (decide ((cF l n).position=2) || decide ((cF l n).position=3))
def OF (l:List Nd) (a n:Int):Bool:=dH l a && dH l n && decide (n≥a) && decide (n<xm l a)
theorem KH (l:List Nd):(fY l).length=l.length:=by simp [fY]
theorem KG {l:List Nd} {k:Nat} (h:k<l.length):(fY l)[k]?.getD []=[.sl 1 (aL (bt (dw l k)))]:=by simp [fY,h]
theorem Lm (l:List Nd):(ey (cn l l.length)).length=l.length:=by simp [ey,cn]
theorem Ll {l:List Nd} {k:Nat} (h:k<l.length):(ey (cn l l.length))[k]?.getD []=[.bool (jT l k)]:=by simp [ey,cn,h]
theorem za {τ:Nat→Option Nat} {h:List (Option HB)} {env:List (Nat×U)} {a n id:Nat} {rs:List RV} (hl:lk env a = .ptr id 0) (hh:ag h id=some (.var (rs.map .rv))) (hn:rs.length=n):bB τ (ag h) (.agg (rs.map .rv)) (br (lk env) (ag h) [.c a n true]):=by
 simp [br,bB,bJ,hl,dK,hh,hn]
 rw [List.take_of_length_le (by simp [hn])];exact aU.2 (cL.2 rfl)
section
variable (l:List Nd) (hb:l.length≤8589934592) (n:Int)
theorem Ni:aJ Go.Proofs.Try.prog 39 [.rv (cg l)] [] [] (.rv (.int .i64 l.length)):=by
 refine bz BO [.rv (cg l)] _ (by simp) (by simp [aN,aW,bn,aT,bf,aj.sv,Ln.sv,Nd.sv]) (fun K hK=>?_)
 conv in fc _ _ _ _=>reduce
 simp -implicitDefEqProofs only [go_sem,Int.reduceNegSucc]
 repeat' (first | (simp -implicitDefEqProofs only [go_sem,Int.reduceNegSucc,au,cg]) | (with_reducible refine az ?_) | ((first | refine ai (fun hg=>?_) (fun hg=>?_) | refine aA (fun hg=>?_) (fun hg=>?_) | refine aB (fun hg=>?_) (fun hg=>?_)) <;> try simp -implicitDefEqProofs only [hg,Bool.not_true,Bool.not_false]) | ((with_reducible apply And.intro);focus (first | trivial | omega | decide | (simp -implicitDefEqProofs only [maxLen];omega) | (simp [maxLen,an,aq,au,ay,ak,ax,av] <;> omega))) | fail)
 exact (hK _ _ (bM rfl)).2
theorem zk:aJ Go.Proofs.Try.prog 24 [.rv (cg l),.rv (.int .i64 n)] [] [] (.rv (.bool (dH l n))):=by
 refine bz BR [.rv (cg l),.rv (.int .i64 n)] _ (by simp) (by simp [aN,aW,bn,aT,bf,aj.sv,Ln.sv,Nd.sv]) (fun K hK=>?_)
 conv in fc _ _ _ _=>reduce
 simp -implicitDefEqProofs only [go_sem,Int.reduceNegSucc]
 have bq:=Ni l;repeat' (first | (simp -implicitDefEqProofs only [go_sem,Int.reduceNegSucc]) | (with_reducible refine az ?_) | (with_reducible first | refine aC bq ?_ | refine aD bq ?_) | ((first | refine ai (fun hg=>?_) (fun hg=>?_) | refine aA (fun hg=>?_) (fun hg=>?_) | refine aB (fun hg=>?_) (fun hg=>?_)) <;> try simp -implicitDefEqProofs only [hg,Bool.not_true,Bool.not_false]) | ((with_reducible apply And.intro);focus (first | trivial | omega | decide | (simp -implicitDefEqProofs only [maxLen];omega) | (simp [maxLen,an,aq,au,ay,ak,ax,av] <;> omega))) | fail)
 all_goals (try ((first | refine (hK _ _ _ _ [] (dh _ _) ?_).2 | refine (hK _ _ ?_).2 | refine (hK _ _ _ _ [] (dh _ _) ?_).1 | refine (hK _ _ ?_).1 | fail);clear hK;(simp_all [dx,bL,newL,dB,di,bB,br,lk,bJ,cG,cR,cJ,dR,dQ,ag,dy,bN,aQ,cW,dz,ek,aU,eg,aP,cX,cL,bY,dH]) <;> try omega))
theorem Dq:aJ Go.Proofs.Try.prog 40 [.rv (cg l),.rv (.int .i64 n)] [] [] (cF l n).sv:=by
 refine bz Kb [.rv (cg l),.rv (.int .i64 n)] _ (by simp) (by simp [aN,aW,bn,aT,bf,aj.sv,Ln.sv,Nd.sv]) (fun K hK=>?_)
 have hh:=zk l n
 conv in fc _ _ _ _=>reduce
 simp -implicitDefEqProofs only [go_sem,Int.reduceNegSucc]
 cases hi:dH l n with
 | false=>
   rw [hi] at hh
   have y_2:=hh;repeat' (first | (simp -implicitDefEqProofs only [go_sem,Int.reduceNegSucc]) | (with_reducible refine az ?_) | (with_reducible first | refine aC y_2 ?_ | refine aD y_2 ?_) | ((first | refine ai (fun hg=>?_) (fun hg=>?_) | refine aA (fun hg=>?_) (fun hg=>?_) | refine aB (fun hg=>?_) (fun hg=>?_)) <;> try simp -implicitDefEqProofs only [hg,Bool.not_true,Bool.not_false]) | ((with_reducible apply And.intro);focus (first | trivial | omega | decide | (simp -implicitDefEqProofs only [maxLen];omega) | (simp [maxLen,an,aq,au,ay,ak,ax,av] <;> omega) | (rfl;done) | (exact ⟨rfl,by decide⟩;done))) | fail)
   have yf:cF l n=default:=by simp [cF,hi]
   rw [yf] at hK
   exact (hK _ _ (za rfl rfl rfl)).2
 | true=>
   rw [hi] at hh
   obtain ⟨k,rfl,hk⟩:=sQ hi
   have hx:=fG hk
   have hlen:=au l
   have bP:=hh;repeat' (first | (simp -implicitDefEqProofs only [go_sem,Int.reduceNegSucc,hx,hlen,aq,an,th,cg]) | (with_reducible refine az ?_) | (with_reducible first | refine aC bP ?_ | refine aD bP ?_) | ((first | refine ai (fun hg=>?_) (fun hg=>?_) | refine aA (fun hg=>?_) (fun hg=>?_) | refine aB (fun hg=>?_) (fun hg=>?_)) <;> try simp -implicitDefEqProofs only [hg,Bool.not_true,Bool.not_false]) | ((with_reducible apply And.intro);focus (first | trivial | omega | decide | (simp -implicitDefEqProofs only [maxLen];omega) | (simp [maxLen,an,aq,au,ay,ak,ax,av] <;> omega))) | fail)
   have yf:cF l k=(l[k]'hk).s:=by simp [cF,hi,hk]
   rw [yf] at hK
   exact (hK _ _ (za rfl rfl rfl)).2
theorem zj:aJ Go.Proofs.Try.prog 10 [.rv (cg l),.rv (.int .i64 n)] [] [] (.rv (.bool (fR l n))):=by
 refine bz BP [.rv (cg l),.rv (.int .i64 n)] _ (by simp) (by simp [aN,aW,bn,aT,bf,aj.sv,Ln.sv,Nd.sv]) (fun K hK=>?_)
 have hh:=zk l n
 conv in fc _ _ _ _=>reduce
 simp -implicitDefEqProofs only [go_sem,Int.reduceNegSucc]
 cases hi:dH l n with
 | false=>
   rw [hi] at hh
   have bW:=hh;repeat' (first | (simp -implicitDefEqProofs only [go_sem,Int.reduceNegSucc]) | (with_reducible refine az ?_) | (with_reducible first | refine aC bW ?_ | refine aD bW ?_) | ((first | refine ai (fun hg=>?_) (fun hg=>?_) | refine aA (fun hg=>?_) (fun hg=>?_) | refine aB (fun hg=>?_) (fun hg=>?_)) <;> try simp -implicitDefEqProofs only [hg,Bool.not_true,Bool.not_false]) | ((with_reducible apply And.intro);focus (first | trivial | omega | decide | (simp -implicitDefEqProofs only [maxLen];omega) | (simp [maxLen,an,aq,au,ay,ak,ax,av] <;> omega))) | fail)
   exact (hK _ _ (bM (by simp [fR,hi,lk]))).2
 | true=>
   rw [hi] at hh
   obtain ⟨k,rfl,hk⟩:=sQ hi
   have cr:=hh;repeat' (first | (simp -implicitDefEqProofs only [go_sem,Int.reduceNegSucc,Lm,Ll hk,cg]) | (with_reducible refine az ?_) | (with_reducible first | refine aC cr ?_ | refine aD cr ?_) | ((first | refine ai (fun hg=>?_) (fun hg=>?_) | refine aA (fun hg=>?_) (fun hg=>?_) | refine aB (fun hg=>?_) (fun hg=>?_)) <;> try simp -implicitDefEqProofs only [hg,Bool.not_true,Bool.not_false]) | ((with_reducible apply And.intro);focus (first | trivial | omega | decide | (simp -implicitDefEqProofs only [maxLen];omega) | (simp [maxLen,an,aq,au,ay,ak,ax,av] <;> omega))) | fail)
   exact (hK _ _ (bM (by simp [fR,hi,lk]))).2
theorem Nk:aJ Go.Proofs.Try.prog 27 [.rv (cg l),.rv (.int .i64 n)] [] [] (.rv (.bool (vM l n))):=by
 refine bz BQ [.rv (cg l),.rv (.int .i64 n)] _ (by simp) (by simp [aN,aW,bn,aT,bf,aj.sv,Ln.sv,Nd.sv]) (fun K hK=>?_)
 have hh:=zj l n
 conv in fc _ _ _ _=>reduce
 simp -implicitDefEqProofs only [go_sem,Int.reduceNegSucc]
 cases hi:fR l n with
 | false=>
   rw [hi] at hh
   have cA:=hh;repeat' (first | (simp -implicitDefEqProofs only [go_sem,Int.reduceNegSucc]) | (with_reducible refine az ?_) | (with_reducible first | refine aC cA ?_ | refine aD cA ?_) | ((first | refine ai (fun hg=>?_) (fun hg=>?_) | refine aA (fun hg=>?_) (fun hg=>?_) | refine aB (fun hg=>?_) (fun hg=>?_)) <;> try simp -implicitDefEqProofs only [hg,Bool.not_true,Bool.not_false]) | ((with_reducible apply And.intro);focus (first | trivial | omega | decide | (simp -implicitDefEqProofs only [maxLen];omega) | (simp [maxLen,an,aq,au,ay,ak,ax,av] <;> omega))) | fail)
   exact (hK _ _ (bM (by simp [vM,hi,lk]))).2
 | true=>
   rw [hi] at hh
   have hin:dH l n=true:=by simp [fR] at hi;exact hi.1
   obtain ⟨k,rfl,hk⟩:=sQ hin
   have hx:=fG hk
   have hlen:=au l
   have hs:cF l k=(l[k]'hk).s:=by simp [cF,hin,hk]
   have hp:((l[k]'hk).cells.drop 1)[0]?=some (.int .i64 (l[k]'hk).s.position):=rfl
   have cT:=hh;repeat' (first | (simp -implicitDefEqProofs only [go_sem,Int.reduceNegSucc,hx,hlen,aq,cg,hp]) | (with_reducible refine az ?_) | (with_reducible first | refine aC cT ?_ | refine aD cT ?_) | ((first | refine ai (fun hg=>?_) (fun hg=>?_) | refine aA (fun hg=>?_) (fun hg=>?_) | refine aB (fun hg=>?_) (fun hg=>?_)) <;> try simp -implicitDefEqProofs only [hg,Bool.not_true,Bool.not_false]) | ((with_reducible apply And.intro);focus (first | trivial | omega | decide | (simp -implicitDefEqProofs only [maxLen];omega) | (simp [maxLen,an,aq,au,ay,ak,ax,av] <;> omega))) | fail)
   all_goals (refine (hK _ _ (bM ?_)).2;rw [vM,hi,hs];clear hK hs hp;simp_all [lk,bY])
end
end Go.aH

namespace Go.aH
open Go
theorem Ka:aV Go.Proofs.Try.prog 71 17 (fc Go.Proofs.Try.prog 71 17 [(.t 4)]) [(.t 4)]:=bl (by kernel_rfl)
theorem JY:aV Go.Proofs.Try.prog 48 10 (fc Go.Proofs.Try.prog 48 10 [(.t 4)]) [(.t 4)]:=bl (by kernel_rfl)
theorem JZ:aV Go.Proofs.Try.prog 72 13 (fc Go.Proofs.Try.prog 72 13 [(.t 3)]) [(.t 3)]:=bl (by kernel_rfl)
theorem Kn:aV Go.Proofs.Try.prog 88 19 (fc Go.Proofs.Try.prog 88 19 [(.t 4)]) [(.t 4)]:=bl (by kernel_rfl)
theorem Kl:aV Go.Proofs.Try.prog 70 42 (fc Go.Proofs.Try.prog 70 42 [(.t 4)]) [(.t 4)]:=bl (by kernel_rfl)
def eH (l:List Nd) (n:Int):List Nat:=if dH l n=true then dw l n.toNat else []
def Pf (l:List Nd) (n:Int):List Nat:=if dH l n=true then (aO l n.toNat).drop 1 else []
def kX (l:List Nd) (m:Int):Bool:=fR l m && !vM l m
def cH (l:List Nd) (n:Int):List Nat:=(eH l n).filter fun (m:Nat)=>kX l m
theorem Lu (l:List Nat):(bt l).length=l.length:=by simp [bt]
theorem BY (l:List Nd) (n:Int):(eH l n).length≤l.length:=by
 unfold eH;split
 ·exact qM
 ·simp
section
variable (l:List Nd) (hb:l.length≤8589934592) (n:Int)
theorem Nh (m:Nat) (hb:l.length≤8589934592):aJ Go.Proofs.Try.prog 71 [.rv (cg l),.rv (.int .i64 n)] [] [(m,.row 1 1 (aI (aL (bt (eH l n)))))] (.row m 1 (eH l n).length):=by
 refine kF Ka [] [] [] [.rv (cg l),.rv (.int .i64 n)] [.rv (cg l),.rv (.int .i64 n)] _ _ (by simp) (by simp [aN,aT]) rfl (by simp [bL]) (by simp [dg]) (fun K hK=>?_)
 have hh:=zk l n
 conv in fc _ _ _ _=>reduce
 simp -implicitDefEqProofs only [go_sem,Int.reduceNegSucc]
 cases hi:dH l n with
 | false=>
   rw [hi] at hh
   have cK:eH l n=[]:=by simp [eH,hi]
   have bq:=hh;repeat' (first | (simp -implicitDefEqProofs only [go_sem,Int.reduceNegSucc]) | (with_reducible refine az ?_) | (with_reducible first | refine aC bq ?_ | refine aD bq ?_) | ((first | refine ai (fun hg=>?_) (fun hg=>?_) | refine aA (fun hg=>?_) (fun hg=>?_) | refine aB (fun hg=>?_) (fun hg=>?_)) <;> try simp -implicitDefEqProofs only [hg,Bool.not_true,Bool.not_false]) | ((with_reducible apply And.intro);focus (first | trivial | omega | decide | (simp -implicitDefEqProofs only [maxLen];omega) | (simp [maxLen,an,aq,au,ay,ak,ax,av] <;> omega))) | fail)
   refine (hK _ _ _ _ [some m] (rY 4 1 1 rfl) ?_).2
   rw [cK]
   simp [dx,bL,newL,dB,di,bB,br,lk,bJ,cG,cR,cJ,dR,dQ,ag,dy,bN,aQ,cW,dz,ek,aU,eg,aP,cX,cL]
   exact ⟨by simp [aI,aL,bt],fun i x y hx=>by simp at hx⟩
 | true=>
   rw [hi] at hh
   obtain ⟨k,rfl,hk⟩:=sQ hi
   have cK:eH l k=dw l k:=by simp [eH,hi]
   have fj:=qM (l:=l) (k:=l.length) (p:=k)
   have hlen:(aL (bt (dw l k))).length=(dw l k).length:=by simp [aL,bt]
   have hlb:(aL (bt (dw l k))).length≤8589934592:=by rw [hlen];unfold dw;omega
   have HS:=KG hk
   have y_2:=hh;have bP:=MU (aL (bt (dw l k))) 0 hlb;repeat' (first | (simp -implicitDefEqProofs only [go_sem,Int.reduceNegSucc,KH,HS,cg]) | (with_reducible refine az ?_) | (with_reducible first | refine aC y_2 ?_ | refine aD y_2 ?_) | (refine cC bP ?_ ?_ ?_;(focus (simp [aZ,ag] <;> fail));(focus (simp [bp,bk] <;> fail))) | (refine dc bP ?_ ?_ ?_;(focus (simp [aZ,ag] <;> fail));(focus (simp [bp,bk] <;> fail))) | ((first | refine ai (fun hg=>?_) (fun hg=>?_) | refine aA (fun hg=>?_) (fun hg=>?_) | refine aB (fun hg=>?_) (fun hg=>?_)) <;> try simp -implicitDefEqProofs only [hg,Bool.not_true,Bool.not_false]) | ((with_reducible apply And.intro);focus (first | trivial | omega | decide | (simp -implicitDefEqProofs only [maxLen];omega) | (simp [maxLen,an,aq,au,ay,ak,ax,av] <;> omega))) | fail)
   refine (hK _ _ _ _ [some m] (dh _ _) ?_).2
   rw [cK]
   simp [dx,bL,newL,dB,di,bB,br,lk,bJ,cG,cR,cJ,dR,dQ,ag,dy,bN,aQ,cW,dz,ek,aU,eg,aP,cX,cL,hlen]
theorem Nb (m:Int) (j:Nat):aJ Go.Proofs.Try.prog 72 [.rv (.int .i64 m),.ptr j 0] [(j,.var [.rv (cg l)])] [] (.rv (.bool (!kX l m))):=by
 refine kF JZ [j] [.var [.rv (cg l)]] [.var [.rv (cg l)]] [.rv (.int .i64 m),.ptr 0 0] [.rv (.int .i64 m),.ptr j 0] _ _ (by simp) (by simp [aN,fV,fL,aT,aW,lq,bf,lu,lp,dg,kW,bL]) rfl (by simp [bL]) (by simp [aN,fV,fL,aT,aW,lq,bf,lu,lp,dg,kW,bL]) (fun K hK=>?_)
 conv in fc _ _ _ _=>reduce
 simp -implicitDefEqProofs only [go_sem,Int.reduceNegSucc]
 have bV:=zj l m;have cq:=Nk l m;repeat' (first | (simp -implicitDefEqProofs only [go_sem,Int.reduceNegSucc]) | (with_reducible refine az ?_) | (with_reducible first | refine aC bV ?_ | refine aD bV ?_) | (with_reducible first | refine aC cq ?_ | refine aD cq ?_) | ((first | refine ai (fun hg=>?_) (fun hg=>?_) | refine aA (fun hg=>?_) (fun hg=>?_) | refine aB (fun hg=>?_) (fun hg=>?_)) <;> try simp -implicitDefEqProofs only [hg,Bool.not_true,Bool.not_false]) | ((with_reducible apply And.intro);focus (first | trivial | omega | decide | (simp -implicitDefEqProofs only [maxLen];omega) | (simp [maxLen,an,aq,au,ay,ak,ax,av] <;> omega))) | fail)
 all_goals (refine (hK _ _ _ _ [] (dh _ _) ?_).2;clear hK;simp_all [dx,bL,newL,dB,di,bB,br,lk,bJ,cG,cR,cJ,dR,dQ,ag,dy,bN,aQ,cW,dz,ek,aU,eg,aP,cX,cL,kX])
end
section
variable (f:Nat) (i j v:Nat) (cap:RV) (p:Int→Bool) (hij:i≠j) (hf:∀ (m:Int) (j:Nat),aJ Go.Proofs.Try.prog f [.rv (.int .i64 m),.ptr j 0] [(j,.var [.rv cap])] [] (.rv (.bool (p m))))
include hij hf
theorem Nf (ys:List Int) (hb:ys.length≤8589934592) :
 aJ Go.Proofs.Try.prog 88 [.row i v ys.length,.fn f [.ptr j 0]] [(i,.row 1 v (aI (aL ys))),(j,.var [.rv cap])] [] (.rv (.int .i64 (match ys.findIdx? p with | some k=>((k:Nat):Int) | none=>-1))):=by
 refine um Kn [i,j] [.row 1 v (aI (aL ys)),.var [.rv cap]] [.row 1 v (aI (aL ys)),.var [.rv cap]] [.row 0 v ys.length,.fn f [.ptr 1 0]] [.row i v ys.length,.fn f [.ptr j 0]] _ _ (by simp) (by simp [aN,fL,bf,fV]) rfl (by simp [bL,hij]) rfl (zD zM (wO (by simp [aN,fV,fL,aT,aW,lq,bf,lu,lp,dg,kW,bL]))) (fun K hK=>?_)
 have hlen:=ak ys
 conv in fc _ _ _ _=>reduce
 simp -implicitDefEqProofs only [go_sem,Int.reduceNegSucc]
 refine cN (ι:=Nat) (fun k=>[(8,.rv (.int .i64 k)),(7,.rv (.int .i64 ys.length)),(0,.row 0 v ys.length),(1,.fn f [.ptr 1 0])]) (fun _=>[some (.row 1 v (aI (aL ys))),some (.var [.rv cap])]) (fun k=>k≤ys.length∧∀ j,(h:j<ys.length)→j<k→p (ys[j]'h)=false) (fun k=>ys.length - k) 0 (by simp) (bw (by simp [lk])) (fun k hk K' hN hX hR=>?_)
 obtain ⟨ct,hk2⟩:=hk
 simp -implicitDefEqProofs only [go_sem,Int.reduceNegSucc]
 refine ai (fun hg=>?_) (fun hg=>?_)
 ·have aE:k<ys.length:=by simp at hg;omega
  have hx:=ov aE
  have bW:=hf (ys[k]'aE) 1;repeat' (first | (simp -implicitDefEqProofs only [go_sem,Int.reduceNegSucc,hlen,hx]) | (with_reducible refine az ?_) | (refine cC bW ?_ ?_ ?_;(focus (simp [aZ,ag] <;> fail));(focus (simp [bp,bk] <;> fail))) | (refine dc bW ?_ ?_ ?_;(focus (simp [aZ,ag] <;> fail));(focus (simp [bp,bk] <;> fail))) | ((first | refine ai (fun hg=>?_) (fun hg=>?_) | refine aA (fun hg=>?_) (fun hg=>?_) | refine aB (fun hg=>?_) (fun hg=>?_)) <;> try simp -implicitDefEqProofs only [hg,Bool.not_true,Bool.not_false]) | ((with_reducible apply And.intro);focus (first | trivial | omega | decide | (simp -implicitDefEqProofs only [maxLen];omega) | (simp [maxLen,an,aq,au,ay,ak,ax,av] <;> omega))) | fail)
  ·refine hR _ _ (hK _ _ _ _ [] (dh _ _) ?_).2
   have:ys.findIdx? p=some k:=by
    rw [List.findIdx?_eq_some_iff_getElem]
    exact ⟨aE,by simpa using hg,fun j hj=>by rw [hk2 j (by omega) hj];simp⟩
   rw [this]
   simp [dx,bL,newL,dB,di,bB,br,lk,bJ,cG,cR,cJ,dR,dQ,ag,dy,bN,aQ,cW,dz,ek,aU,eg,aP,cX,cL,hij,Ne.symm hij]
  ·rw [cu (by omega)]
   refine hN (k+1) _ _ ⟨by omega,fun j hj hji=>?_⟩ (by omega) (bw (by simp [lk]))
   rcases Nat.lt_or_ge j k with h | h
   ·exact hk2 j hj h
   ·obtain rfl:j=k:=by omega
    simpa using hg
 ·have aE:k=ys.length:=by simp at hg;omega
  subst aE
  simp -implicitDefEqProofs only [go_sem,Int.reduceNegSucc]
  refine hX _ _ _ ?_
  repeat' (first | (simp -implicitDefEqProofs only [go_sem,Int.reduceNegSucc]) | (with_reducible refine az ?_) | ((first | refine ai (fun hg=>?_) (fun hg=>?_) | refine aA (fun hg=>?_) (fun hg=>?_) | refine aB (fun hg=>?_) (fun hg=>?_)) <;> try simp -implicitDefEqProofs only [hg,Bool.not_true,Bool.not_false]) | ((with_reducible apply And.intro);focus (first | trivial | omega | decide | (simp -implicitDefEqProofs only [maxLen];omega) | (simp [maxLen,an,aq,au,ay,ak,ax,av] <;> omega))) | fail)
  refine (hK _ _ _ _ [] (dh _ _) ?_).2
  have:ys.findIdx? p=none:=by
   rw [List.findIdx?_eq_none_iff]
   intro x hx
   obtain ⟨j,hj,rfl⟩:=List.getElem_of_mem hx
   exact hk2 j hj hj
  rw [this]
  simp [dx,bL,newL,dB,di,bB,br,lk,bJ,cG,cR,cJ,dR,dQ,ag,dy,bN,aQ,cW,dz,ek,aU,eg,aP,cX,cL,hij,Ne.symm hij]
def dW (ys:List Int) (p:Int→Bool):List Int:=ys.filter fun y=>!p y
def mF (ys:List Int) (p:Int→Bool):List Int:=dW ys p++List.replicate (ys.length - (dW ys p).length) 0
theorem MY (ys:List Int) (hb:ys.length≤8589934592) :
 aJ Go.Proofs.Try.prog 70 [.row i v ys.length,.fn f [.ptr j 0]] [(i,.row 1 v (aI (aL ys))),(j,.var [.rv cap])] [(i,.row 1 v (aI (aL (mF ys p))))] (.row i v (dW ys p).length):=by
 refine um Kl [i,j] [.row 1 v (aI (aL ys)),.var [.rv cap]] [.row 1 v (aI (aL ys)),.var [.rv cap]] [.row 0 v ys.length,.fn f [.ptr 1 0]] [.row i v ys.length,.fn f [.ptr j 0]] _ _ (by simp) (by simp [aN,fL,bf,fV]) rfl (by simp [bL,hij]) rfl (zD zM (wO (by simp [aN,fV,fL,aT,aW,lq,bf,lu,lp,dg,kW,bL]))) (fun K hK=>?_)
 have vf:=Nf f 0 1 v cap p (by decide) hf ys hb
 conv in fc _ _ _ _=>reduce
 simp -implicitDefEqProofs only [go_sem,Int.reduceNegSucc]
 cases ny:ys.findIdx? p with
 | none=>
   rw [ny] at vf
   have hno:dW ys p=ys:=by
    rw [List.findIdx?_eq_none_iff] at ny
    exact List.filter_eq_self.2 fun a ha=>by rw [ny a ha];rfl
   have e1:((-1:Int) == -1)=true:=rfl
   have cr:=vf;repeat' (first | (simp -implicitDefEqProofs only [go_sem,Int.reduceNegSucc,e1]) | (with_reducible refine az ?_) | (refine cC cr ?_ ?_ ?_;(focus (simp [aZ,ag] <;> fail));(focus (simp [bp,bk] <;> fail))) | (refine dc cr ?_ ?_ ?_;(focus (simp [aZ,ag] <;> fail));(focus (simp [bp,bk] <;> fail))) | ((first | refine ai (fun hg=>?_) (fun hg=>?_) | refine aA (fun hg=>?_) (fun hg=>?_) | refine aB (fun hg=>?_) (fun hg=>?_)) <;> try simp -implicitDefEqProofs only [hg,Bool.not_true,Bool.not_false]) | ((with_reducible apply And.intro);focus (first | trivial | omega | decide | (simp -implicitDefEqProofs only [maxLen];omega) | (simp [maxLen,an,aq,au,ay,ak,ax,av] <;> omega))) | fail)
   refine (hK _ _ _ _ [] (dh _ _) ?_).2
   simp [dx,bL,newL,dB,di,bB,br,lk,bJ,cG,cR,cJ,dR,dQ,ag,dy,bN,aQ,cW,dz,ek,aU,eg,aP,cX,cL,hij,Ne.symm hij,hno,mF]
 | some k0=>
   rw [ny] at vf
   rw [List.findIdx?_eq_some_iff_getElem] at ny
   obtain ⟨cK,eP,pS⟩:=ny
   have e1:(((k0:Nat):Int) == -1)=false:=by simp
   have w0:=cu (k:=k0) (by omega)
   have cA:=vf;repeat' (first | (simp -implicitDefEqProofs only [go_sem,Int.reduceNegSucc,e1,w0]) | (with_reducible refine az ?_) | (refine cC cA ?_ ?_ ?_;(focus (simp [aZ,ag] <;> fail));(focus (simp [bp,bk] <;> fail))) | (refine dc cA ?_ ?_ ?_;(focus (simp [aZ,ag] <;> fail));(focus (simp [bp,bk] <;> fail))) | ((first | refine ai (fun hg=>?_) (fun hg=>?_) | refine aA (fun hg=>?_) (fun hg=>?_) | refine aB (fun hg=>?_) (fun hg=>?_)) <;> try simp -implicitDefEqProofs only [hg,Bool.not_true,Bool.not_false]) | ((with_reducible apply And.intro);focus (first | trivial | omega | decide | (simp -implicitDefEqProofs only [maxLen];omega) | (simp [maxLen,an,aq,au,ay,ak,ax,av] <;> omega))) | fail)
   let kept:Nat→List Int:=fun j=>dW (ys.take j) p
   have KF:∀ j,(kept j).length≤j:=fun j=>by
    have:=List.length_filter_le (fun y=>!p y) (ys.take j)
    simp -implicitDefEqProofs only [List.length_take] at this
    show (dW (ys.take j) p).length≤j
    unfold dW;omega
   have BX:∀ j (h:j<ys.length),kept (j+1)=kept j++if p (ys[j]'h)=true then [] else [ys[j]'h]:=fun j h=>by
    show dW _ _=dW _ _++_
    rw [List.take_succ_eq_append_getElem h]
    unfold dW
    rw [List.filter_append]
    cases fP:p (ys[j]'h) <;> simp [fP]
   have KE:kept k0=ys.take k0:=List.filter_eq_self.2 fun a ha=>by
    obtain ⟨q,hq,rfl⟩:=List.getElem_of_mem ha
    have Ii:q<k0:=by simp at hq;omega
    have:=pS q Ii
    simp -implicitDefEqProofs only [Bool.not_eq_true] at this
    simp [this]
   have yE:kept (k0+1)=ys.take k0:=by rw [BX k0 cK,KE,eP];simp
   refine cN (ι:=List Int×Nat) (fun q=>[(6,.rv (.int .i64 q.2)),(5,.rv (.int .i64 (kept q.2).length)),(0,.row 0 v ys.length),(1,.fn f [.ptr 1 0])]) (fun q=>[some (.row 1 v (aI (aL q.1))),some (.var [.rv cap])]) (fun q=>q.1.length=ys.length∧q.2≤ys.length∧(kept q.2).length<q.2∧q.1.take (kept q.2).length=kept q.2∧q.1.drop q.2=ys.drop q.2) (fun q=>ys.length - q.2) (ys,k0+1) ⟨rfl,cK,?_,?_,rfl⟩ (bw ?_) (fun q hq K' hN hX hR=>?_)
   ·show (kept (k0+1)).length<k0+1
    rw [yE];simp;omega
   ·show ys.take (kept (k0+1)).length=kept (k0+1)
    rw [yE];simp
   ·have:(kept (k0+1)).length=k0:=by rw [yE];simp;omega
    simp [lk,this]
   obtain ⟨zs,j⟩:=q
   obtain ⟨q1,q2,q3,q4,q5⟩:=hq
   dsimp only at q1 q2 q3 q4 q5 ⊢
   simp -implicitDefEqProofs only [go_sem,Int.reduceNegSucc]
   refine ai (fun hg=>?_) (fun hg=>?_)
   ·have hj:j<ys.length:=by simp at hg;omega
    have xU:zs[j]'(by omega)=ys[j]'hj:=by
     have h1:=List.getElem_drop (xs:=zs) (i:=j) (j:=0) (h:=by simp;omega)
     have h2:=List.getElem_drop (xs:=ys) (i:=j) (j:=0) (h:=by simp;omega)
     simp -implicitDefEqProofs only [Nat.add_zero] at h1 h2
     rw [← h1,← h2]
     congr 1
    have hx:=ov (l:=zs) (i:=j) (by omega)
    rw [xU] at hx
    have hzl:=ak zs
    have mP:=BX j hj
    have wj:=cu (k:=j) (by omega)
    have wi:=cu (k:=(kept j).length) (by omega)
    have eS:=ov (l:=zs) (i:=(kept j).length) (by omega)
    have cT:=hf (ys[j]'hj) 1;repeat' (first | (simp -implicitDefEqProofs only [go_sem,Int.reduceNegSucc,hx,hzl,q1,eS,ku,wj,wi]) | (with_reducible refine az ?_) | (refine cC cT ?_ ?_ ?_;(focus (simp [aZ,ag] <;> fail));(focus (simp [bp,bk] <;> fail))) | (refine dc cT ?_ ?_ ?_;(focus (simp [aZ,ag] <;> fail));(focus (simp [bp,bk] <;> fail))) | ((first | refine ai (fun hg=>?_) (fun hg=>?_) | refine aA (fun hg=>?_) (fun hg=>?_) | refine aB (fun hg=>?_) (fun hg=>?_)) <;> try simp -implicitDefEqProofs only [hg,Bool.not_true,Bool.not_false]) | ((with_reducible apply And.intro);focus (first | trivial | omega | decide | (simp -implicitDefEqProofs only [maxLen];omega) | (simp [maxLen,an,aq,au,ay,ak,ax,av] <;> omega))) | fail)
    ·have fP:p (ys[j]'hj)=false:=by simpa using hg
     rw [fP] at mP
     simp -implicitDefEqProofs only [Bool.false_eq_true,if_false] at mP
     refine hN (zs.set (kept j).length (ys[j]'hj),j+1) _ _ ⟨by simp [q1],by omega,?_,?_,?_⟩ (by dsimp only;omega) (bw (by simp [lk,mP]))
     ·show (kept (j+1)).length<j+1
      rw [mP];simp;omega
     ·show (zs.set (kept j).length (ys[j]'hj)).take (kept (j+1)).length=kept (j+1)
      rw [mP]
      simp -implicitDefEqProofs only [List.length_append,List.length_singleton]
      rw [List.take_succ_eq_append_getElem (by simp;omega),List.take_set_of_le (by omega),q4]
      simp
     ·show (zs.set (kept j).length (ys[j]'hj)).drop (j+1)=ys.drop (j+1)
      rw [List.drop_set_of_lt (by omega),← List.drop_drop,q5,List.drop_drop]
    ·have fP:p (ys[j]'hj)=true:=by simpa using hg
     rw [fP] at mP
     simp -implicitDefEqProofs only [if_true,List.append_nil] at mP
     refine hN (zs,j+1) _ _ ⟨q1,by omega,?_,?_,?_⟩ (by dsimp only;omega) (bw (by simp [lk,mP]))
     ·show (kept (j+1)).length<j+1
      rw [mP];omega
     ·show zs.take (kept (j+1)).length=kept (j+1)
      rw [mP];exact q4
     ·show zs.drop (j+1)=ys.drop (j+1)
      rw [← List.drop_drop,q5,List.drop_drop]
   ·have hj:j=ys.length:=by simp at hg;omega
    subst hj
    have hkk:kept ys.length=dW ys p:=by show dW (ys.take ys.length) p=_;rw [List.take_length]
    have fj:=KF ys.length
    rw [hkk] at fj q4 q3
    simp -implicitDefEqProofs only [hkk,go_sem,Int.reduceNegSucc]
    refine hX _ _ _ ?_
    have hnz:(((dW ys p).length:Int)=0)=((dW ys p).length=0):=propext (by omega)
    repeat' (first | (simp -implicitDefEqProofs only [go_sem,Int.reduceNegSucc]) | (with_reducible refine az ?_) | ((first | refine ai (fun hg=>?_) (fun hg=>?_) | refine aA (fun hg=>?_) (fun hg=>?_) | refine aB (fun hg=>?_) (fun hg=>?_)) <;> try simp -implicitDefEqProofs only [hg,Bool.not_true,Bool.not_false]) | ((with_reducible apply And.intro);focus (first | trivial | omega | decide | (simp -implicitDefEqProofs only [maxLen];omega) | (simp [maxLen,an,aq,au,ay,ak,ax,av] <;> omega))) | fail)
    have hrow:aI (List.take (dW ys p).length (aL zs))++List.replicate (ys.length - (dW ys p).length) [U.rv (.int .i64 0)]++List.drop ((dW ys p).length+(List.replicate (ys.length - (dW ys p).length) [U.rv (.int .i64 0)]).length) (aI (aL zs))=aI (aL (mF ys p)):=by
     rw [List.drop_of_length_le (by simp [ax,ak];omega),List.append_nil,wk,show List.take (dW ys p).length (aL zs)=aL (zs.take (dW ys p).length) by simp [aL,List.map_take],q4,Dg]
     simp [aL,mF]
    rw [hrow]
    refine (hK _ _ _ _ [] (dh _ _) ?_).2
    simp [dx,bL,newL,dB,di,bB,br,lk,bJ,cG,cR,cJ,dR,dQ,ag,dy,bN,aQ,cW,dz,ek,aU,eg,aP,cX,cL,hij,Ne.symm hij]
end
section
variable (l:List Nd) (n:Int)
theorem MZ (hb:l.length≤8589934592) (m:Nat):aJ Go.Proofs.Try.prog 48 [.rv (cg l),.rv (.int .i64 n)] [] [(m,.row 1 1 (aI (aL (mF (bt (eH l n)) fun m=>!kX l m))))] (.row m 1 (cH l n).length):=by
 refine kF JY [] [] [] [.rv (cg l),.rv (.int .i64 n)] [.rv (cg l),.rv (.int .i64 n)] _ _ (by simp) (by simp [aN,aT]) rfl (by simp [bL]) (by simp [dg]) (fun K hK=>?_)
 have fj:=BY l n
 have hkn:=Lu (eH l n)
 have hd:=MY 72 1 0 1 (cg l) (fun m=>!kX l m) (by decide) (fun m j=>Nb l m j) (bt (eH l n)) (by rw [hkn];omega)
 rw [hkn] at hd
 have hfl:(dW (bt (eH l n)) fun m=>!kX l m).length=(cH l n).length:=by
  unfold dW cH bt
  rw [List.filter_map,List.length_map]
  simp [Function.comp_def]
 rw [hfl] at hd
 conv in fc _ _ _ _=>reduce
 simp -implicitDefEqProofs only [go_sem,Int.reduceNegSucc]
 refine cC (Nh l n 1 hb) (by simp [aZ,ag]) (by simp [bp,bk]) ?_
 have de:=hd;repeat' (first | (simp -implicitDefEqProofs only [go_sem,Int.reduceNegSucc]) | (with_reducible refine az ?_) | (refine cC de ?_ ?_ ?_;(focus (simp [aZ,ag] <;> fail));(focus (simp [bp,bk] <;> fail))) | (refine dc de ?_ ?_ ?_;(focus (simp [aZ,ag] <;> fail));(focus (simp [bp,bk] <;> fail))) | ((first | refine ai (fun hg=>?_) (fun hg=>?_) | refine aA (fun hg=>?_) (fun hg=>?_) | refine aB (fun hg=>?_) (fun hg=>?_)) <;> try simp -implicitDefEqProofs only [hg,Bool.not_true,Bool.not_false]) | ((with_reducible apply And.intro);focus (first | trivial | omega | decide | (simp -implicitDefEqProofs only [maxLen];omega) | (simp [maxLen,an,aq,au,ay,ak,ax,av] <;> omega))) | fail)
 refine (hK _ _ _ _ [none,some m] (dh _ _) ?_).2
 simp [dx,bL,newL,dB,di,bB,br,lk,bJ,cG,cR,cJ,dR,dQ,ag,dy,bN,aQ,cW,dz,ek,aU,eg,aP,cX,cL]
theorem Dp (hb:l.length≤8589934592):aJ Go.Proofs.Try.prog 48 [.rv (cg l),.rv (.int .i64 n)] [] [] (.rv (.sl 1 (aL (bt (cH l n))))):=by
 refine Fc (rs:=[cg l,.int .i64 n]) (MZ l n hb 0) ?_ ⟨_,.inl rfl⟩
 have hfl:(dW (bt (eH l n)) fun m=>!kX l m)=bt (cH l n):=by
  unfold dW cH bt
  rw [List.filter_map]
  simp [Function.comp_def]
 have qJ:(cH l n).length=(bt (cH l n)).length:=by simp [bt]
 refine .fz _ _ ?_
 have h1:=pH (τ:=fun _=>none) (h:=bu (fun _=>none) [(0,HB.row 1 1 (aI (aL (mF (bt (eH l n)) fun m=>!kX l m))))]) (j:=0) (e:=1) (af:=1) (len:=(cH l n).length) (xs:=aL (mF (bt (eH l n)) fun m=>!kX l m)) (by simp [bu,up]) rfl (by rw [ak,mF,List.length_append,hfl,← qJ];omega) (lO _)
 rw [show (aL (mF (bt (eH l n)) fun m=>!kX l m)).take (cH l n).length=aL (bt (cH l n)) by
  rw [qJ]
  simp -implicitDefEqProofs only [aL,← List.map_take,mF,hfl]
  rw [List.take_left]] at h1
 exact h1
end
end Go.aH

namespace Go.aH
open Go
theorem JJ:aV Go.Proofs.Try.prog 11 27 (fc Go.Proofs.Try.prog 11 27 [(.t 4)]) [(.t 4)]:=bl (by kernel_rfl)
theorem zx {l:List Nd} (ht:cY l=true):dN l:=tC.1 (by unfold cY at ht;simp -implicitDefEqProofs only [Bool.and_eq_true] at ht;exact ht.1)
theorem zV {l:List Nd} (h:fA l=0):cY l=true:=by
 unfold fA at h
 cases ht:cY l with
 | true=>rfl
 | false=>rw [ht] at h;simp at h
theorem IG (l:List Nd) (n:Int):(n<0∧dH l n=false)∨((l.length:Int)≤n∧0≤n∧dH l n=false)∨∃ k:Nat,n=k∧k<l.length∧dH l n=true:=by
 by_cases h0:n<0
 ·exact .inl ⟨h0,by simp [dH];omega⟩
 ·by_cases h1:n<l.length
  ·exact .inr (.inr ⟨n.toNat,by omega,by omega,by simp [dH];omega⟩)
  ·exact .inr (.inl ⟨by omega,by omega,by simp [dH];omega⟩)
theorem NP (l:List Nd) (ht:cY l=true) (n:Int):aJ Go.Proofs.Try.prog 11 [.rv (.sl 49 (bg l)),.rv (.int .i64 n)] [] [] (.rv (.bool (fR l n))):=by
 refine bz JJ [.rv (.sl 49 (bg l)),.rv (.int .i64 n)] _ (by simp) (by simp [aN,aW,bn,aT,bf,aj.sv,Ln.sv,Nd.sv]) (fun K hK=>?_)
 have hlen:=au l
 have hs:=zx ht
 conv in fc _ _ _ _=>reduce
 simp -implicitDefEqProofs only [go_sem,Int.reduceNegSucc]
 rcases IG l n with ⟨h1,hi⟩ | ⟨h1,h0,hi⟩ | ⟨k,rfl,hk,hi⟩
 ·have e1:decide (n<0)=true:=decide_eq_true h1
  repeat' (first | (simp -implicitDefEqProofs only [go_sem,Int.reduceNegSucc,e1,hlen]) | (with_reducible refine az ?_) | ((first | refine ai (fun hg=>?_) (fun hg=>?_) | refine aA (fun hg=>?_) (fun hg=>?_) | refine aB (fun hg=>?_) (fun hg=>?_)) <;> try simp -implicitDefEqProofs only [hg,Bool.not_true,Bool.not_false]) | ((with_reducible apply And.intro);focus (first | trivial | omega | decide | (simp -implicitDefEqProofs only [maxLen];omega) | (simp [maxLen,an,aq,au,ay,ak,ax,av] <;> omega))) | fail)
  exact (hK _ _ (bM (by simp [fR,hi,lk]))).2
 ·have e1:decide (n<0)=false:=decide_eq_false (by omega)
  have e2:decide (n≥(l.length:Int))=true:=decide_eq_true h1
  repeat' (first | (simp -implicitDefEqProofs only [go_sem,Int.reduceNegSucc,e1,e2,hlen]) | (with_reducible refine az ?_) | ((first | refine ai (fun hg=>?_) (fun hg=>?_) | refine aA (fun hg=>?_) (fun hg=>?_) | refine aB (fun hg=>?_) (fun hg=>?_)) <;> try simp -implicitDefEqProofs only [hg,Bool.not_true,Bool.not_false]) | ((with_reducible apply And.intro);focus (first | trivial | omega | decide | (simp -implicitDefEqProofs only [maxLen];omega) | (simp [maxLen,an,aq,au,ay,ak,ax,av] <;> omega))) | fail)
  exact (hK _ _ (bM (by simp [fR,hi,lk]))).2
 ·have e1:decide ((k:Int)<0)=false:=decide_eq_false (by omega)
  have e2:decide ((k:Int)≥(l.length:Int))=false:=decide_eq_false (by omega)
  repeat' (first | (simp -implicitDefEqProofs only [go_sem,Int.reduceNegSucc,e1,e2,hlen]) | (with_reducible refine az ?_) | ((first | refine ai (fun hg=>?_) (fun hg=>?_) | refine aA (fun hg=>?_) (fun hg=>?_) | refine aB (fun hg=>?_) (fun hg=>?_)) <;> try simp -implicitDefEqProofs only [hg,Bool.not_true,Bool.not_false]) | ((with_reducible apply And.intro);focus (first | trivial | omega | decide | (simp -implicitDefEqProofs only [maxLen];omega) | (simp [maxLen,an,aq,au,ay,ak,ax,av] <;> omega))) | fail)
  refine cN (ι:=Nat) (fun i=>[(1,.rv (.int .i64 (fe (aO l k) i))),(0,.rv (.sl 49 (bg l)))]) (fun _=>[]) (fun i=>i≤(aO l k).length∧((aO l k).drop i).all (mW l)=(aO l k).all (mW l)) (fun i=>(aO l k).length - i) 0 (by simp) (by rw [rK];exact bw (by simp [lk])) (fun i hi' K' hN hX hR=>?_)
  obtain ⟨hi1,hi2⟩:=hi'
  simp -implicitDefEqProofs only [go_sem,Int.reduceNegSucc]
  refine ai (fun hg=>?_) (fun hg=>?_)
  ·have cQ:i<(aO l k).length:=nO.1 (by simpa using hg)
   have kk:=rJ cQ
   have hlt:(aO l k)[i]<l.length:=vT hk cQ
   have hx:=fG hlt
   have hpar:=lZ hlt
   have lI:=vP hs.wf k hk i cQ
   have hsh:=zh hlt
   have hs0:((l[(aO l k)[i]]'hlt).cells)[0]?=some (.bool (l[(aO l k)[i]]'hlt).s.shown):=rfl
   repeat' (first | (simp -implicitDefEqProofs only [go_sem,Int.reduceNegSucc,hlen,aq,lX,kk,hx,hpar,lI,hs0,hsh]) | (with_reducible refine az ?_) | ((first | refine ai (fun hg=>?_) (fun hg=>?_) | refine aA (fun hg=>?_) (fun hg=>?_) | refine aB (fun hg=>?_) (fun hg=>?_)) <;> try simp -implicitDefEqProofs only [hg,Bool.not_true,Bool.not_false]) | ((with_reducible apply And.intro);focus (first | trivial | omega | decide | (simp -implicitDefEqProofs only [maxLen];omega) | (simp [maxLen,an,aq,au,ay,ak,ax,av] <;> omega))) | fail)
   ·refine hR _ _ (hK _ _ (bM ?_)).2
    have:(aO l k).all (mW l)=false:=mB cQ hi2 (by simpa using hg)
    simp [fR,hi,jT,this,lk]
   ·exact hN (i+1) _ _ ⟨by omega,mC cQ hi2 (by simpa using hg)⟩ (by omega) (bw (by simp [lk]))
  ·have cQ:¬ i<(aO l k).length:=fun h=>by have:=nO.2 h;simp at hg;omega
   simp -implicitDefEqProofs only [go_sem,Int.reduceNegSucc]
   refine hX _ _ _ ?_
   repeat' (first | (simp -implicitDefEqProofs only [go_sem,Int.reduceNegSucc]) | (with_reducible refine az ?_) | ((first | refine ai (fun hg=>?_) (fun hg=>?_) | refine aA (fun hg=>?_) (fun hg=>?_) | refine aB (fun hg=>?_) (fun hg=>?_)) <;> try simp -implicitDefEqProofs only [hg,Bool.not_true,Bool.not_false]) | ((with_reducible apply And.intro);focus (first | trivial | omega | decide | (simp -implicitDefEqProofs only [maxLen];omega) | (simp [maxLen,an,aq,au,ay,ak,ax,av] <;> omega))) | fail)
   refine (hK _ _ (bM ?_)).2
   have:=mA (by omega) hi2
   simp [fR,hi,jT,this,lk]
def OM (l:List Nd) (k p:Nat):List Nat:=(aR l k p).filter fun (m:Nat)=>kX l m
def Pb (l:List Nd) (n:Int) (i:Nat):Int:=if dH l n=true∧n<i then (if (i:Int)<xm l n then (i:Int) else xm l n) else 0
end Go.aH

namespace Go.aH
open Go
theorem Cw (xs:List Nat):(aL (bt xs)).length=xs.length:=by simp [aL,bt]
def ON (p:Int→Bool) (xs:List Nat):Int:=match xs.find? (fun (m:Nat)=>p m) with
 | some k=>k
 | none=>-1
end Go.aH

namespace Go.aH
open Go
theorem JL:aV Go.Proofs.Try.prog 53 9 (fc Go.Proofs.Try.prog 53 9 [(.t 2)]) [(.t 2)]:=bl (by kernel_rfl)
theorem JO:aV Go.Proofs.Try.prog 54 47 (fc Go.Proofs.Try.prog 54 47 [(.t 2),(.t 3)]) [(.t 2),(.t 3)]:=bl (by kernel_rfl)
theorem JK:aV Go.Proofs.Try.prog 68 12 (fc Go.Proofs.Try.prog 68 12 [(.t 6)]) [(.t 6)]:=bl (by kernel_rfl)
def bS (x:Int):Bool:=decide (x≥-1125899906842624) && decide (x≤1125899906842624)
theorem mH {x:Int}:bS x=true↔-1125899906842624≤x∧x≤1125899906842624:=by simp [bS]
def dL (xs:List Int):Bool:=xs.all bS && bS xs.sum
def dM (xs:List Int):Int:=if dL xs=true then xs.sum else 0
theorem tD (a:Int):a.fdiv (2 ^ min 25 64)=a / 33554432:=by
 rw [Int.fdiv_eq_ediv_of_nonneg _ (by decide)];rfl
theorem Ey (a:Int):IntKind.i64.wrap ((BitVec.ofInt 64 a &&& BitVec.ofInt 64 33554431).toNat:Int)=a % 33554432:=by
 have h1:(BitVec.ofInt 64 a &&& BitVec.ofInt 64 33554431).toNat=(BitVec.ofInt 64 a).toNat % 33554432:=by
  show (BitVec.ofInt 64 a &&& BitVec.ofInt 64 33554431).toNat=_
  rw [BitVec.toNat_and]
  exact Nat.and_two_pow_sub_one_eq_mod _ 25
 have h2:(((BitVec.ofInt 64 a).toNat % 33554432:Nat):Int)=a % 33554432:=by
  rw [BitVec.toNat_ofInt]
  omega
 rw [h1,h2,wrap_i64 (by omega) (by omega)]
theorem rH (a:Int):IntKind.i64.wrap ((@BitVec.toNat 64 (@HAnd.hAnd (BitVec 64) (BitVec 64) (BitVec 64) (@instHAndOfAndOp (BitVec IntKind.i64.bits) (@BitVec.instAndOp IntKind.i64.bits)) (BitVec.ofInt 64 a) (BitVec.ofInt 64 33554431)):Nat):Int)=a % 33554432:=Ey a
theorem gh (x:Int):aJ Go.Proofs.Try.prog 53 [.rv (.int .i64 x)] [] [] (.rv (.bool (bS x))):=by
 refine bz JL [.rv (.int .i64 x)] _ (by simp) (by simp [aN,aW,bn,aT,bf,aj.sv,Ln.sv,Nd.sv]) (fun K hK=>?_)
 conv in fc _ _ _ _=>reduce
 simp -implicitDefEqProofs only [go_sem,Int.reduceNegSucc]
 repeat' (first | (simp -implicitDefEqProofs only [go_sem,Int.reduceNegSucc]) | (with_reducible refine az ?_) | ((first | refine ai (fun hg=>?_) (fun hg=>?_) | refine aA (fun hg=>?_) (fun hg=>?_) | refine aB (fun hg=>?_) (fun hg=>?_)) <;> try simp -implicitDefEqProofs only [hg,Bool.not_true,Bool.not_false]) | ((with_reducible apply And.intro);focus (first | trivial | omega | decide | (simp -implicitDefEqProofs only [maxLen];omega) | (simp [maxLen,an,aq,au,ay,ak,ax,av] <;> omega))) | fail)
 all_goals (refine (hK _ _ (bM ?_)).2;clear hK;simp_all [lk,bS];try (intro _;omega))
def Pe (x:Ln) (d:Int):Int:=if x.kind=1 then x.n else d
def uB (v lo hi:Int):Int:=if (if v>hi then hi else v)<lo then lo else (if v>hi then hi else v)
theorem Ds (v lo hi:Int):aJ Go.Proofs.Try.prog 68 [.rv (.int .i64 v),.rv (.int .i64 lo),.rv (.int .i64 hi)] [] [] (.rv (.int .i64 (uB v lo hi))):=by
 refine bz JK [.rv (.int .i64 v),.rv (.int .i64 lo),.rv (.int .i64 hi)] _ (by simp) (by simp [aN,aW,bn,aT,bf,aj.sv,Ln.sv,Nd.sv]) (fun K hK=>?_)
 conv in fc _ _ _ _=>reduce
 simp -implicitDefEqProofs only [go_sem,Int.reduceNegSucc]
 repeat' (first | (simp -implicitDefEqProofs only [go_sem,Int.reduceNegSucc]) | (with_reducible refine az ?_) | ((first | refine ai (fun hg=>?_) (fun hg=>?_) | refine aA (fun hg=>?_) (fun hg=>?_) | refine aB (fun hg=>?_) (fun hg=>?_)) <;> try simp -implicitDefEqProofs only [hg,Bool.not_true,Bool.not_false]) | ((with_reducible apply And.intro);focus (first | trivial | omega | decide | (simp -implicitDefEqProofs only [maxLen];omega) | (simp [maxLen,an,aq,au,ay,ak,ax,av] <;> omega))) | fail)
 exact (hK _ _ (bM rfl)).2
theorem Ev {p:Int→Bool} {xs:List Int} (h:∀ i,(h:i<xs.length)→p xs[i]=true):xs.all p=true:=by
 rw [List.all_eq_true];intro x hx
 obtain ⟨i,hi,rfl⟩:=List.getElem_of_mem hx
 exact h i hi
theorem DK {xs:List Int} {k:Nat} (h:k<xs.length):(xs.take (k+1)).sum=(xs.take k).sum+xs[k]:=by
 rw [List.take_succ_eq_append_getElem h,List.sum_append];simp
theorem LC {xs:List Int} {i:Nat} (h:i<xs.length) (hf:bS xs[i]=false):dL xs=false:=by
 unfold dL
 rw [show xs.all bS=false from by
  rw [List.all_eq_false];exact ⟨_,List.getElem_mem h,by simp [hf]⟩]
 rfl
theorem Ny (xs:List Int) (hb:xs.length≤1000):aJ Go.Proofs.Try.prog 54 [.rv (.sl 1 (aL xs))] [] [] (.aM [.rv (.int .i64 (dM xs)),.rv (.bool (dL xs))]):=by
 refine bz JO [.rv (.sl 1 (aL xs))] _ (by simp) (by simp [aN,aW,bn,aT,bf,aj.sv,Ln.sv,Nd.sv]) (fun K hK=>?_)
 have hl:=ak xs
 conv in fc _ _ _ _=>reduce
 simp -implicitDefEqProofs only [hl,go_sem,Int.reduceNegSucc]
 repeat' (first | (simp -implicitDefEqProofs only [go_sem,Int.reduceNegSucc,hl]) | (with_reducible refine az ?_) | ((first | refine ai (fun hg=>?_) (fun hg=>?_) | refine aA (fun hg=>?_) (fun hg=>?_) | refine aB (fun hg=>?_) (fun hg=>?_)) <;> try simp -implicitDefEqProofs only [hg,Bool.not_true,Bool.not_false]) | ((with_reducible apply And.intro);focus (first | trivial | omega | decide | (simp -implicitDefEqProofs only [maxLen];omega) | (simp [maxLen,an,aq,au,ay,ak,ax,av] <;> omega))) | fail)
 refine cN (ι:=Nat×Int×Int) (fun q=>[(11,.rv (.int .i64 q.1)),(10,.rv (.int .i64 xs.length)),(9,.rv (.sl 1 (aL xs))),(4,.rv (.int .i64 q.2.1)),(5,.rv (.int .i64 q.2.2))]) (fun _=>[]) (fun q=>q.1≤xs.length∧(∀ i,(h:i<xs.length)→i<q.1→bS xs[i]=true)∧q.2.1*33554432+q.2.2=(xs.take q.1).sum∧-(33554432*q.1)≤q.2.1∧q.2.1≤33554432*q.1∧0≤q.2.2∧q.2.2≤33554432*q.1) (fun q=>xs.length - q.1) (0,0,0) ⟨by simp,fun i _ h=>absurd h (by simp),by simp,by simp,by simp,by simp,by simp⟩ (bw (by simp [lk])) (fun q hk K' hN hX hR=>?_)
 obtain ⟨k,hi,lo⟩:=q
 obtain ⟨ct,hk2,cU,HO,HP,HQ,HR⟩:=hk
 dsimp only at ct hk2 cU HO HP HQ HR ⊢
 simp -implicitDefEqProofs only [go_sem,Int.reduceNegSucc]
 refine ai (fun hg=>?_) (fun hg=>?_)
 ·have aE:k<xs.length:=by simp at hg;omega
  have hx:=ov aE
  have wu:=cu (k:=k) (by omega)
  have hf:=gh xs[k]
  cases mL:bS xs[k] with
  | false=>
    rw [mL] at hf
    have bq:=hf;repeat' (first | (simp -implicitDefEqProofs only [go_sem,Int.reduceNegSucc,hx,hl,wu]) | (with_reducible refine az ?_) | (with_reducible first | refine aC bq ?_ | refine aD bq ?_) | ((first | refine ai (fun hg=>?_) (fun hg=>?_) | refine aA (fun hg=>?_) (fun hg=>?_) | refine aB (fun hg=>?_) (fun hg=>?_)) <;> try simp -implicitDefEqProofs only [hg,Bool.not_true,Bool.not_false]) | ((with_reducible apply And.intro);focus (first | trivial | omega | decide | (simp -implicitDefEqProofs only [maxLen];omega) | (simp [maxLen,an,aq,au,ay,ak,ax,av] <;> omega))) | fail)
    refine hR _ _ (hK _ _ ?_).2
    have:=LC aE mL
    exact jU (by simp [lk,dM,this]) (by simp [lk,this])
  | true=>
    rw [mL] at hf
    have ny:=mH.1 mL
    have hst:=DK aE
    have w1:IntKind.i64.wrap (hi+xs[k] / 33554432)=hi+xs[k] / 33554432:=by rw [wrap_i64 (by omega) (by omega)]
    have w2:IntKind.i64.wrap (lo+xs[k] % 33554432)=lo+xs[k] % 33554432:=by rw [wrap_i64 (by omega) (by omega)]
    have y_2:=hf;repeat' (first | (simp -implicitDefEqProofs only [go_sem,Int.reduceNegSucc,hx,hl,wu,tD,rH,w1,w2]) | (with_reducible refine az ?_) | (with_reducible first | refine aC y_2 ?_ | refine aD y_2 ?_) | ((first | refine ai (fun hg=>?_) (fun hg=>?_) | refine aA (fun hg=>?_) (fun hg=>?_) | refine aB (fun hg=>?_) (fun hg=>?_)) <;> try simp -implicitDefEqProofs only [hg,Bool.not_true,Bool.not_false]) | ((with_reducible apply And.intro);focus (first | trivial | omega | decide | (simp -implicitDefEqProofs only [maxLen];omega) | (simp [maxLen,an,aq,au,ay,ak,ax,av] <;> omega))) | fail)
    refine hN (k+1,hi+xs[k] / 33554432,lo+xs[k] % 33554432) _ _ ⟨by dsimp only;omega,fun i h hi=>?_,by dsimp only;omega,by dsimp only;omega,by dsimp only;omega,by dsimp only;omega,by dsimp only;omega⟩ (by dsimp only;omega) (bw (by simp [lk]))
    dsimp only at hi
    by_cases e:i=k
    ·subst e;exact mL
    ·exact hk2 i h (by omega)
 ·have aE:k=xs.length:=by simp at hg;omega
  subst aE
  simp -implicitDefEqProofs only [go_sem,Int.reduceNegSucc]
  refine hX _ _ _ ?_
  have hall:=Ev (fun i h=>hk2 i h h)
  rw [List.take_length] at *
  have w1:IntKind.i64.wrap (hi+lo / 33554432)=hi+lo / 33554432:=by rw [wrap_i64 (by omega) (by omega)]
  by_cases h1:hi+lo / 33554432 < -33554432
  ·have e1:decide (hi+lo / 33554432 < -33554432)=true:=decide_eq_true h1
   have:dL xs=false:=by
    have:bS xs.sum=false:=by rw [Bool.eq_false_iff];intro h;have:=mH.1 h;omega
    simp [dL,this]
   repeat' (first | (simp -implicitDefEqProofs only [go_sem,Int.reduceNegSucc,tD,rH,w1,e1]) | (with_reducible refine az ?_) | ((first | refine ai (fun hg=>?_) (fun hg=>?_) | refine aA (fun hg=>?_) (fun hg=>?_) | refine aB (fun hg=>?_) (fun hg=>?_)) <;> try simp -implicitDefEqProofs only [hg,Bool.not_true,Bool.not_false]) | ((with_reducible apply And.intro);focus (first | trivial | omega | decide | (simp -implicitDefEqProofs only [maxLen];omega) | (simp [maxLen,an,aq,au,ay,ak,ax,av] <;> omega))) | fail)
   refine (hK _ _ ?_).2
   exact jU (by simp [lk,dM,this]) (by simp [lk,this])
  ·have e1:decide (hi+lo / 33554432 < -33554432)=false:=decide_eq_false h1
   by_cases h2:hi+lo / 33554432>33554432
   ·have e2:decide (hi+lo / 33554432>33554432)=true:=decide_eq_true h2
    have:dL xs=false:=by
     have:bS xs.sum=false:=by rw [Bool.eq_false_iff];intro h;have:=mH.1 h;omega
     simp [dL,this]
    repeat' (first | (simp -implicitDefEqProofs only [go_sem,Int.reduceNegSucc,tD,rH,w1,e1,e2]) | (with_reducible refine az ?_) | ((first | refine ai (fun hg=>?_) (fun hg=>?_) | refine aA (fun hg=>?_) (fun hg=>?_) | refine aB (fun hg=>?_) (fun hg=>?_)) <;> try simp -implicitDefEqProofs only [hg,Bool.not_true,Bool.not_false]) | ((with_reducible apply And.intro);focus (first | trivial | omega | decide | (simp -implicitDefEqProofs only [maxLen];omega) | (simp [maxLen,an,aq,au,ay,ak,ax,av] <;> omega))) | fail)
    refine (hK _ _ ?_).2
    exact jU (by simp [lk,dM,this]) (by simp [lk,this])
   ·have e2:decide (hi+lo / 33554432>33554432)=false:=decide_eq_false h2
    have hf:=gh xs.sum
    have w2:IntKind.i64.wrap (IntKind.i64.wrap ((hi+lo / 33554432)*2 ^ min 25 64)+lo % 33554432)=xs.sum:=by
     rw [show (2:Int) ^ min 25 64=33554432 from rfl,wrap_i64 (n:=(hi+lo / 33554432)*33554432) (by omega) (by omega),wrap_i64 (by omega) (by omega)]
     omega
    cases mL:bS xs.sum with
    | false=>
      rw [mL] at hf
      have:dL xs=false:=by simp [dL,mL]
      have bP:=hf;repeat' (first | (simp -implicitDefEqProofs only [go_sem,Int.reduceNegSucc,tD,rH,w1,e1,e2,w2]) | (with_reducible refine az ?_) | (with_reducible first | refine aC bP ?_ | refine aD bP ?_) | ((first | refine ai (fun hg=>?_) (fun hg=>?_) | refine aA (fun hg=>?_) (fun hg=>?_) | refine aB (fun hg=>?_) (fun hg=>?_)) <;> try simp -implicitDefEqProofs only [hg,Bool.not_true,Bool.not_false]) | ((with_reducible apply And.intro);focus (first | trivial | omega | decide | (simp -implicitDefEqProofs only [maxLen];omega) | (simp [maxLen,an,aq,au,ay,ak,ax,av] <;> omega))) | fail)
      refine (hK _ _ ?_).2
      exact jU (by simp [lk,dM,this]) (by simp [lk,this])
    | true=>
      rw [mL] at hf
      have:dL xs=true:=by simp [dL,mL,hall]
      have bV:=hf;repeat' (first | (simp -implicitDefEqProofs only [go_sem,Int.reduceNegSucc,tD,rH,w1,e1,e2,w2]) | (with_reducible refine az ?_) | (with_reducible first | refine aC bV ?_ | refine aD bV ?_) | ((first | refine ai (fun hg=>?_) (fun hg=>?_) | refine aA (fun hg=>?_) (fun hg=>?_) | refine aB (fun hg=>?_) (fun hg=>?_)) <;> try simp -implicitDefEqProofs only [hg,Bool.not_true,Bool.not_false]) | ((with_reducible apply And.intro);focus (first | trivial | omega | decide | (simp -implicitDefEqProofs only [maxLen];omega) | (simp [maxLen,an,aq,au,ay,ak,ax,av] <;> omega))) | fail)
      refine (hK _ _ ?_).2
      exact jU (by simp [lk,dM,this]) (by simp [lk,this])
end Go.aH

namespace Go.aH
open Go
theorem Kg:aV Go.Proofs.Try.prog 43 49 (fc Go.Proofs.Try.prog 43 49 [(.c 6 2 true),(.t 7)]) [(.c 6 2 true),(.t 7)]:=bl (by kernel_rfl)
theorem Ke:aV Go.Proofs.Try.prog 44 20 (fc Go.Proofs.Try.prog 44 20 [(.t 6),(.t 7)]) [(.t 6),(.t 7)]:=bl (by kernel_rfl)
theorem Kf:aV Go.Proofs.Try.prog 45 20 (fc Go.Proofs.Try.prog 45 20 [(.t 6),(.t 7)]) [(.t 6),(.t 7)]:=bl (by kernel_rfl)
theorem Kh:aV Go.Proofs.Try.prog 65 10 (fc Go.Proofs.Try.prog 65 10 [(.t 4)]) [(.t 4)]:=bl (by kernel_rfl)
theorem JN:aV Go.Proofs.Try.prog 64 35 (fc Go.Proofs.Try.prog 64 35 [(.t 4),(.t 5)]) [(.t 4),(.t 5)]:=bl (by kernel_rfl)
theorem JP:aV Go.Proofs.Try.prog 81 16 (fc Go.Proofs.Try.prog 81 16 [(.t 4)]) [(.t 4)]:=bl (by kernel_rfl)
theorem Kr:aV Go.Proofs.Try.prog 85 8 (fc Go.Proofs.Try.prog 85 8 [(.c 2 2 true)]) [(.c 2 2 true)]:=bl (by kernel_rfl)
theorem Kq:aV Go.Proofs.Try.prog 86 16 (fc Go.Proofs.Try.prog 86 16 [(.c 4 2 true)]) [(.c 4 2 true)]:=bl (by kernel_rfl)
theorem Ks:aV Go.Proofs.Try.prog 52 12 (fc Go.Proofs.Try.prog 52 12 [(.t 2),(.t 3)]) [(.t 2),(.t 3)]:=bl (by kernel_rfl)
theorem JM:aV Go.Proofs.Try.prog 92 5 (fc Go.Proofs.Try.prog 92 5 [(.t 2)]) [(.t 2)]:=bl (by kernel_rfl)
theorem JX:aV Go.Proofs.Try.prog 25 25 (fc Go.Proofs.Try.prog 25 25 [(.t 4)]) [(.t 4)]:=bl (by kernel_rfl)
structure Sz where
 auto:Bool
 n:Int
 deriving DecidableEq,Inhabited
def Sz.cells (x:Sz):List RV:=[.bool x.auto,.int .i64 x.n]
abbrev Sz.sv (x:Sz):U:=.agg (x.cells.map .rv)
structure Su where
 p:Int
 n:Int
 deriving DecidableEq,Inhabited
def Su.cells (x:Su):List RV:=[.int .i64 x.p,.int .i64 x.n]
abbrev Su.sv (x:Su):U:=.agg (x.cells.map .rv)
def oC (b p:Int):Bool:=decide (0≤b∧b≤1125899906842624∧-1000000≤p∧p≤1000000) && bS (b*p / 10000)
def tw (b p:Int):Int:=if oC b p=true then b*p / 10000 else 0
def dD (x:Ln) (b:Int) (has:Bool):Sz:=if x.kind=0∨x.kind=2∧has=false then ⟨true,0⟩ else if x.kind=1∧bS x.n=true then ⟨false,x.n⟩ else if x.kind=2 then ⟨false,tw b x.n⟩ else ⟨false,0⟩
def ef (x:Ln) (b:Int) (has:Bool):Bool:=decide (x.kind=0) || decide (x.kind=2) && (!has || oC b x.n) || decide (x.kind=1) && bS x.n
def bh (x:Sz) (d:Int):Int:=if x.auto=true then d else x.n
def fk (a b:Su):Su:=⟨max a.p b.p,min a.n b.n⟩
def nJ (a:Su):Int:=dM [a.p,a.n]
def rC (a:Su):Bool:=dL [a.p,a.n]
def lW (w:Int) (h:Sz):Bool:=decide (0≤w∧w≤1125899906842624) && (h.auto || decide (0≤h.n∧h.n≤1125899906842624))
theorem Nw (x:Int):aJ Go.Proofs.Try.prog 92 [.rv (.int .i64 x)] [] [] (.rv (.int .i64 (x / 2))):=by
 refine bz JM [.rv (.int .i64 x)] _ (by simp) (by simp [aN,aW,bn,aT,bf,aj.sv,Ln.sv,Nd.sv]) (fun K hK=>?_)
 conv in fc _ _ _ _=>reduce
 simp -implicitDefEqProofs only [go_sem,Int.reduceNegSucc]
 repeat' (first | (simp -implicitDefEqProofs only [go_sem,Int.reduceNegSucc]) | (with_reducible refine az ?_) | ((first | refine ai (fun hg=>?_) (fun hg=>?_) | refine aA (fun hg=>?_) (fun hg=>?_) | refine aB (fun hg=>?_) (fun hg=>?_)) <;> try simp -implicitDefEqProofs only [hg,Bool.not_true,Bool.not_false]) | ((with_reducible apply And.intro);focus (first | trivial | omega | decide | (simp -implicitDefEqProofs only [maxLen];omega) | (simp [maxLen,an,aq,au,ay,ak,ax,av] <;> omega))) | fail)
 refine (hK _ _ (bM ?_)).2
 simp [lk]
 exact Int.fdiv_eq_ediv_of_nonneg _ (by decide)
theorem kz (x:Sz) (d:Int):aJ Go.Proofs.Try.prog 65 [x.sv,.rv (.int .i64 d)] [] [] (.rv (.int .i64 (bh x d))):=by
 refine bz Kh [x.sv,.rv (.int .i64 d)] _ (by simp) (by simp [aN,aW,bn,aT,bf,aj.sv,Ln.sv,Nd.sv]) (fun K hK=>?_)
 conv in fc _ _ _ _=>reduce
 simp -implicitDefEqProofs only [Sz.sv,Sz.cells,go_sem,Int.reduceNegSucc]
 repeat' (first | (simp -implicitDefEqProofs only [go_sem,Int.reduceNegSucc]) | (with_reducible refine az ?_) | ((first | refine ai (fun hg=>?_) (fun hg=>?_) | refine aA (fun hg=>?_) (fun hg=>?_) | refine aB (fun hg=>?_) (fun hg=>?_)) <;> try simp -implicitDefEqProofs only [hg,Bool.not_true,Bool.not_false]) | ((with_reducible apply And.intro);focus (first | trivial | omega | decide | (simp -implicitDefEqProofs only [maxLen];omega) | (simp [maxLen,an,aq,au,ay,ak,ax,av] <;> omega))) | fail)
 all_goals (refine (hK _ _ ?_).2;clear hK;simp -implicitDefEqProofs only [go_sem,Int.reduceNegSucc,br,bB,bJ,bN,aU,aQ,aP,bh] <;>(try simp_all [-Int.not_lt,-Int.not_le,aU,aQ,aP,bY,bh]) <;> try omega)
theorem DA (x:Int):aJ Go.Proofs.Try.prog 85 [.rv (.int .i64 x)] [] [] (Su.sv ⟨max x 0,min x 0⟩):=by
 refine bz Kr [.rv (.int .i64 x)] _ (by simp) (by simp [aN,aW,bn,aT,bf,aj.sv,Ln.sv,Nd.sv]) (fun K hK=>?_)
 conv in fc _ _ _ _=>reduce
 simp -implicitDefEqProofs only [Su.sv,Su.cells,go_sem,Int.reduceNegSucc]
 repeat' (first | (simp -implicitDefEqProofs only [go_sem,Int.reduceNegSucc]) | (with_reducible refine az ?_) | ((first | refine ai (fun hg=>?_) (fun hg=>?_) | refine aA (fun hg=>?_) (fun hg=>?_) | refine aB (fun hg=>?_) (fun hg=>?_)) <;> try simp -implicitDefEqProofs only [hg,Bool.not_true,Bool.not_false]) | ((with_reducible apply And.intro);focus (first | trivial | omega | decide | (simp -implicitDefEqProofs only [maxLen];omega) | (simp [maxLen,an,aq,au,ay,ak,ax,av] <;> omega))) | fail)
 all_goals (refine (hK _ _ ?_).2;clear hK;simp -implicitDefEqProofs only [go_sem,Int.reduceNegSucc,br,bB,bJ,bN,aU,aQ,aP,Su.sv,Su.cells] <;>(try simp_all [-Int.not_lt,-Int.not_le,aU,aQ,aP,bY,Su.sv,Su.cells]) <;> try omega)
theorem ru (a b:Su):aJ Go.Proofs.Try.prog 86 [a.sv,b.sv] [] [] (fk a b).sv:=by
 refine bz Kq [a.sv,b.sv] _ (by simp) (by simp [aN,aW,bn,aT,bf,aj.sv,Ln.sv,Nd.sv]) (fun K hK=>?_)
 conv in fc _ _ _ _=>reduce
 simp -implicitDefEqProofs only [Su.sv,Su.cells,go_sem,Int.reduceNegSucc]
 repeat' (first | (simp -implicitDefEqProofs only [go_sem,Int.reduceNegSucc]) | (with_reducible refine az ?_) | ((first | refine ai (fun hg=>?_) (fun hg=>?_) | refine aA (fun hg=>?_) (fun hg=>?_) | refine aB (fun hg=>?_) (fun hg=>?_)) <;> try simp -implicitDefEqProofs only [hg,Bool.not_true,Bool.not_false]) | ((with_reducible apply And.intro);focus (first | trivial | omega | decide | (simp -implicitDefEqProofs only [maxLen];omega) | (simp [maxLen,an,aq,au,ay,ak,ax,av] <;> omega))) | fail)
 all_goals (refine (hK _ _ ?_).2;clear hK;simp -implicitDefEqProofs only [go_sem,Int.reduceNegSucc,br,bB,bJ,bN,aU,aQ,aP,Su.sv,Su.cells,fk] <;>(try simp_all [-Int.not_lt,-Int.not_le,aU,aQ,aP,bY,Su.sv,Su.cells,fk]) <;> try omega)
def lM (xs:List Int):List (List U):=xs.map fun x=>[.rv (.int .i64 x)]
theorem Bw (xs:List Int):lM xs=aI (aL xs):=by simp [lM,aI,aL]
theorem rq (id:Nat) (xs:List Int) (hb:xs.length≤1000):aJ Go.Proofs.Try.prog 54 [.row id 0 xs.length] [(id,.row 1 0 (lM xs))] [] (.aM [.rv (.int .i64 (dM xs)),.rv (.bool (dL xs))]):=by
 have:=KT (id:=id) (v:=0) (n:=xs.length) (bs:=[]) (rs:=[.int .i64 (dM xs),.bool (dL xs)]) (Ny xs hb) (by simp;exact ⟨.int _ _,.bool _⟩) (by rw [ak]) (lO _)
 rw [Bw];exact this
theorem zn (a:Su):aJ Go.Proofs.Try.prog 52 [a.sv] [] [] (.aM [.rv (.int .i64 (nJ a)),.rv (.bool (rC a))]):=by
 refine bz Ks [a.sv] _ (by simp) (by simp [aN,aW,bn,aT,bf,aj.sv,Ln.sv,Nd.sv]) (fun K hK=>?_)
 have hs:=fun id=>rq id [a.p,a.n] (by simp)
 conv in fc _ _ _ _=>reduce
 simp -implicitDefEqProofs only [Su.sv,Su.cells,go_sem,Int.reduceNegSucc]
 simp [lM] at hs
 have bq:=hs;repeat' (first | (simp -implicitDefEqProofs only [go_sem,Int.reduceNegSucc]) | (with_reducible refine az ?_) | ((first | refine cC (bq _) ?_ ?_ ?_ | refine dc (bq _) ?_ ?_ ?_ | fail);(focus (simp [aZ,ag] <;> fail));(focus (simp [bp,bk] <;> fail))) | ((first | refine ai (fun hg=>?_) (fun hg=>?_) | refine aA (fun hg=>?_) (fun hg=>?_) | refine aB (fun hg=>?_) (fun hg=>?_)) <;> try simp -implicitDefEqProofs only [hg,Bool.not_true,Bool.not_false]) | ((with_reducible apply And.intro);focus (first | trivial | omega | decide | (simp -implicitDefEqProofs only [maxLen];omega) | (simp [maxLen,an,aq,au,ay,ak,ax,av] <;> omega))) | fail)
 all_goals (refine (hK _ _ ?_).2;clear hK;simp -implicitDefEqProofs only [go_sem,Int.reduceNegSucc,br,bB,bJ,bN,aU,aQ,aP,nJ,rC] <;>(try simp_all [-Int.not_lt,-Int.not_le,aU,aQ,aP,bY,nJ,rC]) <;> try omega)
theorem Du (w:Int) (h:Sz):aJ Go.Proofs.Try.prog 25 [.rv (.int .i64 w),h.sv] [] [] (.rv (.bool (lW w h))):=by
 refine bz JX [.rv (.int .i64 w),h.sv] _ (by simp) (by simp [aN,aW,bn,aT,bf,aj.sv,Ln.sv,Nd.sv]) (fun K hK=>?_)
 conv in fc _ _ _ _=>reduce
 simp -implicitDefEqProofs only [Sz.sv,Sz.cells,go_sem,Int.reduceNegSucc]
 repeat' (first | (simp -implicitDefEqProofs only [go_sem,Int.reduceNegSucc]) | (with_reducible refine az ?_) | ((first | refine ai (fun hg=>?_) (fun hg=>?_) | refine aA (fun hg=>?_) (fun hg=>?_) | refine aB (fun hg=>?_) (fun hg=>?_)) <;> try simp -implicitDefEqProofs only [hg,Bool.not_true,Bool.not_false]) | ((with_reducible apply And.intro);focus (first | trivial | omega | decide | (simp -implicitDefEqProofs only [maxLen];omega) | (simp [maxLen,an,aq,au,ay,ak,ax,av] <;> omega))) | fail)
 all_goals (refine (hK _ _ ?_).2;clear hK;simp -implicitDefEqProofs only [go_sem,Int.reduceNegSucc,br,bB,bJ,bN,aU,aQ,aP,lW] <;>(try simp_all [-Int.not_lt,-Int.not_le,aU,aQ,aP,bY,lW]) <;> try omega)
end Go.aH

namespace Go.aH
open Go Go.Proofs
theorem Ep:bR Go.Proofs.Try.prog 2=some false:=by kernel_rfl
theorem Es:bR Go.Proofs.Try.prog 24=some true:=by kernel_rfl
theorem LS {rs:List RV} (h:eu Go.Proofs.Try.prog 1 2 rs):∃ i:Int,lf Go.Proofs.Try.prog 2 rs = .rv (.int .i64 i):=by
 obtain ⟨i,rfl⟩:=mX h
 exact ⟨i,wL Ep⟩
theorem LV {rs:List RV} (h:eu Go.Proofs.Try.prog 2 24 rs):∃ x:Sz,lf Go.Proofs.Try.prog 24 rs=x.sv:=by
 have h:=wB Try.underlying24 h
 obtain ⟨_,_,rfl,h1,_,_,rfl,h2,rfl⟩:=h
 obtain ⟨a,rfl⟩:=tI h1
 obtain ⟨b,rfl⟩:=mX h2
 exact ⟨⟨a,b⟩,EH Es⟩
end Go.aH

namespace Go.aH
open Go
theorem tH (a:Int):a.tdiv 10000=if 0≤a∨a % 10000=0 then a / 10000 else a / 10000+1:=by
 rw [Int.tdiv_eq_ediv]
 have:(10000:Int) ∣ a↔a % 10000=0:=Int.dvd_iff_emod_eq_zero
 simp -implicitDefEqProofs only [this]
 split <;> simp
theorem Oi (a:Int):a.tmod 10000=if 0≤a∨a % 10000=0 then a % 10000 else a % 10000 - 10000:=by
 rw [Int.tmod_eq_emod]
 have:(10000:Int) ∣ a↔a % 10000=0:=Int.dvd_iff_emod_eq_zero
 simp -implicitDefEqProofs only [this]
 split <;> simp
theorem Nz (a:Int) (h : -100000000000≤a) (h2:a≤100000000000):aJ Go.Proofs.Try.prog 81 [.rv (.int .i64 a),.rv (.int .i64 10000)] [] [] (.rv (.int .i64 (a / 10000))):=by
 refine bz JP [.rv (.int .i64 a),.rv (.int .i64 10000)] _ (by simp) (by simp [aN,aW,bn,aT,bf,aj.sv,Ln.sv,Nd.sv]) (fun K hK=>?_)
 have e1:IntKind.i64.wrap (a.tdiv 10000)=a.tdiv 10000:=wrap_i64 (by rw [tH];split <;> omega) (by rw [tH];split <;> omega)
 have e2:IntKind.i64.wrap (a.tdiv 10000 - 1)=a.tdiv 10000 - 1:=wrap_i64 (by rw [tH];split <;> omega) (by rw [tH];split <;> omega)
 conv in fc _ _ _ _=>reduce
 simp -implicitDefEqProofs only [go_sem,Int.reduceNegSucc]
 repeat' (first | (simp -implicitDefEqProofs only [go_sem,Int.reduceNegSucc,e1,e2]) | (with_reducible refine az ?_) | ((first | refine ai (fun hg=>?_) (fun hg=>?_) | refine aA (fun hg=>?_) (fun hg=>?_) | refine aB (fun hg=>?_) (fun hg=>?_)) <;> try simp -implicitDefEqProofs only [hg,Bool.not_true,Bool.not_false]) | ((with_reducible apply And.intro);focus (first | trivial | omega | decide | (simp -implicitDefEqProofs only [maxLen];omega) | (simp [maxLen,an,aq,au,ay,ak,ax,av] <;> omega))) | fail)
 all_goals (refine (hK _ _ (bM ?_)).2;clear hK;simp -implicitDefEqProofs only [decide_eq_true_eq,decide_eq_false_iff_not,Oi] at hg;simp [lk,tH];split at hg <;>(try intros) <;>(try split) <;> omega)
theorem Ma {b p:Int}:b / 10000*p+b % 10000*p / 10000=b*p / 10000:=by
 have h:b*p=b % 10000*p+10000*(b / 10000*p):=by
  conv=>lhs;rw [← Int.emod_add_mul_ediv b 10000]
  rw [Int.add_mul,Int.mul_assoc]
 rw [h,Int.add_mul_ediv_left _ _ (by decide)];omega
theorem Cv {a b A B:Int} (h0:0≤a) (h:a≤A) (h1 : -B≤b) (h2:b≤B) : -(A*B)≤a*b∧a*b≤A*B:=by
 have hB:0≤B:=by omega
 have e1:=Int.mul_le_mul_of_nonneg_left h2 h0
 have e2:=Int.mul_le_mul_of_nonneg_right h hB
 have e3:=Int.mul_le_mul_of_nonneg_left h1 h0
 rw [Int.mul_neg] at e3
 omega
theorem Nx (b p:Int):aJ Go.Proofs.Try.prog 64 [.rv (.int .i64 b),.rv (.int .i64 p)] [] [] (.aM [.rv (.int .i64 (tw b p)),.rv (.bool (oC b p))]):=by
 refine bz JN [.rv (.int .i64 b),.rv (.int .i64 p)] _ (by simp) (by simp [aN,aW,bn,aT,bf,aj.sv,Ln.sv,Nd.sv]) (fun K hK=>?_)
 conv in fc _ _ _ _=>reduce
 simp -implicitDefEqProofs only [go_sem,Int.reduceNegSucc]
 by_cases h:0≤b∧b≤1125899906842624∧-1000000≤p∧p≤1000000
 ·have g1:decide (b<0)=false:=decide_eq_false (by omega)
  have g2:decide (b>1125899906842624)=false:=decide_eq_false (by omega)
  have g3:decide (p < -1000000)=false:=decide_eq_false (by omega)
  have g4:decide (p>1000000)=false:=decide_eq_false (by omega)
  have q1:b.tdiv 10000=b / 10000:=Int.tdiv_eq_ediv_of_nonneg h.1
  have q2:b.tmod 10000=b % 10000:=Int.tmod_eq_emod_of_nonneg h.1
  have m1:=Cv (a:=b % 10000) (b:=p) (A:=9999) (B:=1000000) (by omega) (by omega) h.2.2.1 h.2.2.2
  have m2:=Cv (a:=b / 10000) (b:=p) (A:=112589990684) (B:=1000000) (by omega) (by omega) h.2.2.1 h.2.2.2
  have w1:IntKind.i64.wrap (b / 10000)=b / 10000:=wrap_i64 (by omega) (by omega)
  have w2:IntKind.i64.wrap (b % 10000*p)=b % 10000*p:=wrap_i64 (by omega) (by omega)
  have w3:IntKind.i64.wrap (b / 10000*p)=b / 10000*p:=wrap_i64 (by omega) (by omega)
  have w4:IntKind.i64.wrap (b / 10000*p+b % 10000*p / 10000)=b*p / 10000:=by rw [wrap_i64 (by omega) (by omega),Ma]
  have hd:=Nz (b % 10000*p) (by omega) (by omega)
  have hf:=gh (b*p / 10000)
  have e:oC b p=bS (b*p / 10000):=by simp [oC,h]
  have bq:=hd;have y_2:=hf;repeat' (first | (simp -implicitDefEqProofs only [go_sem,Int.reduceNegSucc,g1,g2,g3,g4,q1,q2,w1,w2,w3,w4]) | (with_reducible refine az ?_) | (with_reducible first | refine aC bq ?_ | refine aD bq ?_) | (with_reducible first | refine aC y_2 ?_ | refine aD y_2 ?_) | ((first | refine ai (fun hg=>?_) (fun hg=>?_) | refine aA (fun hg=>?_) (fun hg=>?_) | refine aB (fun hg=>?_) (fun hg=>?_)) <;> try simp -implicitDefEqProofs only [hg,Bool.not_true,Bool.not_false]) | ((with_reducible apply And.intro);focus (first | trivial | omega | decide | (simp -implicitDefEqProofs only [maxLen];omega) | (simp [maxLen,an,aq,au,ay,ak,ax,av] <;> omega))) | fail)
  all_goals (refine (hK _ _ (jU ?_ ?_)).2 <;> clear hK <;> simp_all [lk,tw])
 ·have e:oC b p=false:=by simp [oC];intro a1 a2 a3 a4;exact absurd ⟨a1,a2,a3,a4⟩ h
  repeat' (first | (simp -implicitDefEqProofs only [go_sem,Int.reduceNegSucc]) | (with_reducible refine az ?_) | ((first | refine ai (fun hg=>?_) (fun hg=>?_) | refine aA (fun hg=>?_) (fun hg=>?_) | refine aB (fun hg=>?_) (fun hg=>?_)) <;> try simp -implicitDefEqProofs only [hg,Bool.not_true,Bool.not_false]) | ((with_reducible apply And.intro);focus (first | trivial | omega | decide | (simp -implicitDefEqProofs only [maxLen];omega) | (simp [maxLen,an,aq,au,ay,ak,ax,av] <;> omega))) | fail)
  all_goals (first | (refine (hK _ _ (jU ?_ ?_)).2 <;> clear hK <;> simp [lk,tw,e];done) | (exfalso;simp at *;omega))
theorem oN (x:Ln) (b:Int) (has:Bool):aJ Go.Proofs.Try.prog 43 [x.sv,.rv (.int .i64 b),.rv (.bool has)] [] [] (.aM [(dD x b has).sv,.rv (.bool (ef x b has))]):=by
 refine bz Kg [x.sv,.rv (.int .i64 b),.rv (.bool has)] _ (by simp) (by simp [aN,aW,bn,aT,bf,aj.sv,Ln.sv,Nd.sv]) (fun K hK=>?_)
 have hf:=gh x.n
 have hp:=Nx b x.n
 conv in fc _ _ _ _=>reduce
 simp -implicitDefEqProofs only [Ln.sv,Ln.cells,Sz.sv,Sz.cells,go_sem,Int.reduceNegSucc]
 have bP:=hf;have bV:=hp;repeat' (first | (simp -implicitDefEqProofs only [go_sem,Int.reduceNegSucc]) | (with_reducible refine az ?_) | (with_reducible first | refine aC bP ?_ | refine aD bP ?_) | (with_reducible first | refine aC bV ?_ | refine aD bV ?_) | ((first | refine ai (fun hg=>?_) (fun hg=>?_) | refine aA (fun hg=>?_) (fun hg=>?_) | refine aB (fun hg=>?_) (fun hg=>?_)) <;> try simp -implicitDefEqProofs only [hg,Bool.not_true,Bool.not_false]) | ((with_reducible apply And.intro);focus (first | trivial | omega | decide | (simp -implicitDefEqProofs only [maxLen];omega) | (simp [maxLen,an,aq,au,ay,ak,ax,av] <;> omega))) | fail)
 all_goals (refine (hK _ _ ?_).2;clear hK;simp -implicitDefEqProofs only [go_sem,Int.reduceNegSucc,br,bB,bJ,bN,aU,aQ,aP,Sz.sv,Sz.cells,dD,ef] <;>(try simp_all [-Int.not_lt,-Int.not_le,aU,aQ,aP,bY,Sz.sv,Sz.cells,dD,ef]) <;> try omega)
theorem Dx (x:Ln) (b:Int) (has:Bool):aJ Go.Proofs.Try.prog 44 [x.sv,.rv (.int .i64 b),.rv (.bool has)] [] [] (.aM [.rv (.int .i64 (bh (dD x b has) 0)),.rv (.bool (ef x b has))]):=by
 refine bz Ke [x.sv,.rv (.int .i64 b),.rv (.bool has)] _ (by simp) (by simp [aN,aW,bn,aT,bf,aj.sv,Ln.sv,Nd.sv]) (fun K hK=>?_)
 have hf:=oN x b has
 have ho:=kz (dD x b has) 0
 conv in fc _ _ _ _=>reduce
 simp -implicitDefEqProofs only [Ln.sv,Ln.cells,Sz.sv,Sz.cells,go_sem,Int.reduceNegSucc] at *
 have cq:=hf;have bW:=ho;repeat' (first | (simp -implicitDefEqProofs only [go_sem,Int.reduceNegSucc]) | (with_reducible refine az ?_) | (with_reducible first | refine aC cq ?_ | refine aD cq ?_) | (with_reducible first | refine aC bW ?_ | refine aD bW ?_) | ((first | refine ai (fun hg=>?_) (fun hg=>?_) | refine aA (fun hg=>?_) (fun hg=>?_) | refine aB (fun hg=>?_) (fun hg=>?_)) <;> try simp -implicitDefEqProofs only [hg,Bool.not_true,Bool.not_false]) | ((with_reducible apply And.intro);focus (first | trivial | omega | decide | (simp -implicitDefEqProofs only [maxLen];omega) | (simp [maxLen,an,aq,au,ay,ak,ax,av] <;> omega))) | fail)
 exact (hK _ _ (jU rfl rfl)).2
theorem Dy (x:Ln) (b:Int) (has:Bool):aJ Go.Proofs.Try.prog 45 [x.sv,.rv (.int .i64 b),.rv (.bool has)] [] [] (.aM [.rv (.int .i64 (bh (dD x b has) 1125899906842624)),.rv (.bool (ef x b has))]):=by
 refine bz Kf [x.sv,.rv (.int .i64 b),.rv (.bool has)] _ (by simp) (by simp [aN,aW,bn,aT,bf,aj.sv,Ln.sv,Nd.sv]) (fun K hK=>?_)
 have hf:=oN x b has
 have ho:=kz (dD x b has) 1125899906842624
 conv in fc _ _ _ _=>reduce
 simp -implicitDefEqProofs only [Ln.sv,Ln.cells,Sz.sv,Sz.cells,go_sem,Int.reduceNegSucc] at *
 have cr:=hf;have cA:=ho;repeat' (first | (simp -implicitDefEqProofs only [go_sem,Int.reduceNegSucc]) | (with_reducible refine az ?_) | (with_reducible first | refine aC cr ?_ | refine aD cr ?_) | (with_reducible first | refine aC cA ?_ | refine aD cA ?_) | ((first | refine ai (fun hg=>?_) (fun hg=>?_) | refine aA (fun hg=>?_) (fun hg=>?_) | refine aB (fun hg=>?_) (fun hg=>?_)) <;> try simp -implicitDefEqProofs only [hg,Bool.not_true,Bool.not_false]) | ((with_reducible apply And.intro);focus (first | trivial | omega | decide | (simp -implicitDefEqProofs only [maxLen];omega) | (simp [maxLen,an,aq,au,ay,ak,ax,av] <;> omega))) | fail)
 exact (hK _ _ (jU rfl rfl)).2
end Go.aH

namespace Go.aH
open Go
theorem Ki:aV Go.Proofs.Try.prog 62 30 (fc Go.Proofs.Try.prog 62 30 [(.c 4 8 true),(.t 5)]) [(.c 4 8 true),(.t 5)]:=bl (by kernel_rfl)
theorem Kk:aV Go.Proofs.Try.prog 63 9 (fc Go.Proofs.Try.prog 63 9 [(.t 4)]) [(.t 4)]:=bl (by kernel_rfl)
theorem Ko:aV Go.Proofs.Try.prog 80 19 (fc Go.Proofs.Try.prog 80 19 [(.t 4)]) [(.t 4)]:=bl (by kernel_rfl)
theorem JS:aV Go.Proofs.Try.prog 41 137 (fc Go.Proofs.Try.prog 41 137 [(.c 8 28 true),(.t 9)]) [(.c 8 28 true),(.t 9)]:=bl (by kernel_rfl)
theorem BN:aV Go.Proofs.Try.prog 42 30 (fc Go.Proofs.Try.prog 42 30 [(.t 6),(.t 7)]) [(.t 6),(.t 7)]:=bl (by kernel_rfl)
theorem Js:aV Go.Proofs.Try.prog 83 24 (fc Go.Proofs.Try.prog 83 24 [(.t 4)]) [(.t 4)]:=bl (by kernel_rfl)
theorem Jt:aV Go.Proofs.Try.prog 84 76 (fc Go.Proofs.Try.prog 84 76 [(.t 4),(.t 5)]) [(.t 4),(.t 5)]:=bl (by kernel_rfl)
theorem tN:IntKind.i64.wrap (0+1)=1:=by decide
theorem tO:IntKind.i64.wrap (1+1)=2:=by decide
theorem tP:IntKind.i64.wrap (2+1)=3:=by decide
theorem tQ:IntKind.i64.wrap (3+1)=4:=by decide
theorem tR:IntKind.i64.wrap (4+1)=5:=by decide
theorem tS:IntKind.i64.wrap (5+1)=6:=by decide
theorem rR (n:Nat):((no_index (OfNat.ofNat n):Nat):Int)=OfNat.ofNat n:=rfl
def Q4.fo (q:Q4 Sz):List RV:=[.bool q.a.auto,.int .i64 q.a.n,.bool q.b.auto,.int .i64 q.b.n,.bool q.c.auto,.int .i64 q.c.n,.bool q.d.auto,.int .i64 q.d.n]
def zi (q:Q4 Ln) (b:Int):Q4 Sz:=⟨dD q.a b true,dD q.b b true,dD q.c b true,dD q.d b true⟩
def oJ (q:Q4 Ln) (b:Int):Bool:=ef q.a b true && ef q.b b true && ef q.c b true && ef q.d b true
def nH (q:Q4 Ln) (b:Int):Q4 Sz:=if oJ q b=true then zi q b else ⟨⟨false,0⟩,⟨false,0⟩,⟨false,0⟩,⟨false,0⟩⟩
theorem Dz (q:Q4 Ln) (b:Int):aJ Go.Proofs.Try.prog 62 [.agg (q.pW.map .rv),.rv (.int .i64 b)] [] [] (.aM [.agg ((nH q b).fo.map .rv),.rv (.bool (oJ q b))]):=by
 refine bz Ki [.agg (q.pW.map .rv),.rv (.int .i64 b)] _ (by simp) (by simp [aN,aW,bn,aT,bf,aj.sv,Ln.sv,Nd.sv]) (fun K hK=>?_)
 have ha:=oN q.a b true
 have hb:=oN q.b b true
 have hc:=oN q.c b true
 have hd:=oN q.d b true
 conv in fc _ _ _ _=>reduce
 simp -implicitDefEqProofs only [Q4.pW,Ln.sv,Ln.cells,Sz.sv,Sz.cells,go_sem,Int.reduceNegSucc] at *
 repeat' (first | (simp -implicitDefEqProofs only [go_sem,Int.reduceNegSucc]) | (with_reducible refine az ?_) | ((first | refine ai (fun hg=>?_) (fun hg=>?_) | refine aA (fun hg=>?_) (fun hg=>?_) | refine aB (fun hg=>?_) (fun hg=>?_)) <;> try simp -implicitDefEqProofs only [hg,Bool.not_true,Bool.not_false]) | ((with_reducible apply And.intro);focus (first | trivial | omega | decide | (simp -implicitDefEqProofs only [maxLen];omega) | (simp [maxLen,an,aq,au,ay,ak,ax,av] <;> omega))) | fail)
 refine so 5 ?_
 have bq:=ha;have y_2:=hb;have bP:=hc;have bV:=hd;repeat' (first | (simp -implicitDefEqProofs only [go_sem,Int.reduceNegSucc,tN,tO,tP,tQ,tR,tS,rR,Int.reduceLT,decide_true,decide_false,Int.reduceToNat,Nat.reduceMul]) | (with_reducible refine az ?_) | (with_reducible show G _ _ (It.l _ _::_) _ _ _;refine sn ?_) | (with_reducible first | refine aC bq ?_ | refine aD bq ?_) | (with_reducible first | refine aC y_2 ?_ | refine aD y_2 ?_) | (with_reducible first | refine aC bP ?_ | refine aD bP ?_) | (with_reducible first | refine aC bV ?_ | refine aD bV ?_) | ((first | refine ai (fun hg=>?_) (fun hg=>?_) | refine aA (fun hg=>?_) (fun hg=>?_) | refine aB (fun hg=>?_) (fun hg=>?_)) <;> try simp -implicitDefEqProofs only [hg,Bool.not_true,Bool.not_false]) | ((with_reducible apply And.intro);focus (first | trivial | omega | decide | (simp -implicitDefEqProofs only [maxLen];omega) | (simp [maxLen,an,aq,au,ay,ak,ax,av] <;> omega))) | fail)
 all_goals (refine (hK _ _ ?_).2;clear hK;simp -implicitDefEqProofs only [go_sem,Int.reduceNegSucc,br,bB,bJ,bN,aU,aQ,aP,nH,oJ,zi,Q4.fo] <;>(try simp_all [-Int.not_lt,-Int.not_le,aU,aQ,aP,bY,nH,oJ,zi,Q4.fo]) <;> try omega)
def yq (a b c d e:Bool):Int:=if a=false then 0 else if b=false then 1 else if c=false then 2 else if d=false then 3 else if e=false then 4 else -1
theorem Ng (a b c d e:Bool):aJ Go.Proofs.Try.prog 80 [.rv (.sl 1 [[.bool a],[.bool b],[.bool c],[.bool d],[.bool e]]),.rv (.bool false)] [] [] (.rv (.int .i64 (yq a b c d e))):=by
 refine bz Ko [.rv (.sl 1 [[.bool a],[.bool b],[.bool c],[.bool d],[.bool e]]),.rv (.bool false)] _ (by simp) (by simp [aN,aW,bn,aT,bf,aj.sv,Ln.sv,Nd.sv]) (fun K hK=>?_)
 conv in fc _ _ _ _=>reduce
 simp -implicitDefEqProofs only [go_sem,Int.reduceNegSucc]
 repeat' (first | (simp -implicitDefEqProofs only [go_sem,Int.reduceNegSucc]) | (with_reducible refine az ?_) | ((first | refine ai (fun hg=>?_) (fun hg=>?_) | refine aA (fun hg=>?_) (fun hg=>?_) | refine aB (fun hg=>?_) (fun hg=>?_)) <;> try simp -implicitDefEqProofs only [hg,Bool.not_true,Bool.not_false]) | ((with_reducible apply And.intro);focus (first | trivial | omega | decide | (simp -implicitDefEqProofs only [maxLen];omega) | (simp [maxLen,an,aq,au,ay,ak,ax,av] <;> omega))) | fail)
 refine so 6 ?_
 repeat' (first | (simp -implicitDefEqProofs only [go_sem,Int.reduceNegSucc,tN,tO,tP,tQ,tR,tS,rR,Int.reduceLT,decide_true,decide_false,Int.reduceToNat,Nat.reduceMul]) | (with_reducible refine az ?_) | (with_reducible show G _ _ (It.l _ _::_) _ _ _;refine sn ?_) | ((first | refine ai (fun hg=>?_) (fun hg=>?_) | refine aA (fun hg=>?_) (fun hg=>?_) | refine aB (fun hg=>?_) (fun hg=>?_)) <;> try simp -implicitDefEqProofs only [hg,Bool.not_true,Bool.not_false]) | ((with_reducible apply And.intro);focus (first | trivial | omega | decide | (simp -implicitDefEqProofs only [maxLen];omega) | (simp [maxLen,an,aq,au,ay,ak,ax,av] <;> omega))) | fail)
 all_goals (refine (hK _ _ (bM ?_)).2;clear hK;simp_all [lk,yq])
theorem MW (a b c d e:Bool):aJ Go.Proofs.Try.prog 63 [.rv (.sl 1 [[.bool a],[.bool b],[.bool c],[.bool d],[.bool e]]),.rv (.bool false)] [] [] (.rv (.bool !(a && b && c && d && e))):=by
 refine bz Kk [.rv (.sl 1 [[.bool a],[.bool b],[.bool c],[.bool d],[.bool e]]),.rv (.bool false)] _ (by simp) (by simp [aN,aW,bn,aT,bf,aj.sv,Ln.sv,Nd.sv]) (fun K hK=>?_)
 have hi:=Ng a b c d e
 have h5:decide (yq a b c d e≥0) = !(a && b && c && d && e):=by cases a <;> cases b <;> cases c <;> cases d <;> cases e <;> rfl
 conv in fc _ _ _ _=>reduce
 simp -implicitDefEqProofs only [go_sem,Int.reduceNegSucc]
 have cq:=hi;repeat' (first | (simp -implicitDefEqProofs only [go_sem,Int.reduceNegSucc,h5]) | (with_reducible refine az ?_) | (with_reducible first | refine aC cq ?_ | refine aD cq ?_) | ((first | refine ai (fun hg=>?_) (fun hg=>?_) | refine aA (fun hg=>?_) (fun hg=>?_) | refine aB (fun hg=>?_) (fun hg=>?_)) <;> try simp -implicitDefEqProofs only [hg,Bool.not_true,Bool.not_false]) | ((with_reducible apply And.intro);focus (first | trivial | omega | decide | (simp -implicitDefEqProofs only [maxLen];omega) | (simp [maxLen,an,aq,au,ay,ak,ax,av] <;> omega))) | fail)
 exact (hK _ _ (bM rfl)).2
theorem MX (j v:Nat) (a b c d e:Bool):aJ Go.Proofs.Try.prog 63 [.win j v 0 5,.rv (.bool false)] [(j,.var [.rv (.bool a),.rv (.bool b),.rv (.bool c),.rv (.bool d),.rv (.bool e)])] [] (.rv (.bool !(a && b && c && d && e))):=by
 refine uo (rs:=[.sl 1 [[.bool a],[.bool b],[.bool c],[.bool d],[.bool e]],.bool false]) (MW a b c d e) (fun hp hpre=>⟨?_,.rv _,trivial⟩) rfl (.rv _ (.bool _)) (by simp)
 refine .win j v 0 1 5 [.rv (.bool a),.rv (.bool b),.rv (.bool c),.rv (.bool d),.rv (.bool e)] _ rfl (hpre _ (.head _)) rfl (by simp) (by simp) (fun i r k q hi hk=>?_) (fun i r k y q hi hy hk=>?_)
 ·match i,k with
  | 0,0 | 1,0 | 2,0 | 3,0 | 4,0=>cases hi;cases hk;rfl
  | 0,k+1 | 1,k+1 | 2,k+1 | 3,k+1 | 4,k+1=>cases hi;simp at hk
  | i+5,k=>simp at hi
 ·match i,k with
  | 0,0 | 1,0 | 2,0 | 3,0 | 4,0=>cases hi;cases hk;cases hy;exact .rv _
  | 0,k+1 | 1,k+1 | 2,k+1 | 3,k+1 | 4,k+1=>cases hi;simp at hk
  | i+5,k=>simp at hi
structure Ed where
 bE:Q4 Sz
 pad:Q4 Sz
 bD:Q4 Int
 high:Sz
 least:Int
 most:Int
 alone:Bool
 flat:Bool
 qg:Bool
 oz:Bool
def Ed.cells (e:Ed):List RV:=e.bE.fo++e.pad.fo++e.bD.ints++[.bool e.high.auto,.int .i64 e.high.n,.int .i64 e.least,.int .i64 e.most,.bool e.alone,.bool e.flat,.bool e.qg,.bool e.oz]
def zw (s:aj) (w:Int):Bool:=(s.bD.a == 0) && ((nH s.pad w).a.n == 0)
def wQ (s:aj) (w:Int):Bool:=(s.bD.c == 0) && ((nH s.pad w).c.n == 0)
def vz (s:aj) (h:Sz):Int:=bh (dD s.fm h.n (!h.auto)) 0
def uL (s:aj) (w:Int) (h:Sz) (alone:Bool):Ed:=
 ⟨nH s.bE w,nH s.pad w,s.bD,dD s.height h.n (!h.auto),vz s h,bh (dD s.fl h.n (!h.auto)) 1125899906842624,alone,
  !alone && zw s w && wQ s w && (vz s h == 0),!alone && zw s w,!alone && wQ s w && (dD s.height h.n (!h.auto)).auto && (vz s h == 0)⟩
def uK (s:aj) (w:Int) (h:Sz):Bool:=oJ s.bE w && oJ s.pad w && ef s.height h.n (!h.auto) && ef s.fm h.n (!h.auto) && ef s.fl h.n (!h.auto)
theorem Nu (s:aj) (w:Int) (h:Sz) (alone:Bool):aJ Go.Proofs.Try.prog 41 [s.sv,.rv (.int .i64 w),h.sv,.rv (.bool alone)] [] [] (.aM [.agg ((uL s w h alone).cells.map .rv),.rv (.bool (uK s w h))]):=by
 refine bz JS [s.sv,.rv (.int .i64 w),h.sv,.rv (.bool alone)] _ (by simp) (by simp [aN,aW,bn,aT,bf,aj.sv,Ln.sv,Nd.sv]) (fun K hK=>?_)
 have h1:=Dz s.bE w
 have h2:=Dz s.pad w
 have h3:=oN s.height h.n (!h.auto)
 have h4:=Dx s.fm h.n (!h.auto)
 have h5:=Dy s.fl h.n (!h.auto)
 have h6:=fun j=>MX j 0 (oJ s.bE w) (oJ s.pad w) (ef s.height h.n (!h.auto)) (ef s.fm h.n (!h.auto)) (ef s.fl h.n (!h.auto))
 simp -implicitDefEqProofs only [uL,zw,wQ,vz,uK] at hK
 simp -implicitDefEqProofs only [Q4.fo,Sz.sv,Sz.cells,List.map_cons,List.map_nil] at h1 h2 h3 h4 h5
 generalize nH s.bE w=M at *
 generalize nH s.pad w=D at *
 generalize dD s.height h.n (!h.auto)=H at *
 generalize bh (dD s.fm h.n (!h.auto)) 0=L at *
 generalize bh (dD s.fl h.n (!h.auto)) 1125899906842624=X at *
 conv in fc _ _ _ _=>reduce
 simp -implicitDefEqProofs only [Sz.sv,Sz.cells,go_sem,Int.reduceNegSucc]
 cases alone <;>(have bW:=h1;have cr:=h2;have cA:=h3;have cT:=h4;have de:=h5;have eL:=h6;repeat' (first | (simp -implicitDefEqProofs only [go_sem,Int.reduceNegSucc,gj,iH,gk,iI,gC,iT,gN,je,gY,jr,ig,jA,ij,jB,iq,jC,ir,jD,iu,jE,gl,iJ,gn,iK,gp,iL,gq,iM,gu,iN,gw,iO,gx,iP,gz,iQ,gA,iR,gB,iS,gD,iU,gE,iV,gF,iW,gG,iX,gH,iY,gI,iZ,gJ,ja,gK,jb,gL,jc,gM,jd,gO,jf,gP,jg,gQ,jh,gR,ji,gS,jk,gT,jl,gU,jm,gV,jn,gW,jo,gX,jq,gZ,js,hD,jt,fT,ju,hJ,jv,hU,jw,ia,jx,ic,jy,ie,jz,iC,iw,iy,iz,iA,iB,iD,iE,iF,iG,gi,fS,an,Q4.ints]) | (with_reducible refine az ?_) | (with_reducible first | refine aC bW ?_ | refine aD bW ?_) | (with_reducible first | refine aC cr ?_ | refine aD cr ?_) | (with_reducible first | refine aC cA ?_ | refine aD cA ?_) | (with_reducible first | refine aC cT ?_ | refine aD cT ?_) | (with_reducible first | refine aC de ?_ | refine aD de ?_) | ((first | refine cC (eL _) ?_ ?_ ?_ | refine dc (eL _) ?_ ?_ ?_ | fail);(focus (simp [aZ,ag] <;> fail));(focus (simp [bp,bk] <;> fail))) | ((first | refine ai (fun hg=>?_) (fun hg=>?_) | refine aA (fun hg=>?_) (fun hg=>?_) | refine aB (fun hg=>?_) (fun hg=>?_)) <;> try simp -implicitDefEqProofs only [hg,Bool.not_true,Bool.not_false]) | ((with_reducible apply And.intro);focus (first | trivial | omega | decide | (simp -implicitDefEqProofs only [maxLen];omega) | (simp [maxLen,an,aq,au,ay,ak,ax,av] <;> omega))) | fail))
 all_goals (refine (hK _ _ ?_).2;clear hK;simp -implicitDefEqProofs only [go_sem,Int.reduceNegSucc,br,bB,bJ,bN,aU,aQ,aP,Ed.cells,Q4.fo,Q4.ints] <;>(try simp_all [-Int.not_lt,-Int.not_le,aU,aQ,aP,bY,Ed.cells,Q4.fo,Q4.ints]) <;> try omega)
end Go.aH

namespace Go.aH
open Go
def Pn (i j m k:Nat):Option Nat:=if k=j then some i else if k=i then none else if k<m then some k else none
def Pm (i j k:Nat):Nat:=if k=i then j else k
end Go.aH

namespace Go.aH
open Go
theorem zR {P:Program} {f:FuncId} {ew:List U} {args:List U} {pre us:List (Nat×HB)} {sv:U} (H:aJ P f ew [] us sv) (hl:args.length=ew.length)
 (hz:∀ hp,aZ hp pre→∀ (j:Nat) (y x:U),args[j]?=some y→ew[j]?=some x→Rn (fun _=>none) hp y x) (hfl:dA sv) (eR:∀ q∈us,mu q.2∧∀ p∈pre,p.1≠q.1):aJ P f args pre us sv:=by
 refine ⟨H.1,fun C hp w aa vs hpre hnew R hvl hvs=>?_⟩
 let C2:Ctx:=⟨w,fun b=>aF C aa hp b∨∃ id,(hp id).isSome=true∧aa id=some b,fun _=>False,C.N,fun _=>none,fun _=>none⟩
 have pR:∀ b,C2.tn b→aF C2 (fun _=>none) (fun _=>none) b:=fun b hb=>⟨.inl hb,fun id hid=>by simp at hid⟩
 have R2:bK C2 (fun _=>none) w (fun _=>none):=⟨fun id hb h=>(by cases h),fun i j b h=>(by simp at h),fun i b h=>(by simp at h),⟨rfl,rfl,rfl,Nat.le_refl _,fun b _ _=>rfl⟩,fun id hb hb0 h=>(by cases h)⟩
 have nA:∀ id,id∈us.map (·.1)→hp id=none∧C.h0 id=none:=fun id hid=>by
  obtain ⟨q,hq,rfl⟩:=List.mem_map.1 hid
  rcases hnew q hq with ⟨hb,hm⟩ | h
  ·exact absurd rfl ((eR q hq).2 (q.1,hb) hm)
  ·exact h
 refine (H.2 C2 (fun _=>none) w (fun _=>none) vs (fun q hq=>by simp at hq) (fun q hq=>.inr ⟨rfl,rfl⟩) R2 (by simp [hvl,hl]) (fun j s hj=>?_)).mono ?_
 ·have hlt:=(List.getElem?_eq_some_iff.1 hj).1
  have hy:=List.getElem?_eq_getElem (l:=args) (i:=j) (by omega)
  exact Rp.leave (τ:=fun _=>none) (fun b hb=>pR b (.inl hb)) (fun i b _ hi hb=>pR b (.inr ⟨i,hi,hb⟩)) (fun i hb hi=>R.heap i hb hi) (fun j id h=>by cases h) (hvs j _ hy) (hz hp hpre j _ s hy hj)
 ·rintro e w' ⟨v,aG,rfl,S,hR⟩
  have R':=S.mem
  have dr:∀ b,b<w.heap.size→w'.heap[b]?=w.heap[b]?:=fun b hb=>R'.fr.block b hb (fun h=>h)
  have hsz:w.heap.size≤w'.heap.size:=R'.fr.size
  have nB:∀ id b,id∈us.map (·.1)→aG id=some b→w.heap.size≤b∧b<w'.heap.size:=fun id b hid hb=>by
   obtain ⟨h1,h2⟩:=R'.own id b (kY.2 hid) hb
   rcases h1 with ⟨a,_⟩ | a
   ·cases a
   ·exact ⟨a,h2⟩
  let cI:Nat→Option Nat:=fun id=>if id∈us.map (·.1) then aG id else aa id
  have rT:∀ id,id∈us.map (·.1)→cI id=aG id:=fun id h=>if_pos h
  have rN:∀ id,id∉us.map (·.1)→cI id=aa id:=fun id h=>if_neg h
  have hN:∀ id,id∉us.map (·.1)→bu hp us id=hp id:=fun id h=>wE h
  have hT:∀ id,id∈us.map (·.1)→bu hp us id=bu (fun _=>none) us id:=fun id h=>tL h
  have hs:∀ j,(bu (fun _=>none) us j).isSome=true→bu hp us j=bu (fun _=>none) us j∧cI j=aG j:=fun j hj=>⟨hT j (kY.1 hj),rT j (kY.1 hj)⟩
  have qb:∀ b,aF C aa hp b→b<w.heap.size→aF C cI (bu hp us) b∧w'.heap[b]?=w.heap[b]?:=fun b hb hlt=>by
   refine ⟨⟨hb.1,fun id hid he=>?_⟩,dr b hlt⟩
   by_cases hm:id∈us.map (·.1)
   ·rw [rT id hm] at he
    have:=(nB id b hm he).1;omega
   ·rw [hN id hm] at hid
    rw [rN id hm] at he
    exact hb.2 id hid he
  have E:dZ w w' (aF C aa hp) (aF C cI (bu hp us)) aa cI hp (bu hp us):=dZ.of qb (fun id hb hq=>by
   have hm:id∉us.map (·.1):=fun hm=>by rw [(nA id hm).1] at hq;cases hq
   refine ⟨hb,by rw [hN id hm];exact hq,?_⟩
   rw [rN id hm]
   cases hb with
   | var cs=>rfl
   | row e af xs=>exact ⟨Nat.le_refl _,fun _=>⟨rfl,rfl,fun b hb cur t hc=>⟨cur,t,by rw [dr b (R.own id b (by rw [hq];rfl) hb).2];exact hc,rfl⟩⟩⟩)
  refine ⟨v,cI,rfl,⟨⟨fun id hb hq=>?_,fun i j b h1 h2 h3 h4=>?_,fun id b h1 h2=>?_,⟨R'.fr.os.trans R.fr.os,R'.fr.tape.trans R.fr.tape,R'.fr.output.trans R.fr.output,Nat.le_trans R.fr.size hsz,fun b h1 h2=>?_⟩,fun id hb hb0 h1 h2=>?_⟩,E⟩,hR.flat hs hfl⟩
  ·by_cases hm:id∈us.map (·.1)
   ·rw [hT id hm] at hq
    have xS:mu hb:=by
     rcases DS hq with h | h
     ·cases h
     ·exact (eR _ h).1
    exact (R'.heap id hb hq).flat hs (kY.2 hm) xS
   ·rw [hN id hm] at hq
    rcases R.heap id hb hq with ⟨a1,a2⟩ | ⟨b,cur,t,a1,a2,a3⟩
    ·exact .inl ⟨(rN id hm).trans a1,a2⟩
    ·refine .inr ⟨b,cur,t,(rN id hm).trans a1,?_,a3.mono E⟩
     rw [dr b (R.own id b (by rw [hq];rfl) a1).2];exact a2
  ·by_cases hi:i∈us.map (·.1) <;> by_cases hj:j∈us.map (·.1)
   ·rw [rT i hi] at h3;rw [rT j hj] at h4
    exact R'.inj i j b (kY.2 hi) (kY.2 hj) h3 h4
   ·rw [rT i hi] at h3;rw [rN j hj] at h4;rw [hN j hj] at h2
    have h5:=nB i b hi h3;have h6:=R.own j b h2 h4;omega
   ·rw [rN i hi] at h3;rw [rT j hj] at h4;rw [hN i hi] at h1
    have h5:=nB j b hj h4;have h6:=R.own i b h1 h3;omega
   ·rw [rN i hi] at h3;rw [rN j hj] at h4;rw [hN i hi] at h1;rw [hN j hj] at h2
    exact R.inj i j b h1 h2 h3 h4
  ·by_cases hm:id∈us.map (·.1)
   ·rw [rT id hm] at h2
    obtain ⟨a1,a2⟩:=nB id b hm h2
    exact ⟨.inr (Nat.le_trans R.fr.size a1),a2⟩
   ·rw [hN id hm] at h1;rw [rN id hm] at h2
    obtain ⟨a1,a2⟩:=R.own id b h1 h2
    exact ⟨a1,by omega⟩
  ·rw [dr b (by have:=R.fr.size;omega)];exact R.fr.block b h1 h2
  ·by_cases hm:id∈us.map (·.1)
   ·rw [(nA id hm).2] at h2;cases h2
   ·rw [hN id hm] at h1
    have ev:=R.eE id hb hb0 h1 h2
    obtain ⟨hb',g1,g2⟩:∃ hb',bu hp us id=some hb'∧eo w w' (aa id) (cI id) hb hb':=by
     refine ⟨hb,by rw [hN id hm];exact h1,?_⟩
     rw [rN id hm]
     cases hb with
     | var cs=>rfl
     | row e af xs=>exact ⟨Nat.le_refl _,fun _=>⟨rfl,rfl,fun b hb cur t hc=>⟨cur,t,by rw [dr b (R.own id b (by rw [h1];rfl) hb).2];exact hc,rfl⟩⟩⟩
    rw [hN id hm,h1] at g1;cases g1
    exact ev.trans g2
theorem As {n0:Nat} {env:List (Nat×U)} {h:List (Option HB)} (i0 e o:Nat) {cs:List U} (hi:ag h i0=some (.var cs)) (ho:cs[o]?=some (.rv .bQ)):cB n0 ⟨env,h⟩ ⟨env,bk (bk h (h.length,.row e 0 [])) (i0,.var (cs.set o (.row h.length 0 0)))⟩:=by
 intro C a w R
 obtain ⟨⟨aa,RF⟩,h1,h0⟩:=R
 have hnone:ag h h.length=none:=by unfold ag;rw [List.getElem?_eq_none (Nat.le_refl _)]
 have sq:C.h0 h.length=none:=h0 _ h1
 obtain ⟨aG,S⟩:=RF.mem.AJ e hi ho hnone sq
 have fJ:=RF.step S
 have hlt:i0<h.length:=by
  apply Classical.byContradiction
  intro hc
  unfold ag at hi
  rw [List.getElem?_eq_none (by omega)] at hi;cases hi
 have e1:=ve (h:=h) (q:=(h.length,.row e 0 [])) (Nat.le_refl _)
 have l1:=rB h (h.length,.row e 0 [])
 have e2:=ve (h:=bk h (h.length,.row e 0 [])) (q:=(i0,.var (cs.set o (.row h.length 0 0)))) (by show i0≤_;omega)
 have l2:=rB (bk h (h.length,.row e 0 [])) (i0,.var (cs.set o (.row h.length 0 0)))
 refine ⟨⟨aG,?_⟩,?_,h0⟩
 ·show eM C (lk env) (ag (bk (bk h (h.length,.row e 0 [])) (i0,.var (cs.set o (.row h.length 0 0))))) a w aG
  rw [e2,e1];exact fJ
 ·have GU:n0≤h.length:=h1
  show n0≤(bk (bk h (h.length,.row e 0 [])) (i0,.var (cs.set o (.row h.length 0 0)))).length
  omega
end Go.aH

namespace Go.aH
open Go
theorem Ju:aV Go.Proofs.Try.prog 67 53 (fc Go.Proofs.Try.prog 67 53 [(.c 4 3 true),(.t 5),(.t 6)]) [(.c 4 3 true),(.t 5),(.t 6)]:=bl (by kernel_rfl)
theorem Jx:aV Go.Proofs.Try.prog 82 27 (fc Go.Proofs.Try.prog 82 27 [(.t 4)]) [(.t 4)]:=bl (by kernel_rfl)
structure Ai where
 base:Int
 left:Sz
 wide:Sz
 right:Sz
 around:Int
 bZ:Bool
 least:Int
 most:Int
def Ai.cells (i:Ai):List RV:=[.int .i64 i.base,.bool i.left.auto,.int .i64 i.left.n,.bool i.wide.auto,.int .i64 i.wide.n,.bool i.right.auto,.int .i64 i.right.n,.int .i64 i.around,.bool i.bZ,.int .i64 i.least,.int .i64 i.most]
abbrev Ai.sv (i:Ai):U:=.agg (i.cells.map .rv)
structure Ao where
 l:Int
 w:Int
 r:Int
def Ao.cells (o:Ao):List RV:=[.int .i64 o.l,.int .i64 o.w,.int .i64 o.r]
def tg (i:Ai) (w:Int):Int×Int:=
 if ¬ i.base - i.around - w - bh i.left 0 - bh i.right 0<0∧i.left.auto=true∧i.right.auto=true then ((i.base - i.around - w) / 2,i.base - i.around - w - (i.base - i.around - w) / 2)
 else if ¬ i.base - i.around - w - bh i.left 0 - bh i.right 0<0∧i.left.auto=true∨i.bZ=true∧(i.base - i.around - w - bh i.left 0 - bh i.right 0<0∨i.right.auto=false) then (i.base - i.around - w - bh i.right 0,bh i.right 0)
 else (bh i.left 0,i.base - i.around - w - bh i.left 0)
def eN (i:Ai) (s:Sz):Ao:=if s.auto=true then ⟨bh i.left 0,i.base - i.around - bh i.left 0 - bh i.right 0,bh i.right 0⟩ else ⟨(tg i s.n).1,s.n,(tg i s.n).2⟩
def rI (i:Ai) (s:Sz):Bool:=bS (eN i s).l && bS (eN i s).w && bS (eN i s).r
structure Fit (i:Ai):Prop where
 b:bS i.base=true
 a:bS i.around=true
 l:bS (bh i.left 0)=true
 r:bS (bh i.right 0)=true
theorem ND (i:Ai) (xs:List Int) (hb:bS i.base=true) (ha:bS i.around=true) (hx:∀ x∈xs,bS x=true) (hl:xs.length≤100):aJ Go.Proofs.Try.prog 83 [i.sv,.rv (.sl 1 (aL xs))] [] [] (.rv (.int .i64 (i.base - i.around - xs.sum))):=by
 refine bz Js [i.sv,.rv (.sl 1 (aL xs))] _ (by simp) (by simp [aN,aW,bn,aT,bf,aj.sv,Ln.sv,Nd.sv]) (fun K hK=>?_)
 have sF:=ak xs
 rw [mH] at hb ha
 have w0:IntKind.i64.wrap (i.base - i.around)=i.base - i.around:=wrap_i64 (by omega) (by omega)
 conv in fc _ _ _ _=>reduce
 simp -implicitDefEqProofs only [Ai.sv,Ai.cells,go_sem,Int.reduceNegSucc]
 repeat' (first | (simp -implicitDefEqProofs only [go_sem,Int.reduceNegSucc,sF,w0]) | (with_reducible refine az ?_) | ((first | refine ai (fun hg=>?_) (fun hg=>?_) | refine aA (fun hg=>?_) (fun hg=>?_) | refine aB (fun hg=>?_) (fun hg=>?_)) <;> try simp -implicitDefEqProofs only [hg,Bool.not_true,Bool.not_false]) | ((with_reducible apply And.intro);focus (first | trivial | omega | decide | (simp -implicitDefEqProofs only [maxLen];omega) | (simp [maxLen,an,aq,au,ay,ak,ax,av] <;> omega))) | fail)
 refine cN (ι:=Nat) (fun k=>[(15,.rv (.int .i64 k)),(14,.rv (.int .i64 xs.length)),(13,.rv (.sl 1 (aL xs))),(5,.rv (.int .i64 (i.base - i.around - (xs.take k).sum)))]) (fun _=>[some (.var (i.cells.map .rv))]) (fun k=>k≤xs.length∧-(1125899906842624*k)≤(xs.take k).sum∧(xs.take k).sum≤1125899906842624*k) (fun k=>xs.length - k) 0 (by simp) (bw (by simp [lk])) (fun k hk K' hN hX hR=>?_)
 obtain ⟨ct,hk2,cU⟩:=hk
 simp -implicitDefEqProofs only [go_sem,Int.reduceNegSucc]
 refine ai (fun hg=>?_) (fun hg=>?_)
 ·have aE:k<xs.length:=by simp at hg;omega
  have hg:=ov aE
  have wu:=cu (k:=k) (by omega)
  have hf:=mH.1 (hx _ (List.getElem_mem aE))
  have hst:=DK aE
  have ws:IntKind.i64.wrap (i.base - i.around - (xs.take k).sum - xs[k])=i.base - i.around - (xs.take (k+1)).sum:=by rw [wrap_i64 (by omega) (by omega),hst];omega
  repeat' (first | (simp -implicitDefEqProofs only [go_sem,Int.reduceNegSucc,hg,sF,wu,ws]) | (with_reducible refine az ?_) | ((first | refine ai (fun hg=>?_) (fun hg=>?_) | refine aA (fun hg=>?_) (fun hg=>?_) | refine aB (fun hg=>?_) (fun hg=>?_)) <;> try simp -implicitDefEqProofs only [hg,Bool.not_true,Bool.not_false]) | ((with_reducible apply And.intro);focus (first | trivial | omega | decide | (simp -implicitDefEqProofs only [maxLen];omega) | (simp [maxLen,an,aq,au,ay,ak,ax,av] <;> omega))) | fail)
  exact hN (k+1) _ _ ⟨by omega,by omega,by omega⟩ (by omega) (bw (by simp [lk]))
 ·have aE:k=xs.length:=by simp at hg;omega
  subst aE
  simp -implicitDefEqProofs only [go_sem,Int.reduceNegSucc]
  refine hX _ _ _ ?_
  rw [List.take_length]
  repeat' (first | (simp -implicitDefEqProofs only [go_sem,Int.reduceNegSucc]) | (with_reducible refine az ?_) | ((first | refine ai (fun hg=>?_) (fun hg=>?_) | refine aA (fun hg=>?_) (fun hg=>?_) | refine aB (fun hg=>?_) (fun hg=>?_)) <;> try simp -implicitDefEqProofs only [hg,Bool.not_true,Bool.not_false]) | ((with_reducible apply And.intro);focus (first | trivial | omega | decide | (simp -implicitDefEqProofs only [maxLen];omega) | (simp [maxLen,an,aq,au,ay,ak,ax,av] <;> omega))) | fail)
  exact (hK _ _ (bM rfl)).2
theorem zl (i:Ai) (xs:List Int) (hb:bS i.base=true) (ha:bS i.around=true) (hx:∀ x∈xs,bS x=true) (hl:xs.length≤100) (id:Nat):aJ Go.Proofs.Try.prog 83 [i.sv,.row id 0 xs.length] [(id,.row 1 0 (lM xs))] [] (.rv (.int .i64 (i.base - i.around - xs.sum))):=by
 refine zR (ew:=[i.sv,.rv (.sl 1 (aL xs))]) (ND i xs hb ha hx hl) rfl (fun hp hpre k y r hy hr=>?_) (.rv _ (.int _ _)) (by simp)
 match k with
 | 0=>cases hy;cases hr;exact aU.2 (cL.2 rfl)
 | 1=>
   cases hy;cases hr
   have:=pH (h:=hp) (τ:=fun _=>none) (j:=id) (e:=1) (af:=0) (len:=xs.length) (xs:=aL xs) (by rw [← Bw];exact hpre _ (.head _)) rfl (by rw [ak];omega) (lO _)
   rw [List.take_of_length_le (by rw [ak];omega)] at this
   exact .fz _ _ this
 | k+2=>simp at hy
theorem LX {x:Sz} (h:x.auto=false) (d:Int):bh x d=x.n:=by simp [bh,h]
theorem NG (i:Ai) (w:Int) (hf:Fit i) (hw:bS w=true):aJ Go.Proofs.Try.prog 84 [i.sv,.rv (.int .i64 w)] [] [] (.aM [.rv (.int .i64 (tg i w).1),.rv (.int .i64 (tg i w).2)]):=by
 refine bz Jt [i.sv,.rv (.int .i64 w)] _ (by simp) (by simp [aN,aW,bn,aT,bf,aj.sv,Ln.sv,Nd.sv]) (fun K hK=>?_)
 have h1:=kz i.left 0
 have h2:=kz i.right 0
 have h3:=zl i [w] hf.b hf.a (by simp [hw]) (by simp)
 have h4:=zl i [w,bh i.left 0,bh i.right 0] hf.b hf.a (by simp [hw,hf.l,hf.r]) (by simp)
 have q1:=mH.1 hf.b
 have q2:=mH.1 hf.a
 have q3:=mH.1 hf.l
 have q4:=mH.1 hf.r
 have q5:=mH.1 hw
 have h5:=Nw (i.base - i.around - w)
 have w1:IntKind.i64.wrap (i.base - i.around - w - (i.base - i.around - w) / 2)=i.base - i.around - w - (i.base - i.around - w) / 2:=wrap_i64 (by omega) (by omega)
 have w2:IntKind.i64.wrap (i.base - i.around - w - bh i.right 0)=i.base - i.around - w - bh i.right 0:=wrap_i64 (by omega) (by omega)
 have w3:IntKind.i64.wrap (i.base - i.around - w - bh i.left 0)=i.base - i.around - w - bh i.left 0:=wrap_i64 (by omega) (by omega)
 have e1:[w].sum=w:=by simp
 have e2:i.base - i.around - [w,bh i.left 0,bh i.right 0].sum=i.base - i.around - w - bh i.left 0 - bh i.right 0:=by simp;omega
 rw [e1] at h3
 rw [e2] at h4
 simp -implicitDefEqProofs only [lM,List.map_cons,List.map_nil,List.length_cons,List.length_nil,Ai.sv,Ai.cells,Sz.sv,Sz.cells,Nat.reduceAdd] at h1 h2 h3 h4
 simp -implicitDefEqProofs only [tg] at hK
 conv in fc _ _ _ _=>reduce
 simp -implicitDefEqProofs only [Ai.sv,Ai.cells,go_sem,Int.reduceNegSucc]
 generalize bh i.left 0=L at *
 generalize bh i.right 0=R at *
 cases hl:i.left.auto <;> cases hr:i.right.auto <;> cases ht:i.bZ <;> simp -implicitDefEqProofs only [hl,hr,ht] at h1 h2 h3 h4 hK ⊢ <;> by_cases Bm:i.base - i.around - w - L - R<0 <;> simp -implicitDefEqProofs only [Bm,decide_true,decide_false] at hK ⊢
 all_goals ((have bq:=h1;have y_2:=h2;have bP:=h3;have bV:=h4;have cq:=h5;repeat' (first | (simp -implicitDefEqProofs only [go_sem,Int.reduceNegSucc,w1,w2,w3,Bm,decide_true,decide_false]) | (with_reducible refine az ?_) | (with_reducible first | refine aC bq ?_ | refine aD bq ?_) | (with_reducible first | refine aC y_2 ?_ | refine aD y_2 ?_) | ((first | refine cC (bP _) ?_ ?_ ?_ | refine dc (bP _) ?_ ?_ ?_ | fail);(focus (simp [aZ,ag] <;> fail));(focus (simp [bp,bk] <;> fail))) | ((first | refine cC (bV _) ?_ ?_ ?_ | refine dc (bV _) ?_ ?_ ?_ | fail);(focus (simp [aZ,ag] <;> fail));(focus (simp [bp,bk] <;> fail))) | (with_reducible first | refine aC cq ?_ | refine aD cq ?_) | ((first | refine ai (fun hg=>?_) (fun hg=>?_) | refine aA (fun hg=>?_) (fun hg=>?_) | refine aB (fun hg=>?_) (fun hg=>?_)) <;> try simp -implicitDefEqProofs only [hg,Bool.not_true,Bool.not_false]) | ((with_reducible apply And.intro);focus (first | trivial | omega | decide | (simp -implicitDefEqProofs only [maxLen];omega) | (simp [maxLen,an,aq,au,ay,ak,ax,av] <;> omega))) | fail)))
 all_goals (refine (hK _ _ (jU rfl rfl)).2)
theorem NQ (i:Ai) (s:Sz) (hf:Fit i) (hs:s.auto=false→bS s.n=true):aJ Go.Proofs.Try.prog 67 [i.sv,s.sv] [] [] (.aM [.agg ((eN i s).cells.map .rv),.rv (.int .i64 (eN i s).w),.rv (.bool (rI i s))]):=by
 refine bz Ju [i.sv,s.sv] _ (by simp) (by simp [aN,aW,bn,aT,bf,aj.sv,Ln.sv,Nd.sv]) (fun K hK=>?_)
 have h1:=kz i.left 0
 have h2:=kz i.right 0
 have h3:=zl i [bh i.left 0,bh i.right 0] hf.b hf.a (by simp [hf.l,hf.r]) (by simp)
 have f1:=gh (eN i s).l
 have f2:=gh (eN i s).w
 have f3:=gh (eN i s).r
 have e2:i.base - i.around - [bh i.left 0,bh i.right 0].sum=i.base - i.around - bh i.left 0 - bh i.right 0:=by simp;omega
 rw [e2] at h3
 simp -implicitDefEqProofs only [rI] at hK
 simp -implicitDefEqProofs only [lM,List.map_cons,List.map_nil,List.length_cons,List.length_nil,Ai.sv,Ai.cells,Sz.sv,Sz.cells,Nat.reduceAdd,Ao.cells,eN] at h1 h2 h3 hK f1 f2 f3
 conv in fc _ _ _ _=>reduce
 simp -implicitDefEqProofs only [Ai.sv,Ai.cells,Sz.sv,Sz.cells,go_sem,Int.reduceNegSucc]
 cases ha:s.auto with
 | true=>
   simp -implicitDefEqProofs only [ha,if_true] at hK f1 f2 f3
   have bW:=h1;have cr:=h2;have cA:=h3;have cT:=f1;have de:=f2;have eL:=f3;repeat' (first | (simp -implicitDefEqProofs only [go_sem,Int.reduceNegSucc]) | (with_reducible refine az ?_) | (with_reducible first | refine aC bW ?_ | refine aD bW ?_) | (with_reducible first | refine aC cr ?_ | refine aD cr ?_) | ((first | refine cC (cA _) ?_ ?_ ?_ | refine dc (cA _) ?_ ?_ ?_ | fail);(focus (simp [aZ,ag] <;> fail));(focus (simp [bp,bk] <;> fail))) | (with_reducible first | refine aC cT ?_ | refine aD cT ?_) | (with_reducible first | refine aC de ?_ | refine aD de ?_) | (with_reducible first | refine aC eL ?_ | refine aD eL ?_) | ((first | refine ai (fun hg=>?_) (fun hg=>?_) | refine aA (fun hg=>?_) (fun hg=>?_) | refine aB (fun hg=>?_) (fun hg=>?_)) <;> try simp -implicitDefEqProofs only [hg,Bool.not_true,Bool.not_false]) | ((with_reducible apply And.intro);focus (first | trivial | omega | decide | (simp -implicitDefEqProofs only [maxLen];omega) | (simp [maxLen,an,aq,au,ay,ak,ax,av] <;> omega))) | fail)
   all_goals (refine (hK _ _ ?_).2;clear hK;simp -implicitDefEqProofs only [go_sem,Int.reduceNegSucc,br,bB,bJ,bN,aU,aQ,aP] <;>(try simp_all [-Int.not_lt,-Int.not_le,aU,aQ,aP,bY]) <;> try omega)
 | false=>
   have h4:=NG i s.n hf (hs ha)
   simp -implicitDefEqProofs only [Ai.sv,Ai.cells,List.map_cons,List.map_nil] at h4
   simp -implicitDefEqProofs only [ha,Bool.false_eq_true,if_false] at hK f1 f2 f3
   have jY:=h1;have jZ:=h2;have ke:=h4;have mh:=f1;have mj:=f2;have mm:=f3;repeat' (first | (simp -implicitDefEqProofs only [go_sem,Int.reduceNegSucc]) | (with_reducible refine az ?_) | (with_reducible first | refine aC jY ?_ | refine aD jY ?_) | (with_reducible first | refine aC jZ ?_ | refine aD jZ ?_) | (with_reducible first | refine aC ke ?_ | refine aD ke ?_) | (with_reducible first | refine aC mh ?_ | refine aD mh ?_) | (with_reducible first | refine aC mj ?_ | refine aD mj ?_) | (with_reducible first | refine aC mm ?_ | refine aD mm ?_) | ((first | refine ai (fun hg=>?_) (fun hg=>?_) | refine aA (fun hg=>?_) (fun hg=>?_) | refine aB (fun hg=>?_) (fun hg=>?_)) <;> try simp -implicitDefEqProofs only [hg,Bool.not_true,Bool.not_false]) | ((with_reducible apply And.intro);focus (first | trivial | omega | decide | (simp -implicitDefEqProofs only [maxLen];omega) | (simp [maxLen,an,aq,au,ay,ak,ax,av] <;> omega))) | fail)
   all_goals (refine (hK _ _ ?_).2;clear hK;simp -implicitDefEqProofs only [go_sem,Int.reduceNegSucc,br,bB,bJ,bN,aU,aQ,aP] <;>(try simp_all [-Int.not_lt,-Int.not_le,aU,aQ,aP,bY]) <;> try omega)
theorem wq (i:Ai) (s:Sz) (hf:Fit i) (hs:s.auto=false→bS s.n=true) (j:Nat) (o:Ao) (n:Int):aJ Go.Proofs.Try.prog 82 [.ptr j 0,s.sv]
 [(j,.var (U.bX 67 [i.sv]::(o.cells++[RV.int .i64 n]).map .rv))] [(j,.var (U.bX 67 [i.sv]::((eN i s).cells++[RV.int .i64 (eN i s).w]).map .rv))] (.rv (.bool (rI i s))):=by
 refine kF Jx [j] [.var (U.bX 67 [i.sv]::(o.cells++[RV.int .i64 n]).map .rv)] [.var (U.bX 67 [i.sv]::(o.cells++[RV.int .i64 n]).map .rv)] [.ptr 0 0,s.sv] [.ptr j 0,s.sv] _ _ (by simp) (by simp [aN,fV,aW,bn]) rfl (by simp [bL]) (by simp [dg,zL,aW,bn,aN,aT,Ao.cells]) (fun K hK=>?_)
 have h1:=NQ i s hf hs
 simp -implicitDefEqProofs only [Ao.cells,List.cons_append,List.nil_append,List.map_cons,List.map_nil] at hK ⊢
 simp -implicitDefEqProofs only [Ao.cells,Sz.sv,Sz.cells,List.map_cons,List.map_nil] at h1
 conv in fc _ _ _ _=>reduce
 simp -implicitDefEqProofs only [Sz.sv,Sz.cells,go_sem,Int.reduceNegSucc]
 have mo:=h1;repeat' (first | (simp -implicitDefEqProofs only [go_sem,Int.reduceNegSucc]) | (with_reducible refine az ?_) | (with_reducible first | refine aC mo ?_ | refine aD mo ?_) | ((first | refine ai (fun hg=>?_) (fun hg=>?_) | refine aA (fun hg=>?_) (fun hg=>?_) | refine aB (fun hg=>?_) (fun hg=>?_)) <;> try simp -implicitDefEqProofs only [hg,Bool.not_true,Bool.not_false]) | ((with_reducible apply And.intro);focus (first | trivial | omega | decide | (simp -implicitDefEqProofs only [maxLen];omega) | (simp [maxLen,an,aq,au,ay,ak,ax,av] <;> omega))) | fail)
 all_goals (try ((first | refine (hK _ _ _ _ [] (dh _ _) ?_).2 | refine (hK _ _ ?_).2 | refine (hK _ _ _ _ [] (dh _ _) ?_).1 | refine (hK _ _ ?_).1 | fail);clear hK;(simp_all [dx,bL,newL,dB,di,bB,br,lk,bJ,cG,cR,cJ,dR,dQ,ag,dy,bN,aQ,cW,dz,ek,aU,eg,aP,cX,cL,bY,Mt,Ao.cells]) <;> try omega))
end Go.aH

namespace Go.aH
open Go
theorem Jw:aV Go.Proofs.Try.prog 66 60 (fc Go.Proofs.Try.prog 66 60 [(.c 8 3 true),(.t 9)]) [(.c 8 3 true),(.t 9)]:=bl (by kernel_rfl)
theorem Jv:aV Go.Proofs.Try.prog 46 41 (fc Go.Proofs.Try.prog 46 41 [(.c 2 3 true),(.t 3)]) [(.c 2 3 true),(.t 3)]:=bl (by kernel_rfl)
def zu (i:Ai) (c:Ao→Bool) (s:Sz) (o:Ao):Option Ao:=if c o=true then (if rI i s=true then some (eN i s) else none) else some o
def tT (i:Ai):Option Ao:=if rI i i.wide=true then (zu i (fun o=>decide (o.w>i.most)) ⟨false,i.most⟩ (eN i i.wide)).bind (zu i (fun o=>decide (o.w<i.least)) ⟨false,i.least⟩) else none
def oA:Option Ao→Ao
 | some o=>o
 | none=>⟨0,0,0⟩
theorem Nr (i:Ai) (hf:Fit i) (hw:bS (bh i.wide 0)=true) (h1:bS i.least=true) (h2:bS i.most=true):aJ Go.Proofs.Try.prog 66 [.bX 67 [i.sv],i.wide.sv,.rv (.int .i64 i.least),.rv (.int .i64 i.most)] [] [] (.aM [.agg ((oA (tT i)).cells.map .rv),.rv (.bool (tT i).isSome)]):=by
 refine bz Jw [.bX 67 [i.sv],i.wide.sv,.rv (.int .i64 i.least),.rv (.int .i64 i.most)] _ (by simp) (by simp [aN,zL,aW,bn,aT]) (fun K hK=>?_)
 have a0:=wq i i.wide hf (fun h=>by rwa [LX h] at hw) 3 ⟨0,0,0⟩ 0
 have a1:=wq i ⟨false,i.most⟩ hf (fun _=>h2) 3 (eN i i.wide) (eN i i.wide).w
 have a2:=wq i ⟨false,i.least⟩ hf (fun _=>h1) 3 (eN i i.wide) (eN i i.wide).w
 have a3:=wq i ⟨false,i.least⟩ hf (fun _=>h1) 3 (eN i ⟨false,i.most⟩) (eN i ⟨false,i.most⟩).w
 unfold tT zu at hK
 simp -implicitDefEqProofs only [Ao.cells,Ai.sv,Sz.sv,Sz.cells,List.cons_append,List.nil_append,List.map_cons,List.map_nil] at a0 a1 a2 a3
 conv in fc _ _ _ _=>reduce
 simp -implicitDefEqProofs only [Ai.sv,Sz.sv,Sz.cells,go_sem,Int.reduceNegSucc]
 have bq:=a0;have y_2:=a1;have bP:=a2;have bV:=a3;repeat' (first | (simp -implicitDefEqProofs only [go_sem,Int.reduceNegSucc]) | (with_reducible refine az ?_) | (refine cC bq ?_ ?_ ?_;(focus (simp [aZ,ag] <;> fail));(focus (simp [bp,bk] <;> fail))) | (refine dc bq ?_ ?_ ?_;(focus (simp [aZ,ag] <;> fail));(focus (simp [bp,bk] <;> fail))) | (refine cC y_2 ?_ ?_ ?_;(focus (simp [aZ,ag] <;> fail));(focus (simp [bp,bk] <;> fail))) | (refine dc y_2 ?_ ?_ ?_;(focus (simp [aZ,ag] <;> fail));(focus (simp [bp,bk] <;> fail))) | (refine cC bP ?_ ?_ ?_;(focus (simp [aZ,ag] <;> fail));(focus (simp [bp,bk] <;> fail))) | (refine dc bP ?_ ?_ ?_;(focus (simp [aZ,ag] <;> fail));(focus (simp [bp,bk] <;> fail))) | (refine cC bV ?_ ?_ ?_;(focus (simp [aZ,ag] <;> fail));(focus (simp [bp,bk] <;> fail))) | (refine dc bV ?_ ?_ ?_;(focus (simp [aZ,ag] <;> fail));(focus (simp [bp,bk] <;> fail))) | ((first | refine ai (fun hg=>?_) (fun hg=>?_) | refine aA (fun hg=>?_) (fun hg=>?_) | refine aB (fun hg=>?_) (fun hg=>?_)) <;> try simp -implicitDefEqProofs only [hg,Bool.not_true,Bool.not_false]) | ((with_reducible apply And.intro);focus (first | trivial | omega | decide | (simp -implicitDefEqProofs only [maxLen];omega) | (simp [maxLen,an,aq,au,ay,ak,ax,av] <;> omega))) | fail)
 all_goals (refine (hK _ _ ?_).2;clear hK;simp -implicitDefEqProofs only [go_sem,Int.reduceNegSucc,br,bB,bJ,bN,aU,aQ,aP,Ao.cells,oA] <;>(try simp_all [-Int.not_lt,-Int.not_le,aU,aQ,aP,bY,Ao.cells,oA]) <;> try omega)
def si (i:Ai):Bool:=bS i.base && bS i.around && bS (bh i.left 0) && bS (bh i.wide 0) && bS (bh i.right 0)
def oZ (i:Ai):Option Ao:=if si i=true then tT i else none
theorem FK {i:Ai} (h:si i=true):Fit i∧bS (bh i.wide 0)=true:=by
 simp -implicitDefEqProofs only [si,Bool.and_eq_true] at h
 obtain ⟨⟨⟨⟨a,b⟩,c⟩,d⟩,e⟩:=h
 exact ⟨⟨a,b,c,e⟩,d⟩
theorem No (i:Ai) (h1:bS i.least=true) (h2:bS i.most=true):aJ Go.Proofs.Try.prog 46 [i.sv] [] [] (.aM [.agg ((oA (oZ i)).cells.map .rv),.rv (.bool (oZ i).isSome)]):=by
 refine bz Jv [i.sv] _ (by simp) (by simp [aN,aW,bn,aT,bf,aj.sv,Ln.sv,Nd.sv]) (fun K hK=>?_)
 have o1:=kz i.left 0
 have o2:=kz i.wide 0
 have o3:=kz i.right 0
 have f1:=gh i.base
 have f2:=gh i.around
 have f3:=gh (bh i.left 0)
 have f4:=gh (bh i.wide 0)
 have f5:=gh (bh i.right 0)
 cases h5:si i with
 | true=>
   obtain ⟨hF,hw⟩:=FK h5
   have hb:=Nr i hF hw h1 h2
   rw [hF.b] at f1
   rw [hF.a] at f2
   rw [hF.l] at f3
   rw [hw] at f4
   rw [hF.r] at f5
   simp -implicitDefEqProofs only [oZ,h5,if_true] at hK
   simp -implicitDefEqProofs only [Ai.sv,Ai.cells,Sz.sv,Sz.cells,List.map_cons,List.map_nil] at hb o1 o2 o3
   conv in fc _ _ _ _=>reduce
   simp -implicitDefEqProofs only [Ai.sv,Ai.cells,Sz.sv,Sz.cells,go_sem,Int.reduceNegSucc]
   have cq:=o1;have bW:=o2;have cr:=o3;repeat' (first | (simp -implicitDefEqProofs only [go_sem,Int.reduceNegSucc]) | (with_reducible refine az ?_) | (with_reducible first | refine aC cq ?_ | refine aD cq ?_) | (with_reducible first | refine aC bW ?_ | refine aD bW ?_) | (with_reducible first | refine aC cr ?_ | refine aD cr ?_) | ((first | refine ai (fun hg=>?_) (fun hg=>?_) | refine aA (fun hg=>?_) (fun hg=>?_) | refine aB (fun hg=>?_) (fun hg=>?_)) <;> try simp -implicitDefEqProofs only [hg,Bool.not_true,Bool.not_false]) | ((with_reducible apply And.intro);focus (first | trivial | omega | decide | (simp -implicitDefEqProofs only [maxLen];omega) | (simp [maxLen,an,aq,au,ay,ak,ax,av] <;> omega))) | fail)
   refine so 6 ?_
   have cA:=f1;have cT:=f2;have de:=f3;have eL:=f4;have jY:=f5;have jZ:=hb;repeat' (first | (simp -implicitDefEqProofs only [go_sem,Int.reduceNegSucc,tN,tO,tP,tQ,tR,tS,rR,Int.reduceLT,decide_true,decide_false,Int.reduceToNat,Nat.reduceMul]) | (with_reducible refine az ?_) | (with_reducible show G _ _ (It.l _ _::_) _ _ _;refine sn ?_) | (with_reducible first | refine aC cA ?_ | refine aD cA ?_) | (with_reducible first | refine aC cT ?_ | refine aD cT ?_) | (with_reducible first | refine aC de ?_ | refine aD de ?_) | (with_reducible first | refine aC eL ?_ | refine aD eL ?_) | (with_reducible first | refine aC jY ?_ | refine aD jY ?_) | (with_reducible first | refine aC jZ ?_ | refine aD jZ ?_) | ((first | refine ai (fun hg=>?_) (fun hg=>?_) | refine aA (fun hg=>?_) (fun hg=>?_) | refine aB (fun hg=>?_) (fun hg=>?_)) <;> try simp -implicitDefEqProofs only [hg,Bool.not_true,Bool.not_false]) | ((with_reducible apply And.intro);focus (first | trivial | omega | decide | (simp -implicitDefEqProofs only [maxLen];omega) | (simp [maxLen,an,aq,au,ay,ak,ax,av] <;> omega))) | fail)
   all_goals (refine (hK _ _ ?_).2;clear hK;simp -implicitDefEqProofs only [go_sem,Int.reduceNegSucc,br,bB,bJ,bN,aU,aQ,aP,Ao.cells] <;>(try simp_all [-Int.not_lt,-Int.not_le,aU,aQ,aP,bY,Ao.cells]) <;> try omega)
 | false=>
   simp -implicitDefEqProofs only [oZ,h5,Bool.false_eq_true,if_false] at hK
   simp -implicitDefEqProofs only [Ai.sv,Ai.cells,Sz.sv,Sz.cells,List.map_cons,List.map_nil] at o1 o2 o3
   conv in fc _ _ _ _=>reduce
   simp -implicitDefEqProofs only [Ai.sv,Ai.cells,Sz.sv,Sz.cells,go_sem,Int.reduceNegSucc]
   have ke:=o1;have mh:=o2;have mj:=o3;repeat' (first | (simp -implicitDefEqProofs only [go_sem,Int.reduceNegSucc]) | (with_reducible refine az ?_) | (with_reducible first | refine aC ke ?_ | refine aD ke ?_) | (with_reducible first | refine aC mh ?_ | refine aD mh ?_) | (with_reducible first | refine aC mj ?_ | refine aD mj ?_) | ((first | refine ai (fun hg=>?_) (fun hg=>?_) | refine aA (fun hg=>?_) (fun hg=>?_) | refine aB (fun hg=>?_) (fun hg=>?_)) <;> try simp -implicitDefEqProofs only [hg,Bool.not_true,Bool.not_false]) | ((with_reducible apply And.intro);focus (first | trivial | omega | decide | (simp -implicitDefEqProofs only [maxLen];omega) | (simp [maxLen,an,aq,au,ay,ak,ax,av] <;> omega))) | fail)
   refine so 6 ?_
   have mm:=f1;have mo:=f2;have oQ:=f3;have oR:=f4;have oS:=f5;repeat' (first | (simp -implicitDefEqProofs only [go_sem,Int.reduceNegSucc,tN,tO,tP,tQ,tR,tS,rR,Int.reduceLT,decide_true,decide_false,Int.reduceToNat,Nat.reduceMul]) | (with_reducible refine az ?_) | (with_reducible show G _ _ (It.l _ _::_) _ _ _;refine sn ?_) | (with_reducible first | refine aC mm ?_ | refine aD mm ?_) | (with_reducible first | refine aC mo ?_ | refine aD mo ?_) | (with_reducible first | refine aC oQ ?_ | refine aD oQ ?_) | (with_reducible first | refine aC oR ?_ | refine aD oR ?_) | (with_reducible first | refine aC oS ?_ | refine aD oS ?_) | ((first | refine ai (fun hg=>?_) (fun hg=>?_) | refine aA (fun hg=>?_) (fun hg=>?_) | refine aB (fun hg=>?_) (fun hg=>?_)) <;> try simp -implicitDefEqProofs only [hg,Bool.not_true,Bool.not_false]) | ((with_reducible apply And.intro);focus (first | trivial | omega | decide | (simp -implicitDefEqProofs only [maxLen];omega) | (simp [maxLen,an,aq,au,ay,ak,ax,av] <;> omega))) | fail)
   all_goals first | (exfalso;simp_all [si];done) | skip
   all_goals (refine (hK _ _ ?_).2;clear hK;simp -implicitDefEqProofs only [go_sem,Int.reduceNegSucc,br,bB,bJ,bN,aU,aQ,aP,Ao.cells,oA] <;>(try simp_all [-Int.not_lt,-Int.not_le,aU,aQ,aP,bY,Ao.cells,oA]) <;> try omega)
end Go.aH

namespace Go.aH
open Go
theorem Kc:aV Go.Proofs.Try.prog 77 132 (fc Go.Proofs.Try.prog 77 132 [(.t 4)]) [(.t 4)]:=bl (by kernel_rfl)
theorem Kd:aV Go.Proofs.Try.prog 51 23 (fc Go.Proofs.Try.prog 51 23 [(.c 4 7 true),(.t 5)]) [(.c 4 7 true),(.t 5)]:=bl (by kernel_rfl)
structure Ch where
 top:Su
 bottom:Su
 inner:Su
 through:Bool
 high:Int
 deriving Inhabited,DecidableEq
def Ch.cells (c:Ch):List RV:=[.int .i64 c.top.p,.int .i64 c.top.n,.int .i64 c.bottom.p,.int .i64 c.bottom.n,.int .i64 c.inner.p,.int .i64 c.inner.n,.bool c.through,.int .i64 c.high]
structure Pl where
 lA:Int
 top:Su
 cur:Su
 nh:Bool
 deriving Inhabited,DecidableEq
def Pl.cells (p:Pl):List RV:=[.int .i64 p.lA,.int .i64 p.top.p,.int .i64 p.top.n,.int .i64 p.cur.p,.int .i64 p.cur.n,.bool p.nh]
def ff (l:List Ch):List (List RV):=l.map Ch.cells
theorem rU (l:List Ch):(ff l).length=l.length:=by simp [ff]
theorem Fl {l:List Ch} {i:Nat} (h:i<l.length):(ff l)[i]?.getD []=(l[i]'h).cells:=by simp [ff,h]
def nQ (c:Ch):Su:=if c.through=true then c.inner else c.top
def nG (p:Pl) (c:Ch):Int:=if p.nh=true then 0 else dM [p.lA,nJ (fk p.cur (nQ c))]
def qW (p:Pl) (c:Ch):Pl:=
 if p.nh=true then (if c.through=true then { p with top:=fk p.top c.top } else ⟨c.high,fk p.top c.top,c.bottom,false⟩)
 else if c.through=true then { p with cur:=fk p.cur c.top } else { p with lA:=dM [nG p c,c.high],cur:=c.bottom }
def vU (p:Pl) (c:Ch):Bool:=
 if p.nh=true then bS (qW p c).lA
 else rC (fk p.cur (nQ c)) && dL [p.lA,nJ (fk p.cur (nQ c))] && (c.through || dL [nG p c,c.high])
def mU (m:Nat) (p:Pl) (ys:List Int):HB:=.var (.row m ys.length ys.length::p.cells.map .rv)
def kf (ys:List Int):HB:=.row 1 ys.length (aI (aL ys))
theorem NH (p:Pl) (c:Ch) (j m:Nat) (sC:j≠m) (ys:List Int) (hy:ys.length≤1000000):aJ Go.Proofs.Try.prog 77 [.ptr j 0,.agg (c.cells.map .rv)] [(j,mU m p ys),(m,kf ys)]
 [(j,mU m (qW p c) (ys++[nG p c])),(m,kf (ys++[nG p c]))] (.rv (.bool (vU p c))):=by
 refine kF Kc [j,m] [mU 1 p ys,kf ys] [mU m p ys,kf ys] [.ptr 0 0,.agg (c.cells.map .rv)] [.ptr j 0,.agg (c.cells.map .rv)] _ _ (by simp) (by simp [aN,fV,aW,bn]) rfl (by simp [bL,sC]) (by simp [dg,mU,kf,kW,aN,aT,fL,bn]) (fun K hK=>?_)
 have j1:=ru p.top c.top
 have j2:=ru p.cur (nQ c)
 have j3:=ru p.cur c.top
 have v1:=zn (fk p.cur (nQ c))
 have s1:=fun id=>rq id [p.lA,nJ (fk p.cur (nQ c))] (by simp)
 have s2:=fun id=>rq id [dM [p.lA,nJ (fk p.cur (nQ c))],c.high] (by simp)
 have f1:=gh p.lA
 have f2:=gh c.high
 have hl:=ak ys
 have mQ:(aL ys).take ys.length=aL ys:=List.take_of_length_le (by omega)
 have vi:∀ y:Int,(ys++[y]).length=ys.length+1:=fun y=>by simp
 simp -implicitDefEqProofs only [mU,kf,Pl.cells,qW,nG,vU,vi] at hK
 simp -implicitDefEqProofs only [lM,Su.sv,Su.cells,List.map_cons,List.map_nil,List.length_cons,List.length_nil,Nat.reduceAdd] at j1 j2 j3 v1 s1 s2
 conv in fc _ _ _ _=>reduce
 simp -implicitDefEqProofs only [mU,kf,Pl.cells,Ch.cells,go_sem,Int.reduceNegSucc]
 cases ha:p.nh <;> cases ht:c.through <;> simp -implicitDefEqProofs only [ha,ht,nQ,Bool.false_eq_true,if_true,if_false,Bool.false_or,Bool.true_or,Bool.and_true] at hK j1 j2 j3 v1 s1 s2 ⊢
 all_goals ((have bq:=j1;have y_2:=j2;have bP:=j3;have bV:=v1;have cq:=s1;have bW:=s2;have cr:=f1;have cA:=f2;repeat' (first | (simp -implicitDefEqProofs only [go_sem,Int.reduceNegSucc,hl,mQ,ri]) | (with_reducible refine az ?_) | (with_reducible first | refine aC bq ?_ | refine aD bq ?_) | (with_reducible first | refine aC y_2 ?_ | refine aD y_2 ?_) | (with_reducible first | refine aC bP ?_ | refine aD bP ?_) | (with_reducible first | refine aC bV ?_ | refine aD bV ?_) | ((first | refine cC (cq _) ?_ ?_ ?_ | refine dc (cq _) ?_ ?_ ?_ | fail);(focus (simp [aZ,ag] <;> fail));(focus (simp [bp,bk] <;> fail))) | ((first | refine cC (bW _) ?_ ?_ ?_ | refine dc (bW _) ?_ ?_ ?_ | fail);(focus (simp [aZ,ag] <;> fail));(focus (simp [bp,bk] <;> fail))) | (with_reducible first | refine aC cr ?_ | refine aD cr ?_) | (with_reducible first | refine aC cA ?_ | refine aD cA ?_) | ((first | refine ai (fun hg=>?_) (fun hg=>?_) | refine aA (fun hg=>?_) (fun hg=>?_) | refine aB (fun hg=>?_) (fun hg=>?_)) <;> try simp -implicitDefEqProofs only [hg,Bool.not_true,Bool.not_false]) | ((with_reducible apply And.intro);focus (first | trivial | omega | decide | (simp -implicitDefEqProofs only [maxLen];omega) | (simp [maxLen,an,aq,au,ay,ak,ax,av] <;> omega))) | fail)))
 all_goals (refine (hK _ _ _ _ [] (dh _ _) ?_).2;clear hK j1 j2 j3 v1 s1 s2 f1 f2;simp [dx,bL,newL,dB,di,bB,br,lk,bJ,cG,cR,cJ,dR,dQ,ag,dy,bN,aQ,cW,dz,ek,aU,eg,aP,cX,cL,sC,Ne.symm sC] <;> simp_all)
def ql:List Ch→Pl→List Int→Option (Pl×List Int)
 | [],p,ys=>some (p,ys)
 | c::l,p,ys=>if vU p c=true then ql l (qW p c) (ys++[nG p c]) else none
def mg (l:List Ch) (o:Bool):Option (Pl×List Int):=ql l ⟨0,⟨0,0⟩,⟨0,0⟩,o⟩ []
def qi (m:Nat):Option (Pl×List Int)→U
 | some q=>.agg (.row m q.2.length q.2.length::q.1.cells.map .rv)
 | none=>.agg [.rv .bQ,.rv (.int .i64 0),.rv (.int .i64 0),.rv (.int .i64 0),.rv (.int .i64 0),.rv (.int .i64 0),.rv (.bool false)]
def oF (m:Nat):Option (Pl×List Int)→List (Nat×HB)
 | some q=>[(m,kf q.2)]
 | none=>[]
theorem Nm (l:List Ch) (o:Bool) (hb:l.length≤1000000) (m:Nat):aJ Go.Proofs.Try.prog 51 [.rv (.sl 8 (ff l)),.rv (.bool o)] [] (oF m (mg l o)) (.aM [qi m (mg l o),.rv (.bool (mg l o).isSome)]):=by
 refine kF Kd [] [] [] [.rv (.sl 8 (ff l)),.rv (.bool o)] [.rv (.sl 8 (ff l)),.rv (.bool o)] _ _ (by simp) (by simp [aN,aT]) rfl (by simp [bL]) (by simp [dg]) (fun K hK=>?_)
 have hl:=rU l
 conv in fc _ _ _ _=>reduce
 simp -implicitDefEqProofs only [go_sem,Int.reduceNegSucc]
 repeat' (first | (simp -implicitDefEqProofs only [go_sem,Int.reduceNegSucc,hl]) | (with_reducible refine az ?_) | ((first | refine ai (fun hg=>?_) (fun hg=>?_) | refine aA (fun hg=>?_) (fun hg=>?_) | refine aB (fun hg=>?_) (fun hg=>?_)) <;> try simp -implicitDefEqProofs only [hg,Bool.not_true,Bool.not_false]) | ((with_reducible apply And.intro);focus (first | trivial | omega | decide | (simp -implicitDefEqProofs only [maxLen];omega) | (simp [maxLen,an,aq,au,ay,ak,ax,av] <;> omega))) | fail)
 refine cN (ι:=Nat×Pl×List Int) (fun q=>[(13,.rv (.int .i64 q.1)),(12,.rv (.int .i64 l.length)),(11,.rv (.sl 8 (ff l))),(6,.ptr 1 0),(4,.ptr 0 0)]) (fun q=>[some (.var [.rv .bQ,.rv (.int .i64 0),.rv (.int .i64 0),.rv (.int .i64 0),.rv (.int .i64 0),.rv (.int .i64 0),.rv (.bool false)]),some (mU 2 q.2.1 q.2.2),some (kf q.2.2)])
  (fun q=>q.1≤l.length∧q.2.2.length=q.1∧ql (l.drop q.1) q.2.1 q.2.2=mg l o) (fun q=>l.length - q.1) (0,⟨0,⟨0,0⟩,⟨0,0⟩,o⟩,[]) ⟨Nat.zero_le _,rfl,rfl⟩ ((As 1 1 0 rfl rfl).trans (bw (by simp [lk,bk]))) (fun q hq K' hN hX hR=>?_)
 obtain ⟨k,p,ys⟩:=q
 obtain ⟨ct,hk2,cU⟩:=hq
 dsimp only at ct hk2 cU ⊢
 simp -implicitDefEqProofs only [go_sem,Int.reduceNegSucc]
 refine ai (fun hg=>?_) (fun hg=>?_)
 ·have aE:k<l.length:=by simp at hg;omega
  have wu:=cu (k:=k) (by omega)
  have hx:=Fl aE
  have hp:=NH p l[k] 1 2 (by decide) ys (by omega)
  rw [List.drop_eq_getElem_cons aE,ql] at cU
  generalize l[k]=c at *
  have q1:(c.cells.map U.rv).take 8=c.cells.map U.rv:=rfl
  have q2:c.cells.take 8=c.cells:=rfl
  have q3:(c.cells.map U.rv).length=8:=rfl
  have q4:(c.cells.map U.rv).drop 8=[]:=rfl
  have q5:c.cells.length=8:=rfl
  cases hok:vU p c with
  | true=>
    rw [hok] at hp
    rw [if_pos hok] at cU
    have cT:=hp;repeat' (first | (simp -implicitDefEqProofs only [go_sem,Int.reduceNegSucc,hl,hx,q1,q2,q3,q4,q5,wu]) | (with_reducible refine az ?_) | (refine cC cT ?_ ?_ ?_;(focus (simp [aZ,ag] <;> fail));(focus (simp [bp,bk] <;> fail))) | (refine dc cT ?_ ?_ ?_;(focus (simp [aZ,ag] <;> fail));(focus (simp [bp,bk] <;> fail))) | ((first | refine ai (fun hg=>?_) (fun hg=>?_) | refine aA (fun hg=>?_) (fun hg=>?_) | refine aB (fun hg=>?_) (fun hg=>?_)) <;> try simp -implicitDefEqProofs only [hg,Bool.not_true,Bool.not_false]) | ((with_reducible apply And.intro);focus (first | trivial | omega | decide | (simp -implicitDefEqProofs only [maxLen];omega) | (simp [maxLen,an,aq,au,ay,ak,ax,av] <;> omega))) | fail)
    exact hN (k+1,qW p c,ys++[nG p c]) _ _ ⟨by dsimp only;omega,by simp [hk2],cU⟩ (by dsimp only;omega) (uM (h':=[some (.var [.rv .bQ,.rv (.int .i64 0),.rv (.int .i64 0),.rv (.int .i64 0),.rv (.int .i64 0),.rv (.int .i64 0),.rv (.bool false)]),some (mU 2 (qW p c) (ys++[nG p c])),some (kf (ys++[nG p c]))]) (Nat.zero_le _) ⟨pn (rs:=[.bQ,.int .i64 0,.int .i64 0,.int .i64 0,.int .i64 0,.int .i64 0,.bool false]),⟨mE.2 (by simp),pn⟩,fW,trivial⟩ (by simp [jG,lk,nT,nS]))
  | false=>
    rw [hok] at hp
    rw [if_neg (by rw [hok];simp)] at cU
    have de:=hp;repeat' (first | (simp -implicitDefEqProofs only [go_sem,Int.reduceNegSucc,hl,hx,q1,q2,q3,q4,q5,wu]) | (with_reducible refine az ?_) | (refine cC de ?_ ?_ ?_;(focus (simp [aZ,ag] <;> fail));(focus (simp [bp,bk] <;> fail))) | (refine dc de ?_ ?_ ?_;(focus (simp [aZ,ag] <;> fail));(focus (simp [bp,bk] <;> fail))) | ((first | refine ai (fun hg=>?_) (fun hg=>?_) | refine aA (fun hg=>?_) (fun hg=>?_) | refine aB (fun hg=>?_) (fun hg=>?_)) <;> try simp -implicitDefEqProofs only [hg,Bool.not_true,Bool.not_false]) | ((with_reducible apply And.intro);focus (first | trivial | omega | decide | (simp -implicitDefEqProofs only [maxLen];omega) | (simp [maxLen,an,aq,au,ay,ak,ax,av] <;> omega))) | fail)
    refine hR _ _ (hK _ _ _ _ [] (dh _ _) ?_).2
    rw [← cU]
    simp [dx,bL,newL,dB,di,bB,br,lk,bJ,cG,cR,cJ,dR,dQ,ag,dy,bN,aQ,cW,dz,ek,aU,eg,aP,cX,cL,dK,qi,oF,Pl.cells,aU,aP]
 ·have aE:k=l.length:=by simp at hg;omega
  subst aE
  simp -implicitDefEqProofs only [go_sem,Int.reduceNegSucc]
  refine hX _ _ _ ?_
  rw [List.drop_length,ql] at cU
  simp -implicitDefEqProofs only [mU,kf,Pl.cells,go_sem,Int.reduceNegSucc]
  repeat' (first | (simp -implicitDefEqProofs only [go_sem,Int.reduceNegSucc]) | (with_reducible refine az ?_) | ((first | refine ai (fun hg=>?_) (fun hg=>?_) | refine aA (fun hg=>?_) (fun hg=>?_) | refine aB (fun hg=>?_) (fun hg=>?_)) <;> try simp -implicitDefEqProofs only [hg,Bool.not_true,Bool.not_false]) | ((with_reducible apply And.intro);focus (first | trivial | omega | decide | (simp -implicitDefEqProofs only [maxLen];omega) | (simp [maxLen,an,aq,au,ay,ak,ax,av] <;> omega))) | fail)
  refine (hK _ _ _ _ [none,none,some m] (dh _ _) ?_).2
  rw [← cU]
  simp [dx,bL,newL,dB,di,bB,br,lk,bJ,cG,cR,cJ,dR,dQ,ag,dy,bN,aQ,cW,dz,ek,aU,eg,aP,cX,cL,dK,qi,oF,Pl.cells,kf,aU,aP]
theorem AE {cs:List U} (h:∀ y∈cs,dA y):dA (.agg cs):=.agg _ fun j y hy=>h y (List.mem_of_getElem? hy)
theorem FL {cs:List U} (h:∀ y∈cs,dA y):dA (.aM cs):=.aM _ fun j y hy=>h y (List.mem_of_getElem? hy)
theorem Mi (p:Pl):∀ r∈p.cells,ep r:=by
 intro r hr
 simp -implicitDefEqProofs only [Pl.cells,List.mem_cons,List.not_mem_nil,or_false] at hr
 rcases hr with rfl | rfl | rfl | rfl | rfl | rfl <;> first | exact .int _ _ | exact .bool _
theorem OA (ys:List Int):mu (kf ys):=.row _ _ _ fun i x j y hx hy=>by
 simp -implicitDefEqProofs only [aI,List.getElem?_map,Option.map_eq_some_iff,aL] at hx
 obtain ⟨a,⟨b,_,rfl⟩,rfl⟩:=hx
 cases j with
 | zero=>simp at hy;subst hy;exact .rv _ (.int _ _)
 | succ j=>simp at hy
theorem Mh (m:Nat) (o:Option (Pl×List Int)):dA (qi m o):=by
 cases o with
 | none=>
   refine AE fun y hy=>?_
   simp -implicitDefEqProofs only [List.mem_cons,List.not_mem_nil,or_false] at hy
   rcases hy with rfl | rfl | rfl | rfl | rfl | rfl | rfl <;> exact .rv _ (by constructor)
 | some q=>
   refine AE fun y hy=>?_
   rcases List.mem_cons.1 hy with rfl | hy
   ·exact .row _ _ _
   ·obtain ⟨r,hr,rfl⟩:=List.mem_map.1 hy
    exact .rv _ (Mi _ r hr)
theorem Nn (l:List Ch) (o:Bool) (hb:l.length≤1000000) (j v m:Nat) (sC:j≠m):aJ Go.Proofs.Try.prog 51 [.row j v l.length,.rv (.bool o)] [(j,.row 8 v (aI (ff l)))] (oF m (mg l o)) (.aM [qi m (mg l o),.rv (.bool (mg l o).isSome)]):=by
 refine zR (ew:=[.rv (.sl 8 (ff l)),.rv (.bool o)]) (Nm l o hb m) rfl (fun hp hpre k y r hy hr=>?_) (FL fun y hy=>?_) (fun q hq=>?_)
 ·match k with
  | 0=>
    cases hy;cases hr
    have:=pH (h:=hp) (τ:=fun _=>none) (j:=j) (e:=8) (af:=v) (len:=l.length) (xs:=ff l) (hpre _ (.head _)) rfl (by rw [rU];omega) (fun x hx r hr=>by
     obtain ⟨c,_,rfl⟩:=List.mem_map.1 hx
     simp -implicitDefEqProofs only [Ch.cells,List.mem_cons,List.not_mem_nil,or_false] at hr
     rcases hr with rfl | rfl | rfl | rfl | rfl | rfl | rfl | rfl <;> rfl)
    rw [List.take_of_length_le (by rw [rU];omega)] at this
    exact .fz _ _ this
  | 1=>cases hy;cases hr;exact aQ.2 rfl
  | k+2=>simp at hy
 ·simp -implicitDefEqProofs only [List.mem_cons,List.not_mem_nil,or_false] at hy
  rcases hy with rfl | rfl
  ·exact Mh _ _
  ·exact .rv _ (.bool _)
 ·revert hq
  cases mg l o with
  | none=>simp [oF]
  | some z=>
    simp -implicitDefEqProofs only [oF,List.mem_singleton]
    rintro rfl
    refine ⟨OA _,fun p hp=>?_⟩
    subst hp
    exact sC
end Go.aH

namespace Go.aH
open Go
theorem JU:aV Go.Proofs.Try.prog 87 28 (fc Go.Proofs.Try.prog 87 28 [(.t 6)]) [(.t 6)]:=bl (by kernel_rfl)
theorem JT:aV Go.Proofs.Try.prog 69 59 (fc Go.Proofs.Try.prog 69 59 [(.c 8 8 true)]) [(.c 8 8 true)]:=bl (by kernel_rfl)
abbrev Ed.sv (e:Ed):U:=.agg (e.cells.map .rv)
def ng (e:Ed):List Int:=[e.bD.d,e.pad.d.n,e.pad.b.n,e.bD.b]
def jJ (e:Ed):List Int:=[e.bD.a,e.pad.a.n,e.pad.c.n,e.bD.c]
theorem Nq (e:Ed):aJ Go.Proofs.Try.prog 42 [e.sv,.rv (.int .i64 3),.rv (.int .i64 1)] [] [] (.aM [.rv (.int .i64 (dM (ng e))),.rv (.bool (dL (ng e)))]):=by
 refine bz BN [e.sv,.rv (.int .i64 3),.rv (.int .i64 1)] _ (by simp) (by simp [aN,aW,bn,aT,bf,aj.sv,Ln.sv,Nd.sv]) (fun K hK=>?_)
 have h:=fun id=>rq id (ng e) (by simp [ng])
 simp -implicitDefEqProofs only [lM,ng,List.map_cons,List.map_nil,List.length_cons,List.length_nil,Nat.reduceAdd] at h hK
 conv in fc _ _ _ _=>reduce
 simp -implicitDefEqProofs only [Ed.sv,Ed.cells,Q4.fo,Q4.ints,go_sem,Int.reduceNegSucc]
 have bq:=h;repeat' (first | (simp -implicitDefEqProofs only [go_sem,Int.reduceNegSucc]) | (with_reducible refine az ?_) | ((first | refine cC (bq _) ?_ ?_ ?_ | refine dc (bq _) ?_ ?_ ?_ | fail);(focus (simp [aZ,ag] <;> fail));(focus (simp [bp,bk] <;> fail))) | ((first | refine ai (fun hg=>?_) (fun hg=>?_) | refine aA (fun hg=>?_) (fun hg=>?_) | refine aB (fun hg=>?_) (fun hg=>?_)) <;> try simp -implicitDefEqProofs only [hg,Bool.not_true,Bool.not_false]) | ((with_reducible apply And.intro);focus (first | trivial | omega | decide | (simp -implicitDefEqProofs only [maxLen];omega) | (simp [maxLen,an,aq,au,ay,ak,ax,av] <;> omega))) | fail)
 exact (hK _ _ (jU rfl rfl)).2
theorem Np (e:Ed):aJ Go.Proofs.Try.prog 42 [e.sv,.rv (.int .i64 0),.rv (.int .i64 2)] [] [] (.aM [.rv (.int .i64 (dM (jJ e))),.rv (.bool (dL (jJ e)))]):=by
 refine bz BN [e.sv,.rv (.int .i64 0),.rv (.int .i64 2)] _ (by simp) (by simp [aN,aW,bn,aT,bf,aj.sv,Ln.sv,Nd.sv]) (fun K hK=>?_)
 have h:=fun id=>rq id (jJ e) (by simp [jJ])
 simp -implicitDefEqProofs only [lM,jJ,List.map_cons,List.map_nil,List.length_cons,List.length_nil,Nat.reduceAdd] at h hK
 conv in fc _ _ _ _=>reduce
 simp -implicitDefEqProofs only [Ed.sv,Ed.cells,Q4.fo,Q4.ints,go_sem,Int.reduceNegSucc]
 have y_2:=h;repeat' (first | (simp -implicitDefEqProofs only [go_sem,Int.reduceNegSucc]) | (with_reducible refine az ?_) | ((first | refine cC (y_2 _) ?_ ?_ ?_ | refine dc (y_2 _) ?_ ?_ ?_ | fail);(focus (simp [aZ,ag] <;> fail));(focus (simp [bp,bk] <;> fail))) | ((first | refine ai (fun hg=>?_) (fun hg=>?_) | refine aA (fun hg=>?_) (fun hg=>?_) | refine aB (fun hg=>?_) (fun hg=>?_)) <;> try simp -implicitDefEqProofs only [hg,Bool.not_true,Bool.not_false]) | ((with_reducible apply And.intro);focus (first | trivial | omega | decide | (simp -implicitDefEqProofs only [maxLen];omega) | (simp [maxLen,an,aq,au,ay,ak,ax,av] <;> omega))) | fail)
 exact (hK _ _ (jU rfl rfl)).2
def wz (e:Ed) (kids:Nat) (p:Pl):Bool:=e.flat && if kids=0 then e.high.auto || (e.high.n == 0) else e.high.auto && p.nh
def oE (y:RV) (p:Pl):List RV:=y::p.cells
theorem NT (e:Ed) (kids:Nat) (y:RV) (p:Pl):aJ Go.Proofs.Try.prog 87 [e.sv,.rv (.int .i64 kids),.agg ((oE y p).map .rv)] [] [] (.rv (.bool (wz e kids p))):=by
 refine bz JU [e.sv,.rv (.int .i64 kids),.agg ((oE y p).map .rv)] _ (by simp) (by simp [aN,aW,bn,aT,bf,aj.sv,Ln.sv,Nd.sv]) (fun K hK=>?_)
 have hk:((kids:Int) == 0)=decide (kids=0):=by rw [Bool.eq_iff_iff];simp
 simp -implicitDefEqProofs only [wz] at hK
 conv in fc _ _ _ _=>reduce
 simp -implicitDefEqProofs only [Ed.sv,Ed.cells,oE,Pl.cells,Q4.fo,Q4.ints,go_sem,Int.reduceNegSucc]
 by_cases h0:kids=0 <;> simp -implicitDefEqProofs only [h0,decide_true,decide_false] at hk
 all_goals ((repeat' (first | (simp -implicitDefEqProofs only [go_sem,Int.reduceNegSucc,hk]) | (with_reducible refine az ?_) | ((first | refine ai (fun hg=>?_) (fun hg=>?_) | refine aA (fun hg=>?_) (fun hg=>?_) | refine aB (fun hg=>?_) (fun hg=>?_)) <;> try simp -implicitDefEqProofs only [hg,Bool.not_true,Bool.not_false]) | ((with_reducible apply And.intro);focus (first | trivial | omega | decide | (simp -implicitDefEqProofs only [maxLen];omega) | (simp [maxLen,an,aq,au,ay,ak,ax,av] <;> omega))) | fail)))
 all_goals (refine (hK _ _ (bM ?_)).2;clear hK;simp_all [lk])
def uz (e:Ed) (kids:Nat) (p:Pl) (high:Int):Ch:=
 let b:Su:=⟨max (bh e.bE.c 0) 0,min (bh e.bE.c 0) 0⟩
 let i:=fk ⟨max (bh e.bE.a 0) 0,min (bh e.bE.a 0) 0⟩ p.top
 if wz e kids p=true then ⟨fk i b,fk i b,i,true,high⟩
 else ⟨i,if e.oz=true∧0<kids then fk b p.cur else b,i,false,high⟩
theorem Nt (e:Ed) (kids:Nat) (y:RV) (p:Pl) (high:Int):aJ Go.Proofs.Try.prog 69 [e.sv,.rv (.int .i64 kids),.agg ((oE y p).map .rv),.rv (.int .i64 high)] [] [] (.agg ((uz e kids p high).cells.map .rv)):=by
 refine bz JT [e.sv,.rv (.int .i64 kids),.agg ((oE y p).map .rv),.rv (.int .i64 high)] _ (by simp) (by simp [aN,aW,bn,aT,bf,aj.sv,Ln.sv,Nd.sv]) (fun K hK=>?_)
 have o1:=kz e.bE.a 0
 have o2:=kz e.bE.c 0
 have s1:=DA (bh e.bE.a 0)
 have s2:=DA (bh e.bE.c 0)
 have ht:=NT e kids y p
 simp -implicitDefEqProofs only [uz] at hK
 generalize (⟨max (bh e.bE.a 0) 0,min (bh e.bE.a 0) 0⟩:Su)=A at *
 generalize (⟨max (bh e.bE.c 0) 0,min (bh e.bE.c 0) 0⟩:Su)=B at *
 have j1:=ru A p.top
 have j2:=ru (fk A p.top) B
 have j3:=ru B p.cur
 have hk:decide ((kids:Int)>0)=decide (0<kids):=by simp
 generalize wz e kids p=T at *
 generalize fk A p.top=I at *
 simp -implicitDefEqProofs only [Ed.sv,Ed.cells,oE,Pl.cells,Q4.fo,Q4.ints,Su.sv,Su.cells,Sz.sv,Sz.cells,List.map_cons,List.map_nil,List.cons_append,List.nil_append] at o1 o2 s1 s2 ht j1 j2 j3
 conv in fc _ _ _ _=>reduce
 simp -implicitDefEqProofs only [Ed.sv,Ed.cells,oE,Pl.cells,Q4.fo,Q4.ints,go_sem,Int.reduceNegSucc]
 cases T <;> simp -implicitDefEqProofs only [Bool.false_eq_true,if_true,if_false] at hK ⊢
 all_goals ((have bP:=o1;have bV:=o2;have cq:=s1;have bW:=s2;have cr:=ht;have cA:=j1;have cT:=j2;have de:=j3;repeat' (first | (simp -implicitDefEqProofs only [go_sem,Int.reduceNegSucc,hk]) | (with_reducible refine az ?_) | (with_reducible first | refine aC bP ?_ | refine aD bP ?_) | (with_reducible first | refine aC bV ?_ | refine aD bV ?_) | (with_reducible first | refine aC cq ?_ | refine aD cq ?_) | (with_reducible first | refine aC bW ?_ | refine aD bW ?_) | (with_reducible first | refine aC cr ?_ | refine aD cr ?_) | (with_reducible first | refine aC cA ?_ | refine aD cA ?_) | (with_reducible first | refine aC cT ?_ | refine aD cT ?_) | (with_reducible first | refine aC de ?_ | refine aD de ?_) | ((first | refine ai (fun hg=>?_) (fun hg=>?_) | refine aA (fun hg=>?_) (fun hg=>?_) | refine aB (fun hg=>?_) (fun hg=>?_)) <;> try simp -implicitDefEqProofs only [hg,Bool.not_true,Bool.not_false]) | ((with_reducible apply And.intro);focus (first | trivial | omega | decide | (simp -implicitDefEqProofs only [maxLen];omega) | (simp [maxLen,an,aq,au,ay,ak,ax,av] <;> omega))) | fail)))
 all_goals (refine (hK _ _ ?_).2;clear hK;simp -implicitDefEqProofs only [go_sem,Int.reduceNegSucc,br,bB,bJ,bN,aU,aQ,aP,Ch.cells] <;>(try simp_all [-Int.not_lt,-Int.not_le,aU,aQ,aP,bY,Ch.cells]) <;> try omega)
end Go.aH

namespace Go.aH
open Go
theorem JV:aV Go.Proofs.Try.prog 47 130 (fc Go.Proofs.Try.prog 47 130 [(.c 8 25 true),(.c 9 9 true),(.t 10)]) [(.c 8 25 true),(.c 9 9 true),(.t 10)]:=bl (by kernel_rfl)
theorem JR:aV Go.Proofs.Try.prog 26 116 (fc Go.Proofs.Try.prog 26 116 [(.c 10 25 true),(.c 11 9 true),(.t 12)]) [(.c 10 25 true),(.c 11 9 true),(.t 12)]:=bl (by kernel_rfl)
structure Fm where
 x:Int
 y:Int
 w:Int
 h:Int
 bE:Q4 Int
 pad:Q4 Int
 bD:Q4 Int
 known:Bool
 child:Ch
 deriving DecidableEq,Inhabited
def Fm.cells (f:Fm):List RV:=[.int .i64 f.x,.int .i64 f.y,.int .i64 f.w,.int .i64 f.h]++f.bE.ints++f.pad.ints++f.bD.ints++(.bool f.known::f.child.cells)
structure La where
 L:List (Nat×Fm)
 p:Pl
 ys:List Int
 high:Int
 deriving DecidableEq,Inhabited
def oD (q:Nat×Fm):List RV:=.int .i64 q.1::q.2.cells
def dX (L:List (Nat×Fm)):List (List RV):=L.map oD
def cE:Option La→List RV
 | some t=>.sl 26 (dX t.L) :: .sl 1 (aL t.ys)::(t.p.cells++[.int .i64 t.high])
 | none=>[.bQ,.bQ,.int .i64 0,.int .i64 0,.int .i64 0,.int .i64 0,.int .i64 0,.bool false,.int .i64 0]
def dG:Option Fm→List RV
 | some f=>f.cells
 | none=>[.int .i64 0,.int .i64 0,.int .i64 0,.int .i64 0,.int .i64 0,.int .i64 0,.int .i64 0,.int .i64 0,.int .i64 0,.int .i64 0,.int .i64 0,.int .i64 0,.int .i64 0,.int .i64 0,.int .i64 0,.int .i64 0,.bool false,.int .i64 0,.int .i64 0,.int .i64 0,.int .i64 0,.int .i64 0,.int .i64 0,.bool false,.int .i64 0]
abbrev jK (r:Option (Fm×La)):U:=.aM [.agg ((dG (r.map (·.1))).map .rv),.agg ((cE (r.map (·.2))).map .rv),.rv (.bool r.isSome)]
def oh (e:Ed):Sz:=if e.high.auto=true then e.high else ⟨false,uB e.high.n e.least e.most⟩
def og (e:Ed) (t:La):Int:=if e.high.auto=true then uB t.high e.least e.most else uB e.high.n e.least e.most
def uW (e:Ed) (x:Ao) (kids:Nat) (t:La):Fm:=
 ⟨x.l,0,x.w,og e t,⟨bh e.bE.a 0,x.r,bh e.bE.c 0,x.l⟩,⟨e.pad.a.n,e.pad.b.n,e.pad.c.n,e.pad.d.n⟩,e.bD,!e.high.auto,uz e kids t.p (dM [dM (jJ e),og e t])⟩
def qD (e:Ed) (x:Ao) (kids:Nat) (r:Option La×Bool):Option (Fm×La):=if r.2=true then r.1.bind fun t=>if dL (jJ e)=true∧dL [dM (jJ e),og e t]=true then some (uW e x kids t,t) else none else none
theorem Nv (l:List Nd) (hb:l.length≤8589934592) (n:Int) (e:Ed) (x:Ao) (r:Option La×Bool) (hr:r.2=true→r.1.isSome=true)
 (hI:aJ Go.Proofs.Try.prog 28 [.rv (cg l),.rv (.int .i64 n),.rv (.int .i64 x.w),(oh e).sv,e.sv,.rv (.int .i64 (-1))] [] [] (.aM [.agg ((cE r.1).map .rv),.rv (.bool r.2)])) :
 aJ Go.Proofs.Try.prog 47 [.rv (cg l),.rv (.int .i64 n),e.sv,.agg (x.cells.map .rv)] [] [] (jK (qD e x (cH l n).length r)):=by
 refine bz JV [.rv (cg l),.rv (.int .i64 n),e.sv,.agg (x.cells.map .rv)] _ (by simp) (by simp [aN,aW,bn,aT,bf,aj.sv,Ln.sv,Nd.sv]) (fun K hK=>?_)
 obtain ⟨o,ok⟩:=r
 have hc:=Ds e.high.n e.least e.most
 have hf:=Dp l n hb
 have hfl:=Cw (cH l n)
 have o1:=kz e.bE.a 0
 have o2:=kz e.bE.c 0
 have ha:=Np e
 cases ok with
 | false=>
   have e1:qD e x (cH l n).length (o,false)=none:=rfl
   rw [e1] at hK
   obtain ⟨u,hu,fQ⟩:∃ u,cE o=u∧u.length=9:=⟨_,rfl,by cases o <;> rfl⟩
   rw [hu] at hI
   have q1:(u.map U.rv).length=9:=by simp [fQ]
   have q2:(u.map U.rv).drop 9=[]:=List.drop_of_length_le (by omega)
   have q3:(u.map U.rv).take 9=u.map U.rv:=List.take_of_length_le (by omega)
   simp -implicitDefEqProofs only [oh] at hI
   simp -implicitDefEqProofs only [Ed.sv,Ed.cells,Q4.fo,Q4.ints,Sz.sv,Sz.cells,List.map_cons,List.map_nil,List.cons_append,List.nil_append] at hI
   conv in fc _ _ _ _=>reduce
   simp -implicitDefEqProofs only [Ed.sv,Ed.cells,Q4.fo,Q4.ints,Ao.cells,go_sem,Int.reduceNegSucc]
   cases hh:e.high.auto <;> simp -implicitDefEqProofs only [hh,Bool.false_eq_true,if_true,if_false] at hI ⊢
   all_goals ((have bq:=hc;have y_2:=hI;repeat' (first | (simp -implicitDefEqProofs only [go_sem,Int.reduceNegSucc,fQ,q2,q3,List.length_map,List.append_nil]) | (with_reducible refine az ?_) | (with_reducible first | refine aC bq ?_ | refine aD bq ?_) | (with_reducible first | refine aC y_2 ?_ | refine aD y_2 ?_) | ((first | refine ai (fun hg=>?_) (fun hg=>?_) | refine aA (fun hg=>?_) (fun hg=>?_) | refine aB (fun hg=>?_) (fun hg=>?_)) <;> try simp -implicitDefEqProofs only [hg,Bool.not_true,Bool.not_false]) | ((with_reducible apply And.intro);focus (first | trivial | omega | decide | (simp -implicitDefEqProofs only [maxLen];omega) | (simp [maxLen,an,aq,au,ay,ak,ax,av] <;> omega))) | fail)))
   all_goals (refine (hK _ _ ?_).2;simp -implicitDefEqProofs only [go_sem,Int.reduceNegSucc,br,bB,bJ,bN,aU,aQ,aP,dG,cE,Option.map,Option.isSome])
 | true=>
   obtain ⟨t,rfl⟩:=Option.isSome_iff_exists.1 (hr rfl)
   have e1:qD e x (cH l n).length (some t,true)=if dL (jJ e)=true∧dL [dM (jJ e),og e t]=true then some (uW e x (cH l n).length t,t) else none:=rfl
   rw [e1] at hK
   have s1:=fun id=>rq id [dM (jJ e),og e t] (by simp)
   have nv:=Ds t.high e.least e.most
   have vc:=Nt e (cH l n).length (.sl 1 (aL t.ys)) t.p (dM [dM (jJ e),og e t])
   simp -implicitDefEqProofs only [uW] at hK
   generalize uz e (cH l n).length t.p (dM [dM (jJ e),og e t])=C at *
   generalize bh e.bE.a 0=O1 at *
   generalize bh e.bE.c 0=O2 at *
   generalize jJ e=A at *
   simp -implicitDefEqProofs only [oh,og] at hI s1 vc hK
   simp -implicitDefEqProofs only [lM,cE,oE,Pl.cells,Ed.sv,Ed.cells,Q4.fo,Q4.ints,Sz.sv,Sz.cells,Ch.cells,List.map_cons,List.map_nil,List.cons_append,List.nil_append,List.length_cons,List.length_nil,Nat.reduceAdd] at hI vc ha o1 o2 s1
   conv in fc _ _ _ _=>reduce
   simp -implicitDefEqProofs only [Ed.sv,Ed.cells,Q4.fo,Q4.ints,Ao.cells,go_sem,Int.reduceNegSucc]
   cases hh:e.high.auto <;> simp -implicitDefEqProofs only [hh,Bool.false_eq_true,if_true,if_false] at hI ha s1 vc hK ⊢
   all_goals ((have bP:=hc;have bV:=nv;have cq:=hI;have bW:=ha;have cr:=s1;have cA:=o1;have cT:=o2;repeat' (first | (simp -implicitDefEqProofs only [go_sem,Int.reduceNegSucc]) | (with_reducible refine az ?_) | (with_reducible first | refine aC bP ?_ | refine aD bP ?_) | (with_reducible first | refine aC bV ?_ | refine aD bV ?_) | (with_reducible first | refine aC cq ?_ | refine aD cq ?_) | (with_reducible first | refine aC bW ?_ | refine aD bW ?_) | ((first | refine cC (cr _) ?_ ?_ ?_ | refine dc (cr _) ?_ ?_ ?_ | fail);(focus (simp [aZ,ag] <;> fail));(focus (simp [bp,bk] <;> fail))) | (with_reducible first | refine aC cA ?_ | refine aD cA ?_) | (with_reducible first | refine aC cT ?_ | refine aD cT ?_) | ((first | refine ai (fun hg=>?_) (fun hg=>?_) | refine aA (fun hg=>?_) (fun hg=>?_) | refine aB (fun hg=>?_) (fun hg=>?_)) <;> try simp -implicitDefEqProofs only [hg,Bool.not_true,Bool.not_false]) | ((with_reducible apply And.intro);focus (first | trivial | omega | decide | (simp -implicitDefEqProofs only [maxLen];omega) | (simp [maxLen,an,aq,au,ay,ak,ax,av] <;> omega))) | fail)))
   all_goals first | (refine so 5 ?_;(have de:=hf;have eL:=vc;repeat' (first | (simp -implicitDefEqProofs only [go_sem,Int.reduceNegSucc,tN,tO,tP,tQ,tR,tS,rR,Int.reduceLT,decide_true,decide_false,Int.reduceToNat,Nat.reduceMul,hfl]) | (with_reducible refine az ?_) | (with_reducible show G _ _ (It.l _ _::_) _ _ _;refine sn ?_) | (with_reducible first | refine aC de ?_ | refine aD de ?_) | (with_reducible first | refine aC eL ?_ | refine aD eL ?_) | ((first | refine ai (fun hg=>?_) (fun hg=>?_) | refine aA (fun hg=>?_) (fun hg=>?_) | refine aB (fun hg=>?_) (fun hg=>?_)) <;> try simp -implicitDefEqProofs only [hg,Bool.not_true,Bool.not_false]) | ((with_reducible apply And.intro);focus (first | trivial | omega | decide | (simp -implicitDefEqProofs only [maxLen];omega) | (simp [maxLen,an,aq,au,ay,ak,ax,av] <;> omega))) | fail))) | skip
   all_goals (refine (hK _ _ ?_).2;clear hK;simp -implicitDefEqProofs only [go_sem,Int.reduceNegSucc,br,bB,bJ,bN,aU,aQ,aP,dG,cE,Fm.cells,Q4.ints,Ch.cells,Pl.cells,Option.map,Option.isSome] <;>(try simp_all [-Int.not_lt,-Int.not_le,aU,aQ,aP,bY,dG,cE,Fm.cells,Q4.ints,Ch.cells,Pl.cells,Option.map,Option.isSome]) <;> try omega)
end Go.aH
