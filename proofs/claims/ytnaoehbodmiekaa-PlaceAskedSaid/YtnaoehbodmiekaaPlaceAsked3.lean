/- Part 3 of the proof: K3, K4, K5, K6, K7, K8, K9, K10, K11, K12, U1, P1, F1, F2, F3, EngZe, EngZf, F4, F5, F6, F7, F8, F9, F10, EngZg, F9i. -/
import Derived.Test.YtnaoehbodmiekaaPlaceAsked2
import Derived.Shelf.Spec.SlicesInsert
import Derived.Shelf.Spec.SlicesInsertGrow
set_option linter.unusedSimpArgs false
set_option linter.unusedVariables false
set_option maxRecDepth 100000
set_option maxHeartbeats 16000000
namespace Go.aG
open Go
theorem KO:aV Go.Proofs.Try.prog 57 94 (fc Go.Proofs.Try.prog 57 94 [(.t 2)]) [(.t 2)]:=bh (by kernel_rfl)
theorem KP:aV Go.Proofs.Try.prog 38 63 (fc Go.Proofs.Try.prog 38 63 [(.t 2)]) [(.t 2)]:=bh (by kernel_rfl)
theorem Cn (s:ai) {k:Nat} (h:k<18):∃ o,hJ[k]?=some o∧((s.cells.map U.rv).drop o).take 2=((fK s)[k]'h).cells.map U.rv∧o+2≤48:=by
 have:k=0∨k=1∨k=2∨k=3∨k=4∨k=5∨k=6∨k=7∨k=8∨k=9∨k=10∨k=11∨k=12∨k=13∨k=14∨k=15∨k=16∨k=17:=by omega
 rcases this with rfl | rfl | rfl | rfl | rfl | rfl | rfl | rfl | rfl | rfl | rfl | rfl | rfl | rfl | rfl | rfl | rfl | rfl <;> exact ⟨_,rfl,rfl,by decide⟩
theorem Lo (s:ai) {k o:Nat} (h:k<18) (ho:hJ[k]?=some o):(s.cells.map U.rv)[o]?=some (.rv (.int .i64 ((fK s)[k]'h).kind))∧(s.cells.map U.rv)[o+1]?=some (.rv (.int .i64 ((fK s)[k]'h).n)):=by
 have:k=0∨k=1∨k=2∨k=3∨k=4∨k=5∨k=6∨k=7∨k=8∨k=9∨k=10∨k=11∨k=12∨k=13∨k=14∨k=15∨k=16∨k=17:=by omega
 rcases this with rfl | rfl | rfl | rfl | rfl | rfl | rfl | rfl | rfl | rfl | rfl | rfl | rfl | rfl | rfl | rfl | rfl | rfl <;>(cases ho;exact ⟨rfl,rfl⟩)
theorem CT {k:Nat} {i o:Nat} (h:hJ[k]?=some o):(cN i hJ)[k]?.getD []=[.ptr i o]:=by
 simp [cN,List.getElem?_map,h]
def oa (s:ai):List Ln:=[s.width,s.height,s.eW,s.eV,s.fm,s.fk]
def nP (s:ai) (k:Nat):Bool:=(List.range k).all fun j=>gi (ic s.pad j) (ic s.bR j)
theorem Mn (s:ai) (k:Nat):nP s (k+1)=(nP s k && gi (ic s.pad k) (ic s.bR k)):=by simp [nP,List.range_succ]
theorem Mm (s:ai):nP s 4=(gi s.pad.a s.bR.a && gi s.pad.b s.bR.b && gi s.pad.c s.bR.c && gi s.pad.d s.bR.d):=by
 simp [nP,List.range_succ,ic,Bool.and_assoc]
theorem DH (s:ai):aI Go.Proofs.Try.prog 57 [s.sv] [] [] (.rv (.bool (gN s))):=by
 refine bH KO [s.sv] _ (by simp) (by simp [aP,bg,bu,aZ,bn,ai.sv,Ln.sv,Nd.sv]) (fun K hK=>?_)
 have bad:∀ e h,lk e 2 = .rv (.bool false)→gN s=false→K .ret ⟨e,h⟩:=fun e h l2 hf=>(hK _ _ (cC (by rw [l2,hf]))).2
 conv in fc _ _ _ _=>reduce
 simp -implicitDefEqProofs only [ai.sv,go_sem,Int.reduceNegSucc]
 refine ct (DC 0 1 s (by decide)) (by simp [aS,ag]) (by simp [aW,aT]) ?_
 simp -implicitDefEqProofs only [go_sem,Int.reduceNegSucc]
 refine dN (ι:=Nat) (fun k=>[(10,.rv (.int .i64 k)),(9,.rv (.int .i64 18)),(8,.row 1 13 18),(1,.ptr 0 0)]) (fun k=>[some (.var (s.cells.map .rv)),some (.row 1 13 (cN 0 hJ))]) (fun k=>k≤18∧((fK s).drop k).all sN=(fK s).all sN) (fun k=>18 - k) 0 (by simp) (bV (by simp [lk])) (fun k hk K' hN hX hR=>?_)
 obtain ⟨de,hk2⟩:=hk
 simp -implicitDefEqProofs only [go_sem,Int.reduceNegSucc]
 refine ak (fun hg=>?_) (fun hg=>?_)
 ·have aK:k<18:=by simp at hg;omega
  obtain ⟨o,ho,sq,Iu⟩:=Cn s aK
  have ew:=CT (i:=0) ho
  have oR:(cN 0 hJ).length=18:=rfl
  have bE:=Ox ((fK s)[k]'aK);repeat' (first | (simp -implicitDefEqProofs only [go_sem,Int.reduceNegSucc,ew,oR,sq]) | (with_reducible refine aF ?_) | (with_reducible first | refine az bE ?_ | refine aA bE ?_) | ((first | refine ak (fun hg=>?_) (fun hg=>?_) | refine aC (fun hg=>?_) (fun hg=>?_) | refine aD (fun hg=>?_) (fun hg=>?_)) <;> try simp -implicitDefEqProofs only [hg,Bool.not_true,Bool.not_false]) | ((with_reducible apply And.intro);focus (first | trivial | omega | decide | (simp -implicitDefEqProofs only [maxLen];omega) | (simp [maxLen,aq,av,ax,aE,aj,ay,aB] <;> omega))) | fail)
  ·refine hR _ _ (bad _ _ rfl ?_)
   simp -implicitDefEqProofs only [gN,ru aK hk2 (by simpa using hg),Bool.false_and]
  ·rw [cQ (by omega)]
   exact hN (k+1) _ _ ⟨by omega,ry aK hk2 (by simpa using hg)⟩ (by omega) (bV (by simp [lk]))
 ·have aK:k=18:=by simp at hg;omega
  subst aK
  have hall:=rq (by rw [aB];omega) hk2
  simp -implicitDefEqProofs only [go_sem,Int.reduceNegSucc]
  refine hX _ _ _ ?_
  repeat' (first | (simp -implicitDefEqProofs only [go_sem,Int.reduceNegSucc,iq,jB,ir,jC,iG,jN,iR,jY,jc,kz,jl,kK,jm,kL,jn,kM,jo,kN,jq,kO,iu,jD,iw,jE,iy,jF,iz,jG,iA,jH,iB,jI,iC,jJ,iD,jK,iE,jL,iF,jM,iH,jO,iI,jP,iJ,jQ,iK,jR,iL,jS,iM,jT,iN,jU,iO,jV,iP,jW,iQ,jX,iS,jZ,iT,ke,iU,kf,iV,kg,iW,ki,iX,kj,iY,kk,iZ,ko,ja,kr,jb,ku,jd,kC,je,kD,gP,kE,jf,kF,jg,kG,jh,kH,ji,kI,jk,kJ,jw,jr,js,jt,ju,jv,jx,jy,jz,jA,ij,gO,aq,Ln.cells]) | (with_reducible refine aF ?_) | ((first | refine ak (fun hg=>?_) (fun hg=>?_) | refine aC (fun hg=>?_) (fun hg=>?_) | refine aD (fun hg=>?_) (fun hg=>?_)) <;> try simp -implicitDefEqProofs only [hg,Bool.not_true,Bool.not_false]) | ((with_reducible apply And.intro);focus (first | trivial | omega | decide | (simp -implicitDefEqProofs only [maxLen];omega) | (simp [maxLen,aq,av,ax,aE,aj,ay,aB] <;> omega))) | fail)
  refine dN (ι:=Nat) (fun k=>[(34,.rv (.int .i64 k)),(33,.rv (.int .i64 6)),(32,.row 2 0 6),(1,.ptr 0 0)]) (fun k=>[some (.var (s.cells.map .rv)),some (.row 1 13 (cN 0 hJ)),some (.row 2 0 (aH (qy (oa s))))]) (fun k=>k≤6∧((oa s).drop k).all (fun x=>decide (0≤x.n))=(oa s).all (fun x=>decide (0≤x.n))) (fun k=>6 - k) 0 (by simp) (bV (by simp [lk])) (fun k hk K' hN hX hR=>?_)
  obtain ⟨de,hk2⟩:=hk
  simp -implicitDefEqProofs only [go_sem,Int.reduceNegSucc]
  refine ak (fun hg=>?_) (fun hg=>?_)
  ·have aK:k<6:=by simp at hg;omega
   have hx:=Lu (l:=oa s) aK
   have Io:(qy (oa s)).length=6:=rfl
   repeat' (first | (simp -implicitDefEqProofs only [go_sem,Int.reduceNegSucc,hx,Io,Ln.cells]) | (with_reducible refine aF ?_) | ((first | refine ak (fun hg=>?_) (fun hg=>?_) | refine aC (fun hg=>?_) (fun hg=>?_) | refine aD (fun hg=>?_) (fun hg=>?_)) <;> try simp -implicitDefEqProofs only [hg,Bool.not_true,Bool.not_false]) | ((with_reducible apply And.intro);focus (first | trivial | omega | decide | (simp -implicitDefEqProofs only [maxLen];omega) | (simp [maxLen,aq,av,ax,aE,aj,ay,aB] <;> omega))) | fail)
   ·refine hR _ _ (bad _ _ rfl ?_)
    simp -implicitDefEqProofs only [gN]
    rw [show [s.width,s.height,s.eW,s.eV,s.fm,s.fk]=oa s from rfl,ru aK hk2 (by simp at hg ⊢;omega)]
    simp
   ·rw [cQ (by omega)]
    exact hN (k+1) _ _ ⟨by omega,ry aK hk2 (by simp at hg ⊢;omega)⟩ (by omega) (pZ _ (by simp) (by simp [mT,ag,cB,cG,vS,di,cI]) (by simp [lk,aO,dj,cO,cI]))
  ·have aK:k=6:=by simp at hg;omega
   subst aK
   have HH:=rq (by simp [oa]) hk2
   simp -implicitDefEqProofs only [go_sem,Int.reduceNegSucc]
   refine hX _ _ _ ?_
   repeat' (first | (simp -implicitDefEqProofs only [go_sem,Int.reduceNegSucc]) | (with_reducible refine aF ?_) | ((first | refine ak (fun hg=>?_) (fun hg=>?_) | refine aC (fun hg=>?_) (fun hg=>?_) | refine aD (fun hg=>?_) (fun hg=>?_)) <;> try simp -implicitDefEqProofs only [hg,Bool.not_true,Bool.not_false]) | ((with_reducible apply And.intro);focus (first | trivial | omega | decide | (simp -implicitDefEqProofs only [maxLen];omega) | (simp [maxLen,aq,av,ax,aE,aj,ay,aB] <;> omega))) | fail)
   refine dN (ι:=Nat) (fun k=>[(42,.rv (.int .i64 k)),(1,.ptr 0 0)]) (fun k=>[some (.var (s.cells.map .rv))]) (fun k=>k≤4∧nP s k=true) (fun k=>4 - k) 0 (by simp [nP]) (pZ _ (by simp) (by simp [mT,ag,cB,cG,cI]) (by simp [lk,aO,dj,cO,cI])) (fun k hk K' hN hX hR=>?_)
   obtain ⟨de,hk2⟩:=hk
   simp -implicitDefEqProofs only [go_sem,Int.reduceNegSucc]
   refine ak (fun hg=>?_) (fun hg=>?_)
   ·have aK:k<4:=by simp at hg;omega
    have hn:gi (ic s.pad k) (ic s.bR k)=true→nP s (k+1)=true:=fun h=>by rw [Mn,hk2,h];rfl
    have hb:gi (ic s.pad k) (ic s.bR k)=false→gN s=false:=fun h=>by
     have:k=0∨k=1∨k=2∨k=3:=by omega
     rcases this with rfl | rfl | rfl | rfl <;> simp_all [gN,ic]
    have:k=0∨k=1∨k=2∨k=3:=by omega
    rcases this with rfl | rfl | rfl | rfl
    all_goals
     repeat' (first | (simp -implicitDefEqProofs only [go_sem,Int.reduceNegSucc,iq,jB,ir,jC,iG,jN,iR,jY,jc,kz,jl,kK,jm,kL,jn,kM,jo,kN,jq,kO,iu,jD,iw,jE,iy,jF,iz,jG,iA,jH,iB,jI,iC,jJ,iD,jK,iE,jL,iF,jM,iH,jO,iI,jP,iJ,jQ,iK,jR,iL,jS,iM,jT,iN,jU,iO,jV,iP,jW,iQ,jX,iS,jZ,iT,ke,iU,kf,iV,kg,iW,ki,iX,kj,iY,kk,iZ,ko,ja,kr,jb,ku,jd,kC,je,kD,gP,kE,jf,kF,jg,kG,jh,kH,ji,kI,jk,kJ,jw,jr,js,jt,ju,jv,jx,jy,jz,jA,ij,gO,aq]) | (with_reducible refine aF ?_) | ((first | refine ak (fun hg=>?_) (fun hg=>?_) | refine aC (fun hg=>?_) (fun hg=>?_) | refine aD (fun hg=>?_) (fun hg=>?_)) <;> try simp -implicitDefEqProofs only [hg,Bool.not_true,Bool.not_false]) | ((with_reducible apply And.intro);focus (first | trivial | omega | decide | (simp -implicitDefEqProofs only [maxLen];omega) | (simp [maxLen,aq,av,ax,aE,aj,ay,aB] <;> omega))) | fail)
    all_goals first
     | (refine hR _ _ (bad _ _ rfl (hb ?_));clear hN hX hR hb hn bad hK;simp_all [gi,ic,cz];done)
     | (rw [cQ (by omega)];refine hN _ _ _ ⟨by omega,hn ?_⟩ (by omega) (bV (by simp [lk]));clear hN hX hR hb hn bad hK;simp_all [gi,ic,cz];done)
   ·have aK:k=4:=by simp at hg;omega
    subst aK
    rw [Mm] at hk2
    simp -implicitDefEqProofs only [go_sem,Int.reduceNegSucc]
    refine hX _ _ _ ?_
    have fin:∀ e h,lk e 2 = .rv (.bool (zw s))→K .ret ⟨e,h⟩:=fun e h l2=>(hK _ _ (cC (by rw [l2,gN,hall,hk2];rw [show [s.width,s.height,s.eW,s.eV,s.fm,s.fk]=oa s from rfl,HH];rfl))).2
    clear hK hN hX hR bad
    repeat' (first | (simp -implicitDefEqProofs only [go_sem,Int.reduceNegSucc,iq,jB,ir,jC,iG,jN,iR,jY,jc,kz,jl,kK,jm,kL,jn,kM,jo,kN,jq,kO,iu,jD,iw,jE,iy,jF,iz,jG,iA,jH,iB,jI,iC,jJ,iD,jK,iE,jL,iF,jM,iH,jO,iI,jP,iJ,jQ,iK,jR,iL,jS,iM,jT,iN,jU,iO,jV,iP,jW,iQ,jX,iS,jZ,iT,ke,iU,kf,iV,kg,iW,ki,iX,kj,iY,kk,iZ,ko,ja,kr,jb,ku,jd,kC,je,kD,gP,kE,jf,kF,jg,kG,jh,kH,ji,kI,jk,kJ,jw,jr,js,jt,ju,jv,jx,jy,jz,jA,ij,gO,aq]) | (with_reducible refine aF ?_) | ((first | refine ak (fun hg=>?_) (fun hg=>?_) | refine aC (fun hg=>?_) (fun hg=>?_) | refine aD (fun hg=>?_) (fun hg=>?_)) <;> try simp -implicitDefEqProofs only [hg,Bool.not_true,Bool.not_false]) | ((with_reducible apply And.intro);focus (first | trivial | omega | decide | (simp -implicitDefEqProofs only [maxLen];omega) | (simp [maxLen,aq,av,ax,aE,aj,ay,aB] <;> omega))) | fail)
    all_goals (refine fin _ _ ?_;(simp_all [lk,zw,cz]) <;>(try (intros;omega)))
theorem Ow (s:ai):aI Go.Proofs.Try.prog 38 [s.sv] [] [] (.rv (.bool (om s))):=by
 refine bH KP [s.sv] _ (by simp) (by simp [aP,bg,bu,aZ,bn,ai.sv,Ln.sv,Nd.sv]) (fun K hK=>?_)
 have bad:∀ e h,lk e 2 = .rv (.bool false)→om s=false→K .ret ⟨e,h⟩:=fun e h l2 hf=>(hK _ _ (cC (by rw [l2,hf]))).2
 conv in fc _ _ _ _=>reduce
 simp -implicitDefEqProofs only [ai.sv,go_sem,Int.reduceNegSucc]
 refine ct (DC 0 1 s (by decide)) (by simp [aS,ag]) (by simp [aW,aT]) ?_
 simp -implicitDefEqProofs only [go_sem,Int.reduceNegSucc]
 refine dN (ι:=Nat) (fun k=>[(9,.rv (.int .i64 k)),(8,.rv (.int .i64 18)),(7,.row 1 13 18),(1,.ptr 0 0)]) (fun k=>[some (.var (s.cells.map .rv)),some (.row 1 13 (cN 0 hJ))]) (fun k=>k≤18∧((fK s).drop k).all oW=(fK s).all oW) (fun k=>18 - k) 0 (by simp) (bV (by simp [lk])) (fun k hk K' hN hX hR=>?_)
 obtain ⟨de,hk2⟩:=hk
 simp -implicitDefEqProofs only [go_sem,Int.reduceNegSucc]
 refine ak (fun hg=>?_) (fun hg=>?_)
 ·have aK:k<18:=by simp at hg;omega
  obtain ⟨o,ho,sq,Iu⟩:=Cn s aK
  have ew:=CT (i:=0) ho
  have oR:(cN 0 hJ).length=18:=rfl
  obtain ⟨hc0,nD⟩:=Lo s aK ho
  have xT:o<48:=by omega
  have Iv:o+1<48:=by omega
  have wG:∀ e h,lk e 2 = .rv (.bool false)→oW ((fK s)[k]'aK)=false→K .ret ⟨e,h⟩:=fun e h l2 hf=>bad e h l2 (by simp -implicitDefEqProofs only [om,ru aK hk2 hf,Bool.false_and])
  have nx:∀ e h,oW ((fK s)[k]'aK)=true→cA 0 ⟨e,h⟩ ⟨[(9,.rv (.int .i64 (k+1:Nat))),(8,.rv (.int .i64 18)),(7,.row 1 13 18),(1,.ptr 0 0)],[some (.var (s.cells.map .rv)),some (.row 1 13 (cN 0 hJ))]⟩→K' .normal ⟨e,h⟩:=fun e h hf he=>hN (k+1) _ _ ⟨by omega,ry aK hk2 hf⟩ (by omega) he
  have wu:=cQ (k:=k) (by omega)
  generalize (fK s)[k]'aK=x at *
  have y_2:=zq x.n 1099511627776 (by decide) (by decide);have bL:=zq x.n 1000000 (by decide) (by decide);repeat' (first | (simp -implicitDefEqProofs only [go_sem,Int.reduceNegSucc,ew,oR,hc0,nD,wu]) | (with_reducible refine aF ?_) | (with_reducible first | refine az y_2 ?_ | refine aA y_2 ?_) | (with_reducible first | refine az bL ?_ | refine aA bL ?_) | ((first | refine ak (fun hg=>?_) (fun hg=>?_) | refine aC (fun hg=>?_) (fun hg=>?_) | refine aD (fun hg=>?_) (fun hg=>?_)) <;> try simp -implicitDefEqProofs only [hg,Bool.not_true,Bool.not_false]) | ((with_reducible apply And.intro);focus (first | trivial | omega | decide | (simp -implicitDefEqProofs only [maxLen];omega) | (simp [maxLen,aq,av,ax,aE,aj,ay,aB] <;> omega))) | fail)
  all_goals first
   | (refine hR _ _ (wG _ _ rfl ?_);clear hN hX hR bad wG nx hK;simp_all [oW,cz];done)
   | (refine nx _ _ ?_ (bV (by simp [lk]));clear hN hX hR bad wG nx hK;simp_all [oW,cz];done)
 ·have aK:k=18:=by simp at hg;omega
  subst aK
  have hall:=rq (by rw [aB];omega) hk2
  simp -implicitDefEqProofs only [go_sem,Int.reduceNegSucc]
  refine hX _ _ _ ?_
  repeat' (first | (simp -implicitDefEqProofs only [go_sem,Int.reduceNegSucc,iq,jB,ir,jC,iG,jN,iR,jY,jc,kz,jl,kK,jm,kL,jn,kM,jo,kN,jq,kO,iu,jD,iw,jE,iy,jF,iz,jG,iA,jH,iB,jI,iC,jJ,iD,jK,iE,jL,iF,jM,iH,jO,iI,jP,iJ,jQ,iK,jR,iL,jS,iM,jT,iN,jU,iO,jV,iP,jW,iQ,jX,iS,jZ,iT,ke,iU,kf,iV,kg,iW,ki,iX,kj,iY,kk,iZ,ko,ja,kr,jb,ku,jd,kC,je,kD,gP,kE,jf,kF,jg,kG,jh,kH,ji,kI,jk,kJ,jw,jr,js,jt,ju,jv,jx,jy,jz,jA,ij,gO,aq]) | (with_reducible refine aF ?_) | ((first | refine ak (fun hg=>?_) (fun hg=>?_) | refine aC (fun hg=>?_) (fun hg=>?_) | refine aD (fun hg=>?_) (fun hg=>?_)) <;> try simp -implicitDefEqProofs only [hg,Bool.not_true,Bool.not_false]) | ((with_reducible apply And.intro);focus (first | trivial | omega | decide | (simp -implicitDefEqProofs only [maxLen];omega) | (simp [maxLen,aq,av,ax,aE,aj,ay,aB] <;> omega))) | fail)
  refine dN (ι:=Nat) (fun k=>[(44,.rv (.int .i64 k)),(43,.agg (s.bR.ints.map .rv)),(1,.ptr 0 0)]) (fun k=>[some (.var (s.cells.map .rv))]) (fun k=>k≤4∧(s.bR.list.drop k).all (fun n=>decide (n≤1099511627776))=s.bR.list.all (fun n=>decide (n≤1099511627776))) (fun k=>4 - k) 0 (by simp) (pZ _ (by simp) (by simp [mT,ag,cB,cG,cI]) (by simp [lk,aO,dj,cO,aQ,cG,cI])) (fun k hk K' hN hX hR=>?_)
  obtain ⟨de,hk2⟩:=hk
  simp -implicitDefEqProofs only [go_sem,Int.reduceNegSucc]
  refine ak (fun hg=>?_) (fun hg=>?_)
  ·have aK:k<4:=by simp at hg;omega
   have hx:(s.bR.ints.map U.rv)[k*1]?.getD .dead = .rv (.int .i64 (s.bR.list[k]'aK)):=by
    have:k=0∨k=1∨k=2∨k=3:=by omega
    rcases this with rfl | rfl | rfl | rfl <;> rfl
   have Im:s.bR.ints.length=4:=rfl
   repeat' (first | (simp -implicitDefEqProofs only [go_sem,Int.reduceNegSucc,hx,Im]) | (with_reducible refine aF ?_) | ((first | refine ak (fun hg=>?_) (fun hg=>?_) | refine aC (fun hg=>?_) (fun hg=>?_) | refine aD (fun hg=>?_) (fun hg=>?_)) <;> try simp -implicitDefEqProofs only [hg,Bool.not_true,Bool.not_false]) | ((with_reducible apply And.intro);focus (first | trivial | omega | decide | (simp -implicitDefEqProofs only [maxLen];omega) | (simp [maxLen,aq,av,ax,aE,aj,ay,aB] <;> omega))) | fail)
   ·refine hR _ _ (bad _ _ rfl ?_)
    simp -implicitDefEqProofs only [om]
    rw [ru (l:=s.bR.list) aK hk2 (by simp at hg ⊢;omega)]
    simp
   ·rw [cQ (by omega)]
    exact hN (k+1) _ _ ⟨by omega,ry (l:=s.bR.list) aK hk2 (by simp at hg ⊢;omega)⟩ (by omega) (bV (by simp [lk]))
  ·have aK:k=4:=by simp at hg;omega
   subst aK
   have hb:=rq (l:=s.bR.list) (by simp [Q4.list]) hk2
   simp -implicitDefEqProofs only [go_sem,Int.reduceNegSucc]
   refine hX _ _ _ ?_
   have fin:∀ e h,lk e 2 = .rv (.bool (qv s.z 1073741824 && decide (s.back≤16777216) && decide (s.line≤16777216)))→K .ret ⟨e,h⟩:=fun e h l2=>(hK _ _ (cC (by rw [l2,om,hall,hb];rfl))).2
   clear hK hN hX hR bad
   have bN:=zq s.z 1073741824 (by decide) (by decide);repeat' (first | (simp -implicitDefEqProofs only [go_sem,Int.reduceNegSucc,iq,jB,ir,jC,iG,jN,iR,jY,jc,kz,jl,kK,jm,kL,jn,kM,jo,kN,jq,kO,iu,jD,iw,jE,iy,jF,iz,jG,iA,jH,iB,jI,iC,jJ,iD,jK,iE,jL,iF,jM,iH,jO,iI,jP,iJ,jQ,iK,jR,iL,jS,iM,jT,iN,jU,iO,jV,iP,jW,iQ,jX,iS,jZ,iT,ke,iU,kf,iV,kg,iW,ki,iX,kj,iY,kk,iZ,ko,ja,kr,jb,ku,jd,kC,je,kD,gP,kE,jf,kF,jg,kG,jh,kH,ji,kI,jk,kJ,jw,jr,js,jt,ju,jv,jx,jy,jz,jA,ij,gO,aq]) | (with_reducible refine aF ?_) | (with_reducible first | refine az bN ?_ | refine aA bN ?_) | ((first | refine ak (fun hg=>?_) (fun hg=>?_) | refine aC (fun hg=>?_) (fun hg=>?_) | refine aD (fun hg=>?_) (fun hg=>?_)) <;> try simp -implicitDefEqProofs only [hg,Bool.not_true,Bool.not_false]) | ((with_reducible apply And.intro);focus (first | trivial | omega | decide | (simp -implicitDefEqProofs only [maxLen];omega) | (simp [maxLen,aq,av,ax,aE,aj,ay,aB] <;> omega))) | fail)
   all_goals (refine fin _ _ ?_;(simp_all [lk,cz]) <;>(try (intros;omega)))
end Go.aG

namespace Go.aG
open Go
def Lv (k:Nat) (x:Ln):Bool:=!(decide (x.kind<0) || decide (x.kind>2) || (decide (x.kind=0) && !decide (x.n=0))) && !((decide (x.n<0) && ((decide (4≤k) && decide (k<10)) || decide (14≤k))) || (decide (14≤k) && decide (x.kind=0)))
def PV (s:ai) (k:Nat):Bool:=(List.range k).all fun j=>Lv j ((fK s).getD j default)
def PU (x:Ln):Bool:=!(((!decide (x.kind=0) && decide (x.kind<3)) && decide (x.kind>0)) && (decide (x.n>if x.kind=2 then 1000000 else 1099511627776) || decide (x.n < - if x.kind=2 then 1000000 else 1099511627776)))
end Go.aG

namespace Go.aG
open Go
theorem KY:aV Go.Proofs.Try.prog 56 27 (fc Go.Proofs.Try.prog 56 27 [(.t 4),(.t 5)]) [(.t 4),(.t 5)]:=bh (by kernel_rfl)
theorem KW:aV Go.Proofs.Try.prog 34 39 (fc Go.Proofs.Try.prog 34 39 [(.t 2)]) [(.t 2)]:=bh (by kernel_rfl)
theorem sP (x:Nd):(x.cells.drop 48)[0]?=some (.int .i64 x.parent):=rfl
theorem yJ (x:Nd):(x.cells.take 48).map U.rv=x.s.cells.map U.rv:=rfl
theorem OC (l:List Nd) (k:Nat) (h0:0<k) (hk:k<l.length) (hw:WF l k) (hb:l.length≤8589934592) :
 aI Go.Proofs.Try.prog 56 [.rv (.sl 49 (ck l)),.rv (.int .i64 k)] [] [] (.aM [.rv (.int .i64 ((kP l k).getD 0:Nat)),.rv (.bool (kP l k).isSome)]):=by
 refine bH KY [.rv (.sl 49 (ck l)),.rv (.int .i64 k)] _ (by simp) (by simp [aP,bg,bu,aZ,bn,ai.sv,Ln.sv,Nd.sv]) (fun K hK=>?_)
 have wd:=zD h0 (by omega)
 have IS:=mw hk
 have hlen:=ax l
 have hpk:=qB hk
 conv in fc _ _ _ _=>reduce
 simp -implicitDefEqProofs only [wd,go_sem,Int.reduceNegSucc]
 refine dN (ι:=Nat) (fun i=>[(7,.rv (.int .i64 (fF (br l (k - 1)) i))),(6,.rv (.int .i64 i)),(0,.rv (.sl 49 (ck l))),(1,.rv (.int .i64 k))]) (fun _=>[]) (fun i=>i≤(br l (k - 1)).length∧∀ j,(h:j<(br l (k - 1)).length)→j<i→(((br l (k - 1))[j]'h:Nat):Int)≠bp l k) (fun i=>(br l (k - 1)).length - i) 0 (by simp) (by rw [zP];exact bV (by simp [lk])) (fun i hi K' hN hX hR=>?_)
 obtain ⟨hi1,hi2⟩:=hi
 have ew:=yU (l:=l) (k - 1)
 simp -implicitDefEqProofs only [go_sem,Int.reduceNegSucc]
 refine ak (fun hg=>?_) (fun hg=>?_)
 ·have eS:i<(br l (k - 1)).length:=zN.1 (by simpa using hg)
  have oO:=zO eS
  have hlt:(br l (k - 1))[i]<k:=MM (by omega) eS
  have hx:=mw (l:=l) (i:=(br l (k - 1))[i]) (by omega)
  have hpar:=qB (l:=l) (n:=(br l (k - 1))[i]) (by omega)
  have sr:=Mo hw (k - 1) (by omega) i eS
  repeat' (first | (simp -implicitDefEqProofs only [go_sem,Int.reduceNegSucc,IS,hlen,av,sP,hpk,oO,hx,hpar,sr]) | (with_reducible refine aF ?_) | ((first | refine ak (fun hg=>?_) (fun hg=>?_) | refine aC (fun hg=>?_) (fun hg=>?_) | refine aD (fun hg=>?_) (fun hg=>?_)) <;> try simp -implicitDefEqProofs only [hg,Bool.not_true,Bool.not_false]) | ((with_reducible apply And.intro);focus (first | trivial | omega | decide | (simp -implicitDefEqProofs only [maxLen];omega) | (simp [maxLen,aq,av,ax,aE,aj,ay,aB] <;> omega))) | fail)
  ·refine hR _ _ (hK _ _ ?_).2
   rw [OU eS (by simpa using hg) hi2]
   exact eK rfl rfl
  ·rw [cQ (by omega)]
   refine hN (i+1) _ _ ⟨by omega,fun j hj hji=>?_⟩ (by omega) (bV (by simp [lk]))
   rcases Nat.lt_or_ge j i with h | h
   ·exact hi2 j hj h
   ·obtain rfl:j=i:=by omega
    simpa using hg
 ·simp -implicitDefEqProofs only [go_sem,Int.reduceNegSucc]
  refine hX _ _ _ ?_
  repeat' (first | (simp -implicitDefEqProofs only [go_sem,Int.reduceNegSucc]) | (with_reducible refine aF ?_) | ((first | refine ak (fun hg=>?_) (fun hg=>?_) | refine aC (fun hg=>?_) (fun hg=>?_) | refine aD (fun hg=>?_) (fun hg=>?_)) <;> try simp -implicitDefEqProofs only [hg,Bool.not_true,Bool.not_false]) | ((with_reducible apply And.intro);focus (first | trivial | omega | decide | (simp -implicitDefEqProofs only [maxLen];omega) | (simp [maxLen,aq,av,ax,aE,aj,ay,aB] <;> omega))) | fail)
  refine (hK _ _ ?_).2
  have eS:¬ i<(br l (k - 1)).length:=fun h=>by have:=zN.2 h;simp at hg;omega
  rw [OV fun j hj=>hi2 j hj (by omega)]
  exact eK rfl rfl
theorem DI (l:List Nd) (hb:l.length≤8589934592):aI Go.Proofs.Try.prog 34 [.rv (.sl 49 (ck l))] [] [] (.rv (.bool (eM l))):=by
 refine bH KW [.rv (.sl 49 (ck l))] _ (by simp) (by simp [aP,bg,bu,aZ,bn,ai.sv,Ln.sv,Nd.sv]) (fun K hK=>?_)
 have bad:∀ e h,lk e 2 = .rv (.bool false)→eM l=false→K .ret ⟨e,h⟩:=fun e h l2 hf=>(hK _ _ (cC (by rw [l2,hf]))).2
 have hlen:=ax l
 conv in fc _ _ _ _=>reduce
 simp -implicitDefEqProofs only [hlen,go_sem,Int.reduceNegSucc]
 by_cases qq:l.length=0
 ·have e0:(((l.length:Nat):Int) == 0)=true:=by simp [qq]
  repeat' (first | (simp -implicitDefEqProofs only [go_sem,Int.reduceNegSucc,e0,hlen]) | (with_reducible refine aF ?_) | ((first | refine ak (fun hg=>?_) (fun hg=>?_) | refine aC (fun hg=>?_) (fun hg=>?_) | refine aD (fun hg=>?_) (fun hg=>?_)) <;> try simp -implicitDefEqProofs only [hg,Bool.not_true,Bool.not_false]) | ((with_reducible apply And.intro);focus (first | trivial | omega | decide | (simp -implicitDefEqProofs only [maxLen];omega) | (simp [maxLen,aq,av,ax,aE,aj,ay,aB] <;> omega))) | fail)
  exact bad _ _ rfl (by simp [eM,nY,qq])
 ·have e0:(((l.length:Nat):Int) == 0)=false:=by simp [qq]
  have hx0:=mw (l:=l) (i:=0) (by omega)
  have fh:=qB (l:=l) (n:=0) (by omega)
  repeat' (first | (simp -implicitDefEqProofs only [go_sem,Int.reduceNegSucc,e0,hlen,hx0,av,sP,fh]) | (with_reducible refine aF ?_) | ((first | refine ak (fun hg=>?_) (fun hg=>?_) | refine aC (fun hg=>?_) (fun hg=>?_) | refine aD (fun hg=>?_) (fun hg=>?_)) <;> try simp -implicitDefEqProofs only [hg,Bool.not_true,Bool.not_false]) | ((with_reducible apply And.intro);focus (first | trivial | omega | decide | (simp -implicitDefEqProofs only [maxLen];omega) | (simp [maxLen,aq,av,ax,aE,aj,ay,aB] <;> omega))) | fail)
  ·exact bad _ _ rfl (by simp [eM,nY];intro _ h;simp at hg;exact absurd h hg)
  ·have BG:bp l 0 = -1:=by simpa using hg
   refine dN (ι:=Nat) (fun k=>[(18,.rv (.int .i64 k)),(17,.rv (.int .i64 l.length)),(0,.rv (.sl 49 (ck l)))]) (fun _=>[]) (fun k=>k≤l.length∧(∀ j,j<k→gJ l j=true)∧((l.drop k).all fun x=>gN x.s)=l.all fun x=>gN x.s) (fun k=>l.length - k) 0 (by simp) (bV (by simp [lk])) (fun k hk K' hN hX hR=>?_)
   obtain ⟨de,hk2,fI⟩:=hk
   have hw:=Pd BG hk2
   simp -implicitDefEqProofs only [go_sem,Int.reduceNegSucc]
   refine ak (fun hg=>?_) (fun hg=>?_)
   ·have aK:k<l.length:=by simp at hg;omega
    have hx:=mw aK
    have h48:(l[k]'aK).cells.drop 0=(l[k]'aK).cells:=rfl
    have EM:gJ l k=false→eM l=false:=fun h=>by
     simp -implicitDefEqProofs only [eM,Bool.and_eq_false_iff]
     left
     rw [Bool.eq_false_iff]
     intro ht
     simp -implicitDefEqProofs only [nY,Bool.and_eq_true,List.all_eq_true,List.mem_range] at ht
     have:=ht.2 k aK
     rw [h] at this;cases this
    have zR:gN (l[k]'aK).s=false→eM l=false:=fun h=>by
     have:(l.all fun x=>gN x.s)=false:=ru aK fI h
     simp -implicitDefEqProofs only [eM,this,Bool.and_false]
    have nx:∀ e h,gJ l k=true→gN (l[k]'aK).s=true→cA 0 ⟨e,h⟩ ⟨[(18,.rv (.int .i64 (k+1:Nat))),(17,.rv (.int .i64 l.length)),(0,.rv (.sl 49 (ck l)))],[]⟩→K' .normal ⟨e,h⟩:=fun e h h1 h2 he=>hN (k+1) _ _ ⟨by omega,fun j hj=>by
     rcases Nat.lt_or_ge j k with h | h
     ·exact hk2 j h
     ·obtain rfl:j=k:=by omega
      exact h1,ry aK fI h2⟩ (by omega) he
    have wu:=cQ (k:=k) (by omega)
    clear hN hX hK
    by_cases dX:0<k
    ·have hn:gJ l k=(kP l k).isSome:=by simp [gJ];intro h;omega
     have hgt:decide ((k:Int)>0)=true:=decide_eq_true (by omega)
     have bE:=OC l k dX aK hw hb;have y_2:=DH (l[k]'aK).s;repeat' (first | (simp -implicitDefEqProofs only [go_sem,Int.reduceNegSucc,hgt,hlen,hx,av,sP,yJ,wu]) | (with_reducible refine aF ?_) | (with_reducible first | refine az bE ?_ | refine aA bE ?_) | (with_reducible first | refine az y_2 ?_ | refine aA y_2 ?_) | ((first | refine ak (fun hg=>?_) (fun hg=>?_) | refine aC (fun hg=>?_) (fun hg=>?_) | refine aD (fun hg=>?_) (fun hg=>?_)) <;> try simp -implicitDefEqProofs only [hg,Bool.not_true,Bool.not_false]) | ((with_reducible apply And.intro);focus (first | trivial | omega | decide | (simp -implicitDefEqProofs only [maxLen];omega) | (simp [maxLen,aq,av,ax,aE,aj,ay,aB] <;> omega))) | fail)
     all_goals first
      | (refine hR _ _ (bad _ _ rfl (EM ?_));rw [hn];simpa using hg;done)
      | (refine hR _ _ (bad _ _ rfl (zR ?_));simpa using hg;done)
      | (refine nx _ _ ?_ ?_ (bV (by simp [lk])) <;> simp_all;done)
    ·obtain rfl:k=0:=by omega
     have hn:gJ l 0=true:=by simp [gJ]
     have hgt:decide (((0:Nat):Int)>0)=false:=rfl
     have bL:=DH (l[0]'aK).s;repeat' (first | (simp -implicitDefEqProofs only [go_sem,Int.reduceNegSucc,hgt,hlen,hx,av,sP,yJ,wu]) | (with_reducible refine aF ?_) | (with_reducible first | refine az bL ?_ | refine aA bL ?_) | ((first | refine ak (fun hg=>?_) (fun hg=>?_) | refine aC (fun hg=>?_) (fun hg=>?_) | refine aD (fun hg=>?_) (fun hg=>?_)) <;> try simp -implicitDefEqProofs only [hg,Bool.not_true,Bool.not_false]) | ((with_reducible apply And.intro);focus (first | trivial | omega | decide | (simp -implicitDefEqProofs only [maxLen];omega) | (simp [maxLen,aq,av,ax,aE,aj,ay,aB] <;> omega))) | fail)
     all_goals first
      | (refine hR _ _ (bad _ _ rfl (zR ?_));simpa using hg;done)
      | (refine nx _ _ hn ?_ (bV (by simp [lk]));simpa using hg)
   ·have aK:k=l.length:=by simp at hg;omega
    subst aK
    have hall:=rq (Nat.le_refl _) fI
    have hs:nY l=true:=by
     simp -implicitDefEqProofs only [nY,Bool.and_eq_true,decide_eq_true_eq,List.all_eq_true,List.mem_range]
     exact ⟨⟨by omega,BG⟩,hk2⟩
    simp -implicitDefEqProofs only [go_sem,Int.reduceNegSucc]
    refine hX _ _ _ ?_
    repeat' (first | (simp -implicitDefEqProofs only [go_sem,Int.reduceNegSucc]) | (with_reducible refine aF ?_) | ((first | refine ak (fun hg=>?_) (fun hg=>?_) | refine aC (fun hg=>?_) (fun hg=>?_) | refine aD (fun hg=>?_) (fun hg=>?_)) <;> try simp -implicitDefEqProofs only [hg,Bool.not_true,Bool.not_false]) | ((with_reducible apply And.intro);focus (first | trivial | omega | decide | (simp -implicitDefEqProofs only [maxLen];omega) | (simp [maxLen,aq,av,ax,aE,aj,ay,aB] <;> omega))) | fail)
    exact (hK _ _ (cC (by rw [eM,hs,hall];rfl))).2
end Go.aG

namespace Go.aG
open Go
theorem KJ:aV Go.Proofs.Try.prog 58 25 (fc Go.Proofs.Try.prog 58 25 [(.t 2)]) [(.t 2)]:=bh (by kernel_rfl)
theorem KX:aV Go.Proofs.Try.prog 35 33 (fc Go.Proofs.Try.prog 35 33 [(.t 2)]) [(.t 2)]:=bh (by kernel_rfl)
theorem KV:aV Go.Proofs.Try.prog 37 7 (fc Go.Proofs.Try.prog 37 7 [(.t 2)]) [(.t 2)]:=bh (by kernel_rfl)
theorem KG:aV Go.Proofs.Try.prog 59 19 (fc Go.Proofs.Try.prog 59 19 [(.t 4)]) [(.t 4)]:=bh (by kernel_rfl)
theorem KD:aV Go.Proofs.Try.prog 36 9 (fc Go.Proofs.Try.prog 36 9 [(.t 4)]) [(.t 4)]:=bh (by kernel_rfl)
theorem KU:aV Go.Proofs.Try.prog 22 18 (fc Go.Proofs.Try.prog 22 18 [(.t 2)]) [(.t 2)]:=bh (by kernel_rfl)
def lI (ys:List Int) (m:Int) (k:Nat):Int:=(ys.drop k).foldl (fun a b=>if b>a then b else a) m
theorem LP {ys:List Int} {m:Int} {k:Nat} (h:k<ys.length):lI ys m k=lI ys (if ys[k]'h>m then ys[k]'h else m) (k+1):=by
 unfold lI;rw [List.drop_eq_getElem_cons h];rfl
theorem LN {ys:List Int} {m:Int} {k:Nat} (h:ys.length≤k):lI ys m k=m:=by
 unfold lI;rw [List.drop_of_length_le h];rfl
theorem NO (ys:List Int) (h0:0<ys.length) (hb:ys.length≤8589934592):aI Go.Proofs.Try.prog 58 [.rv (.sl 1 (aJ ys))] [] [] (.rv (.int .i64 (lI ys (ys[0]'h0) 1))):=by
 refine bH KJ [.rv (.sl 1 (aJ ys))] _ (by simp) (by simp [aP,bg,bu,aZ,bn,ai.sv,Ln.sv,Nd.sv]) (fun K hK=>?_)
 have hlen:=aj ys
 have e0:decide (((ys.length:Nat):Int)<1)=false:=decide_eq_false (by omega)
 have hx0:=nL h0
 conv in fc _ _ _ _=>reduce
 simp -implicitDefEqProofs only [go_sem,Int.reduceNegSucc]
 repeat' (first | (simp -implicitDefEqProofs only [go_sem,Int.reduceNegSucc,hlen,e0,hx0]) | (with_reducible refine aF ?_) | ((first | refine ak (fun hg=>?_) (fun hg=>?_) | refine aC (fun hg=>?_) (fun hg=>?_) | refine aD (fun hg=>?_) (fun hg=>?_)) <;> try simp -implicitDefEqProofs only [hg,Bool.not_true,Bool.not_false]) | ((with_reducible apply And.intro);focus (first | trivial | omega | decide | (simp -implicitDefEqProofs only [maxLen];omega) | (simp [maxLen,aq,av,ax,aE,aj,ay,aB] <;> omega))) | fail)
 refine dN (ι:=Nat×Int) (fun i=>[(4,.rv (.int .i64 i.1)),(3,.rv (.int .i64 i.2)),(0,.rv (.sl 1 (aJ ys)))]) (fun _=>[]) (fun i=>i.1≤ys.length∧lI ys i.2 i.1=lI ys (ys[0]'h0) 1) (fun i=>ys.length - i.1) (1,ys[0]'h0) ⟨by dsimp only;omega,rfl⟩ (bV (by simp [lk])) (fun i hi K' hN hX hR=>?_)
 obtain ⟨k,m⟩:=i
 obtain ⟨de,hk2⟩:=hi
 dsimp only at de hk2 ⊢
 simp -implicitDefEqProofs only [hlen,go_sem,Int.reduceNegSucc]
 refine ak (fun hg=>?_) (fun hg=>?_)
 ·have aK:k<ys.length:=by simp at hg;omega
  have hx:=nL aK
  repeat' (first | (simp -implicitDefEqProofs only [go_sem,Int.reduceNegSucc,hlen,hx]) | (with_reducible refine aF ?_) | ((first | refine ak (fun hg=>?_) (fun hg=>?_) | refine aC (fun hg=>?_) (fun hg=>?_) | refine aD (fun hg=>?_) (fun hg=>?_)) <;> try simp -implicitDefEqProofs only [hg,Bool.not_true,Bool.not_false]) | ((with_reducible apply And.intro);focus (first | trivial | omega | decide | (simp -implicitDefEqProofs only [maxLen];omega) | (simp [maxLen,aq,av,ax,aE,aj,ay,aB] <;> omega))) | fail)
  rw [cQ (by omega)]
  exact hN (k+1,if ys[k]'aK>m then ys[k]'aK else m) _ _ ⟨by dsimp only;omega,by rw [← hk2];exact (LP aK).symm⟩ (by dsimp only;omega) (bV (by simp [lk]))
 ·simp -implicitDefEqProofs only [go_sem,Int.reduceNegSucc]
  refine hX _ _ _ ?_
  repeat' (first | (simp -implicitDefEqProofs only [go_sem,Int.reduceNegSucc]) | (with_reducible refine aF ?_) | ((first | refine ak (fun hg=>?_) (fun hg=>?_) | refine aC (fun hg=>?_) (fun hg=>?_) | refine aD (fun hg=>?_) (fun hg=>?_)) <;> try simp -implicitDefEqProofs only [hg,Bool.not_true,Bool.not_false]) | ((with_reducible apply And.intro);focus (first | trivial | omega | decide | (simp -implicitDefEqProofs only [maxLen];omega) | (simp [maxLen,aq,av,ax,aE,aj,ay,aB] <;> omega))) | fail)
  refine (hK _ _ (cC ?_)).2
  rw [← hk2,LN (by simp at hg;omega)];rfl
def bU (l:List Nd) (k:Nat):List Int:=(List.range l.length).map fun j=>if j<k then (depth l j:Int) else 0
theorem rJ (l:List Nd) (k:Nat):(bU l k).length=l.length:=by simp [bU]
theorem wZ {l:List Nd} {k:Nat} (hk:k<l.length):(bU l k).set k (depth l k)=bU l (k+1):=by
 refine List.ext_getElem (by simp [bU]) (fun i h1 h2=>?_)
 simp -implicitDefEqProofs only [List.getElem_set,bU,List.getElem_map,List.getElem_range]
 by_cases h:k=i
 ·subst h;simp
 ·rw [if_neg h]
  by_cases hi:i<k
  ·rw [if_pos hi,if_pos (by omega)]
  ·rw [if_neg hi,if_neg (by omega)]
theorem Au (l:List Nd):bU l 0=List.replicate l.length 0:=by
 refine List.ext_getElem (by simp [bU]) (fun i h1 h2=>?_)
 simp [bU]
theorem As {l:List Nd} {k j:Nat} (hj:j<k) (hl:j<l.length):((bU l k).set k 1).getD j 0=depth l j:=by
 rw [List.getD_eq_getElem?_getD,List.getElem?_set_ne (by omega)]
 simp [bU,hl,hj]
theorem At {l:List Nd} {k:Nat} (hk:k<l.length):((bU l k).set k 1).set k (depth l k)=bU l (k+1):=by
 rw [List.set_set,wZ hk]
def rI (l:List Nd):Int:=lI (bU l l.length) ((bU l l.length).getD 0 0) 1
theorem OB (l:List Nd) (h0:0<l.length) (hw:WF l l.length) (hb:l.length≤8589934592):aI Go.Proofs.Try.prog 35 [.rv (.sl 49 (ck l))] [] [] (.rv (.int .i64 (rI l))):=by
 refine bH KX [.rv (.sl 49 (ck l))] _ (by simp) (by simp [aP,bg,bu,aZ,bn,ai.sv,Ln.sv,Nd.sv]) (fun K hK=>?_)
 have hlen:=ax l
 conv in fc _ _ _ _=>reduce
 simp -implicitDefEqProofs only [go_sem,Int.reduceNegSucc]
 repeat' (first | (simp -implicitDefEqProofs only [go_sem,Int.reduceNegSucc,hlen,zj]) | (with_reducible refine aF ?_) | ((first | refine ak (fun hg=>?_) (fun hg=>?_) | refine aC (fun hg=>?_) (fun hg=>?_) | refine aD (fun hg=>?_) (fun hg=>?_)) <;> try simp -implicitDefEqProofs only [hg,Bool.not_true,Bool.not_false]) | ((with_reducible apply And.intro);focus (first | trivial | omega | decide | (simp -implicitDefEqProofs only [maxLen];omega) | (simp [maxLen,aq,av,ax,aE,aj,ay,aB] <;> omega))) | fail)
 refine dN (ι:=Nat) (fun k=>[(11,.rv (.int .i64 k)),(10,.rv (.int .i64 l.length)),(9,.rv (.sl 49 (ck l))),(3,.row 0 0 l.length)]) (fun k=>[some (.row 1 0 (aH (aJ (bU l k))))]) (fun k=>k≤l.length) (fun k=>l.length - k) 0 (by simp) (by rw [Au];exact bV (by simp [lk])) (fun k hk K' hN hX hR=>?_)
 simp -implicitDefEqProofs only [go_sem,Int.reduceNegSucc]
 refine ak (fun hg=>?_) (fun hg=>?_)
 ·have aK:k<l.length:=by simp at hg;omega
  have hx:=mw aK
  have hdl:=rJ l k
  have qj:=mm (l:=bU l k) (i:=k) (by omega)
  have gX:=aj (bU l k)
  have mg:((bU l k).set k 1).length=l.length:=by simp [hdl]
  have hpk:=qB aK
  have wu:=cQ (k:=k) (by omega)
  have nx:∀ e,cA 0 ⟨e,[some (.row 1 0 (aH (aJ (bU l (k+1))))),some (.var ((l[k]'aK).cells.map .rv))]⟩ ⟨[(11,.rv (.int .i64 (k+1:Nat))),(10,.rv (.int .i64 l.length)),(9,.rv (.sl 49 (ck l))),(3,.row 0 0 l.length)],[some (.row 1 0 (aH (aJ (bU l (k+1)))))]⟩→K' .normal ⟨e,_⟩:=fun e he=>hN (k+1) _ _ (by omega) (by omega) he
  have hds:=wZ aK
  have uT:=At aK
  by_cases dX:0<k
  ·have hgt:decide ((k:Int)>0)=true:=decide_eq_true (by omega)
   obtain ⟨p1,p2⟩:=hw.2 k dX aK
   obtain ⟨p,hp⟩:∃ p:Nat,bp l k=p:=⟨(bp l k).toNat,by omega⟩
   have qk:=mm (l:=(bU l k).set k 1) (i:=p) (by omega)
   have uS:=mm (l:=(bU l k).set k 1) (i:=k) (by omega)
   rw [As (by omega) (by omega)] at qk
   have uU:=aj ((bU l k).set k 1)
   have rX:=Av hw dX aK
   rw [hp,Int.toNat_natCast] at rX
   have wd:=cQ (k:=depth l p) (by have:=yU (l:=l) p;unfold depth;omega)
   rw [← rX] at wd
   repeat' (first | (simp -implicitDefEqProofs only [go_sem,Int.reduceNegSucc,hgt,hlen,hx,av,vC,qA,wu,qj,hdl,gX,nW,hpk,hp,qk,uS,mg,uU,wd,uT]) | (with_reducible refine aF ?_) | ((first | refine ak (fun hg=>?_) (fun hg=>?_) | refine aC (fun hg=>?_) (fun hg=>?_) | refine aD (fun hg=>?_) (fun hg=>?_)) <;> try simp -implicitDefEqProofs only [hg,Bool.not_true,Bool.not_false]) | ((with_reducible apply And.intro);focus (first | trivial | omega | decide | (simp -implicitDefEqProofs only [maxLen];omega) | (simp [maxLen,aq,av,ax,aE,aj,ay,aB] <;> omega))) | fail)
   exact nx _ (pZ _ (by simp) (by simp [mT,ag,cB,di]) (by simp [lk,aO,cO,cI]))
  ·obtain rfl:k=0:=by omega
   have hgt:decide (((0:Nat):Int)>0)=false:=rfl
   rw [Aw] at hds
   repeat' (first | (simp -implicitDefEqProofs only [go_sem,Int.reduceNegSucc,hgt,hlen,hx,av,vC,qA,wu,qj,hdl,gX,nW]) | (with_reducible refine aF ?_) | ((first | refine ak (fun hg=>?_) (fun hg=>?_) | refine aC (fun hg=>?_) (fun hg=>?_) | refine aD (fun hg=>?_) (fun hg=>?_)) <;> try simp -implicitDefEqProofs only [hg,Bool.not_true,Bool.not_false]) | ((with_reducible apply And.intro);focus (first | trivial | omega | decide | (simp -implicitDefEqProofs only [maxLen];omega) | (simp [maxLen,aq,av,ax,aE,aj,ay,aB] <;> omega))) | fail)
   rw [show (1:Int)=((1:Nat):Int) from rfl,hds]
   exact nx _ (pZ _ (by simp) (by simp [mT,ag,cB,di]) (by simp [lk,aO,cO,cI]))
 ·have aK:k=l.length:=by simp at hg;omega
  subst aK
  have hpos:0<(bU l l.length).length:=by rw [rJ];exact h0
  have hm:=NO (bU l l.length) hpos (by rw [rJ];exact hb)
  have hml:=Cp (id:=0) (v:=0) (n:=l.length) (bs:=[]) hm (.int _ _) (by simp [aJ,bU]) (mo _)
  simp -implicitDefEqProofs only [go_sem,Int.reduceNegSucc]
  refine hX _ _ _ ?_
  have bE:=hml;repeat' (first | (simp -implicitDefEqProofs only [go_sem,Int.reduceNegSucc]) | (with_reducible refine aF ?_) | (refine ct bE ?_ ?_ ?_;(focus (simp [aS,ag] <;> fail));(focus (simp [aW,aT] <;> fail))) | (refine cK bE ?_ ?_ ?_;(focus (simp [aS,ag] <;> fail));(focus (simp [aW,aT] <;> fail))) | ((first | refine ak (fun hg=>?_) (fun hg=>?_) | refine aC (fun hg=>?_) (fun hg=>?_) | refine aD (fun hg=>?_) (fun hg=>?_)) <;> try simp -implicitDefEqProofs only [hg,Bool.not_true,Bool.not_false]) | ((with_reducible apply And.intro);focus (first | trivial | omega | decide | (simp -implicitDefEqProofs only [maxLen];omega) | (simp [maxLen,aq,av,ax,aE,aj,ay,aB] <;> omega))) | fail)
  refine (hK _ _ (cC ?_)).2
  rw [rI,List.getD_eq_getElem?_getD,List.getElem?_eq_getElem hpos];rfl
theorem LO {ys:List Int} {m b:Int} {k:Nat}:lI ys m k≤b↔m≤b∧∀ x∈ys.drop k,x≤b:=by
 unfold lI
 induction ys.drop k generalizing m with
 | nil=>simp
 | cons a r ih=>
   rw [List.foldl_cons,ih]
   by_cases h:a>m
   ·rw [if_pos h];simp;intro _;omega
   ·rw [if_neg h];simp;intro _ _;omega
theorem FC (l:List Nd) (h0:0<l.length):decide (rI l>256)=(List.range l.length).any (fun k=>decide (depth l k>256)):=by
 have hg:∀ k,k<l.length→(bU l l.length)[k]?=some (depth l k:Int):=fun k hk=>by simp [bU,hk]
 have:rI l≤256↔∀ k,k<l.length→depth l k≤256:=by
  rw [rI,LO]
  constructor
  ·rintro ⟨h1,h2⟩ k hk
   rcases Nat.eq_zero_or_pos k with rfl | dX
   ·rw [List.getD_eq_getElem?_getD,hg 0 hk] at h1;simp at h1;omega
   ·have:=h2 (depth l k) (List.mem_iff_getElem?.2 ⟨k - 1,by rw [List.getElem?_drop,show 1+(k - 1)=k by omega,hg k hk]⟩)
    omega
  ·intro h
   refine ⟨by rw [List.getD_eq_getElem?_getD,hg 0 h0];have:=h 0 h0;simp;omega,fun x hx=>?_⟩
   obtain ⟨i,hi⟩:=List.mem_iff_getElem?.1 hx
   rw [List.getElem?_drop] at hi
   have hlt:1+i<l.length:=by have:=(List.getElem?_eq_some_iff.1 hi).1;rwa [rJ] at this
   rw [hg _ hlt] at hi
   have:=h _ hlt
   simp at hi;omega
 rw [Bool.eq_iff_iff]
 simp -implicitDefEqProofs only [decide_eq_true_eq,List.any_eq_true,List.mem_range]
 constructor
 ·intro h
  apply Classical.byContradiction
  intro hn
  have:=this.2 (fun k hk=>by apply Classical.byContradiction;intro h2;exact hn ⟨k,hk,by omega⟩)
  omega
 ·rintro ⟨k,hk,h⟩
  apply Classical.byContradiction
  intro hn
  have:=this.1 (by omega) k hk
  omega
theorem OA (x:Nd):aI Go.Proofs.Try.prog 37 [x.sv] [] [] (.rv (.bool (!om x.s))):=by
 refine bH KV [x.sv] _ (by simp) (by simp [aP,bg,bu,aZ,bn,ai.sv,Ln.sv,Nd.sv]) (fun K hK=>?_)
 conv in fc _ _ _ _=>reduce
 simp -implicitDefEqProofs only [go_sem,Int.reduceNegSucc]
 have h48:(x.cells.map U.rv).take 48=x.s.cells.map U.rv:=rfl
 have y_2:=Ow x.s;repeat' (first | (simp -implicitDefEqProofs only [go_sem,Int.reduceNegSucc,av,h48]) | (with_reducible refine aF ?_) | (with_reducible first | refine az y_2 ?_ | refine aA y_2 ?_) | ((first | refine ak (fun hg=>?_) (fun hg=>?_) | refine aC (fun hg=>?_) (fun hg=>?_) | refine aD (fun hg=>?_) (fun hg=>?_)) <;> try simp -implicitDefEqProofs only [hg,Bool.not_true,Bool.not_false]) | ((with_reducible apply And.intro);focus (first | trivial | omega | decide | (simp -implicitDefEqProofs only [maxLen];omega) | (simp [maxLen,aq,av,ax,aE,aj,ay,aB] <;> omega))) | fail)
 exact (hK _ _ (cC rfl)).2
theorem NI (l:List Nd) (f:Nat) (p:Nd→Bool) (hf:∀ x:Nd,aI Go.Proofs.Try.prog f [x.sv] [] [] (.rv (.bool (p x)))) (hb:l.length≤8589934592) :
 aI Go.Proofs.Try.prog 59 [.rv (.sl 49 (ck l)),.fn f []] [] [] (.rv (.int .i64 (match l.findIdx? p with | some i=>((i:Nat):Int) | none=>-1))):=by
 refine bH KG [.rv (.sl 49 (ck l)),.fn f []] _ (by simp) (by simp [aP,bg,bu,aZ,bn,ai.sv,Ln.sv,Nd.sv]) (fun K hK=>?_)
 have hlen:=ax l
 conv in fc _ _ _ _=>reduce
 simp -implicitDefEqProofs only [hlen,go_sem,Int.reduceNegSucc]
 refine dN (ι:=Nat) (fun k=>[(8,.rv (.int .i64 k)),(7,.rv (.int .i64 l.length)),(0,.rv (.sl 49 (ck l))),(1,.fn f [])]) (fun _=>[]) (fun k=>k≤l.length∧∀ j,(h:j<l.length)→j<k→p (l[j]'h)=false) (fun k=>l.length - k) 0 (by simp) (bV (by simp [lk])) (fun k hk K' hN hX hR=>?_)
 obtain ⟨de,hk2⟩:=hk
 simp -implicitDefEqProofs only [go_sem,Int.reduceNegSucc]
 refine ak (fun hg=>?_) (fun hg=>?_)
 ·have aK:k<l.length:=by simp at hg;omega
  have hx:=mw aK
  have bL:=hf (l[k]'aK);repeat' (first | (simp -implicitDefEqProofs only [go_sem,Int.reduceNegSucc,hlen,hx,av,qA]) | (with_reducible refine aF ?_) | (with_reducible first | refine az bL ?_ | refine aA bL ?_) | ((first | refine ak (fun hg=>?_) (fun hg=>?_) | refine aC (fun hg=>?_) (fun hg=>?_) | refine aD (fun hg=>?_) (fun hg=>?_)) <;> try simp -implicitDefEqProofs only [hg,Bool.not_true,Bool.not_false]) | ((with_reducible apply And.intro);focus (first | trivial | omega | decide | (simp -implicitDefEqProofs only [maxLen];omega) | (simp [maxLen,aq,av,ax,aE,aj,ay,aB] <;> omega))) | fail)
  ·refine hR _ _ (hK _ _ (cC ?_)).2
   have:l.findIdx? p=some k:=by
    rw [List.findIdx?_eq_some_iff_getElem]
    exact ⟨aK,by simpa using hg,fun j hj=>by rw [hk2 j (by omega) hj];simp⟩
   rw [this];rfl
  ·rw [cQ (by omega)]
   refine hN (k+1) _ _ ⟨by omega,fun j hj hji=>?_⟩ (by omega) (bV (by simp [lk]))
   rcases Nat.lt_or_ge j k with h | h
   ·exact hk2 j hj h
   ·obtain rfl:j=k:=by omega
    simpa using hg
 ·have aK:k=l.length:=by simp at hg;omega
  subst aK
  simp -implicitDefEqProofs only [go_sem,Int.reduceNegSucc]
  refine hX _ _ _ ?_
  repeat' (first | (simp -implicitDefEqProofs only [go_sem,Int.reduceNegSucc]) | (with_reducible refine aF ?_) | ((first | refine ak (fun hg=>?_) (fun hg=>?_) | refine aC (fun hg=>?_) (fun hg=>?_) | refine aD (fun hg=>?_) (fun hg=>?_)) <;> try simp -implicitDefEqProofs only [hg,Bool.not_true,Bool.not_false]) | ((with_reducible apply And.intro);focus (first | trivial | omega | decide | (simp -implicitDefEqProofs only [maxLen];omega) | (simp [maxLen,aq,av,ax,aE,aj,ay,aB] <;> omega))) | fail)
  refine (hK _ _ (cC ?_)).2
  have:l.findIdx? p=none:=by
   rw [List.findIdx?_eq_none_iff]
   intro x hx
   obtain ⟨j,hj,rfl⟩:=List.getElem_of_mem hx
   exact hk2 j hj hj
  rw [this];rfl
theorem NC (l:List Nd) (f:Nat) (p:Nd→Bool) (hf:∀ x:Nd,aI Go.Proofs.Try.prog f [x.sv] [] [] (.rv (.bool (p x)))) (hb:l.length≤8589934592) :
 aI Go.Proofs.Try.prog 36 [.rv (.sl 49 (ck l)),.fn f []] [] [] (.rv (.bool (l.any p))):=by
 refine bH KD [.rv (.sl 49 (ck l)),.fn f []] _ (by simp) (by simp [aP,bg,bu,aZ,bn,ai.sv,Ln.sv,Nd.sv]) (fun K hK=>?_)
 conv in fc _ _ _ _=>reduce
 simp -implicitDefEqProofs only [go_sem,Int.reduceNegSucc]
 have bN:=NI l f p hf hb;repeat' (first | (simp -implicitDefEqProofs only [go_sem,Int.reduceNegSucc]) | (with_reducible refine aF ?_) | (with_reducible first | refine az bN ?_ | refine aA bN ?_) | ((first | refine ak (fun hg=>?_) (fun hg=>?_) | refine aC (fun hg=>?_) (fun hg=>?_) | refine aD (fun hg=>?_) (fun hg=>?_)) <;> try simp -implicitDefEqProofs only [hg,Bool.not_true,Bool.not_false]) | ((with_reducible apply And.intro);focus (first | trivial | omega | decide | (simp -implicitDefEqProofs only [maxLen];omega) | (simp [maxLen,aq,av,ax,aE,aj,ay,aB] <;> omega))) | fail)
 refine (hK _ _ (cC ?_)).2
 have:(l.findIdx? p).isSome=l.any p:=List.findIdx?_isSome
 rw [← this]
 cases l.findIdx? p <;> simp [lk]
theorem Oz (l:List Nd) (hb:l.length≤8589934592):aI Go.Proofs.Try.prog 22 [.rv (.sl 49 (ck l))] [] [] (.rv (.int .i64 (nr l))):=by
 refine bH KU [.rv (.sl 49 (ck l))] _ (by simp) (by simp [aP,bg,bu,aZ,bn,ai.sv,Ln.sv,Nd.sv]) (fun K hK=>?_)
 have hlen:=ax l
 conv in fc _ _ _ _=>reduce
 simp -implicitDefEqProofs only [go_sem,Int.reduceNegSucc]
 cases ht:eM l with
 | false=>
   have hc:=DI l hb
   rw [ht] at hc
   have cc:=hc;repeat' (first | (simp -implicitDefEqProofs only [go_sem,Int.reduceNegSucc]) | (with_reducible refine aF ?_) | (with_reducible first | refine az cc ?_ | refine aA cc ?_) | ((first | refine ak (fun hg=>?_) (fun hg=>?_) | refine aC (fun hg=>?_) (fun hg=>?_) | refine aD (fun hg=>?_) (fun hg=>?_)) <;> try simp -implicitDefEqProofs only [hg,Bool.not_true,Bool.not_false]) | ((with_reducible apply And.intro);focus (first | trivial | omega | decide | (simp -implicitDefEqProofs only [maxLen];omega) | (simp [maxLen,aq,av,ax,aE,aj,ay,aB] <;> omega))) | fail)
   exact (hK _ _ (cC (by simp [nr,ht,lk]))).2
 | true=>
   have hc:=DI l hb
   rw [ht] at hc
   have hs:cZ l:=zl.1 (by unfold eM at ht;simp -implicitDefEqProofs only [Bool.and_eq_true] at ht;exact ht.1)
   have hd:=FC l hs.pos
   have cl:=hc;have cm:=OB l hs.pos hs.wf hb;have cw:=NC l 37 (fun x=>!om x.s) OA hb;repeat' (first | (simp -implicitDefEqProofs only [go_sem,Int.reduceNegSucc,hlen]) | (with_reducible refine aF ?_) | (with_reducible first | refine az cl ?_ | refine aA cl ?_) | (with_reducible first | refine az cm ?_ | refine aA cm ?_) | (with_reducible first | refine az cw ?_ | refine aA cw ?_) | ((first | refine ak (fun hg=>?_) (fun hg=>?_) | refine aC (fun hg=>?_) (fun hg=>?_) | refine aD (fun hg=>?_) (fun hg=>?_)) <;> try simp -implicitDefEqProofs only [hg,Bool.not_true,Bool.not_false]) | ((with_reducible apply And.intro);focus (first | trivial | omega | decide | (simp -implicitDefEqProofs only [maxLen];omega) | (simp [maxLen,aq,av,ax,aE,aj,ay,aB] <;> omega))) | fail)
   all_goals (refine (hK _ _ (cC ?_)).2;clear hK;(simp_all [nr,lk]) <;>(try (intros;omega)))
end Go.aG

namespace Go.aG
open Go
def Pm (l:List Nd) (a:Int) (n:Nat):Bool:=(br l n).any fun (j:Nat)=>decide ((j:Int)=a)
end Go.aG

namespace Go.aG
open Go
theorem Ce:aV Go.Proofs.Try.prog 23 8 (fc Go.Proofs.Try.prog 23 8 [(.t 2)]) [(.t 2)]:=bh (by kernel_rfl)
theorem Cf:aV Go.Proofs.Try.prog 89 8 (fc Go.Proofs.Try.prog 89 8 [(.t 2)]) [(.t 2)]:=bh (by kernel_rfl)
theorem Nz (xs:List (List RV)) (m:Nat) (hb:xs.length≤8589934592):aI Go.Proofs.Try.prog 23 [.rv (.sl 49 xs)] [] [(m,.row 49 1 (aH xs))] (.row m 1 xs.length):=by
 have nz:∀ r:RV,(r = .gj∧xs=[])∨(r = .sl 49 xs∧0<xs.length)→aI Go.Proofs.Try.prog 23 [.rv r] [] [(m,.row 49 1 (aH xs))] (.row m 1 xs.length):=fun r hr=>by
  refine gR Ce [] [] [] [.rv r] [.rv r] _ _ (by simp) (by simp [aP,fH,fA,aZ,bg,kV,bn,kW,kU,cU,ig,bG]) rfl (by simp [bG]) (by simp [cU]) (fun K hK=>?_)
  conv in fc _ _ _ _=>reduce
  simp -implicitDefEqProofs only [go_sem,Int.reduceNegSucc]
  rcases hr with ⟨rfl,rfl⟩ | ⟨rfl,h0⟩
  ·repeat' (first | (simp -implicitDefEqProofs only [go_sem,Int.reduceNegSucc]) | (with_reducible refine aF ?_) | ((first | refine ak (fun hg=>?_) (fun hg=>?_) | refine aC (fun hg=>?_) (fun hg=>?_) | refine aD (fun hg=>?_) (fun hg=>?_)) <;> try simp -implicitDefEqProofs only [hg,Bool.not_true,Bool.not_false]) | ((with_reducible apply And.intro);focus (first | trivial | omega | decide | (simp -implicitDefEqProofs only [maxLen];omega) | (simp [maxLen,aq,av,ax,aE,aj,ay,aB] <;> omega))) | fail)
   refine (hK _ _ _ _ [some m] (cW _ _) ?_).2
   simp [dh,bG,newL,dn,cY,bq,bk,lk,bA,cB,cL,cE,dH,dG,ag,di,bI,aO,cO,dj,dU,aQ,dS,aN,cP,cG]
   exact ⟨by simp [aH],fun i x y hx=>by simp at hx⟩
  ·repeat' (first | (simp -implicitDefEqProofs only [go_sem,Int.reduceNegSucc,zi]) | (with_reducible refine aF ?_) | ((first | refine ak (fun hg=>?_) (fun hg=>?_) | refine aC (fun hg=>?_) (fun hg=>?_) | refine aD (fun hg=>?_) (fun hg=>?_)) <;> try simp -implicitDefEqProofs only [hg,Bool.not_true,Bool.not_false]) | ((with_reducible apply And.intro);focus (first | trivial | omega | decide | (simp -implicitDefEqProofs only [maxLen];omega) | (simp [maxLen,aq,av,ax,aE,aj,ay,aB] <;> omega))) | fail)
   refine (hK _ _ _ _ [some m] (cW _ _) ?_).2
   simp [dh,bG,newL,dn,cY,bq,bk,lk,bA,cB,cL,cE,dH,dG,ag,di,bI,aO,cO,dj,dU,aQ,dS,aN,cP,cG]
 by_cases h0:xs=[]
 ·subst h0
  refine @Aa _ _ _ [] [] _ _ _ ?_ (nz _ (.inl ⟨rfl,rfl⟩))
  show aI _ _ [.rv .bO] _ _ _
  refine gR Ce [] [] [] [.rv .bO] [.rv .bO] _ _ (by simp) (by simp [aP,fH,fA,aZ,bg,kV,bn,kW,kU,cU,ig,bG]) rfl (by simp [bG]) (by simp [cU]) (fun K hK=>?_)
  conv in fc _ _ _ _=>reduce
  simp -implicitDefEqProofs only [go_sem,Int.reduceNegSucc]
  repeat' (first | (simp -implicitDefEqProofs only [go_sem,Int.reduceNegSucc]) | (with_reducible refine aF ?_) | ((first | refine ak (fun hg=>?_) (fun hg=>?_) | refine aC (fun hg=>?_) (fun hg=>?_) | refine aD (fun hg=>?_) (fun hg=>?_)) <;> try simp -implicitDefEqProofs only [hg,Bool.not_true,Bool.not_false]) | ((with_reducible apply And.intro);focus (first | trivial | omega | decide | (simp -implicitDefEqProofs only [maxLen];omega) | (simp [maxLen,aq,av,ax,aE,aj,ay,aB] <;> omega))) | fail)
  refine (hK _ _ _ _ [some m] (rM 2 49 1 rfl) ?_).2
  simp [dh,bG,newL,dn,cY,bq,bk,lk,bA,cB,cL,cE,dH,dG,ag,di,bI,aO,cO,dj,dU,aQ,dS,aN,cP,cG]
  exact ⟨by simp [aH],fun i x y hx=>by simp at hx⟩
 ·exact nz _ (.inr ⟨rfl,List.length_pos_iff.2 h0⟩)
theorem NB (xs:List (List RV)) (m:Nat) (hb:xs.length≤8589934592):aI Go.Proofs.Try.prog 89 [.rv (.sl 1 xs)] [] [(m,.row 1 1 (aH xs))] (.row m 1 xs.length):=by
 have nz:∀ r:RV,(r = .gj∧xs=[])∨(r = .sl 1 xs∧0<xs.length)→aI Go.Proofs.Try.prog 89 [.rv r] [] [(m,.row 1 1 (aH xs))] (.row m 1 xs.length):=fun r hr=>by
  refine gR Cf [] [] [] [.rv r] [.rv r] _ _ (by simp) (by simp [aP,fH,fA,aZ,bg,kV,bn,kW,kU,cU,ig,bG]) rfl (by simp [bG]) (by simp [cU]) (fun K hK=>?_)
  conv in fc _ _ _ _=>reduce
  simp -implicitDefEqProofs only [go_sem,Int.reduceNegSucc]
  rcases hr with ⟨rfl,rfl⟩ | ⟨rfl,h0⟩
  ·repeat' (first | (simp -implicitDefEqProofs only [go_sem,Int.reduceNegSucc]) | (with_reducible refine aF ?_) | ((first | refine ak (fun hg=>?_) (fun hg=>?_) | refine aC (fun hg=>?_) (fun hg=>?_) | refine aD (fun hg=>?_) (fun hg=>?_)) <;> try simp -implicitDefEqProofs only [hg,Bool.not_true,Bool.not_false]) | ((with_reducible apply And.intro);focus (first | trivial | omega | decide | (simp -implicitDefEqProofs only [maxLen];omega) | (simp [maxLen,aq,av,ax,aE,aj,ay,aB] <;> omega))) | fail)
   refine (hK _ _ _ _ [some m] (cW _ _) ?_).2
   simp [dh,bG,newL,dn,cY,bq,bk,lk,bA,cB,cL,cE,dH,dG,ag,di,bI,aO,cO,dj,dU,aQ,dS,aN,cP,cG]
   exact ⟨by simp [aH],fun i x y hx=>by simp at hx⟩
  ·repeat' (first | (simp -implicitDefEqProofs only [go_sem,Int.reduceNegSucc,zi]) | (with_reducible refine aF ?_) | ((first | refine ak (fun hg=>?_) (fun hg=>?_) | refine aC (fun hg=>?_) (fun hg=>?_) | refine aD (fun hg=>?_) (fun hg=>?_)) <;> try simp -implicitDefEqProofs only [hg,Bool.not_true,Bool.not_false]) | ((with_reducible apply And.intro);focus (first | trivial | omega | decide | (simp -implicitDefEqProofs only [maxLen];omega) | (simp [maxLen,aq,av,ax,aE,aj,ay,aB] <;> omega))) | fail)
   refine (hK _ _ _ _ [some m] (cW _ _) ?_).2
   simp [dh,bG,newL,dn,cY,bq,bk,lk,bA,cB,cL,cE,dH,dG,ag,di,bI,aO,cO,dj,dU,aQ,dS,aN,cP,cG]
 by_cases h0:xs=[]
 ·subst h0
  refine @Aa _ _ _ [] [] _ _ _ ?_ (nz _ (.inl ⟨rfl,rfl⟩))
  show aI _ _ [.rv .bO] _ _ _
  refine gR Cf [] [] [] [.rv .bO] [.rv .bO] _ _ (by simp) (by simp [aP,fH,fA,aZ,bg,kV,bn,kW,kU,cU,ig,bG]) rfl (by simp [bG]) (by simp [cU]) (fun K hK=>?_)
  conv in fc _ _ _ _=>reduce
  simp -implicitDefEqProofs only [go_sem,Int.reduceNegSucc]
  repeat' (first | (simp -implicitDefEqProofs only [go_sem,Int.reduceNegSucc]) | (with_reducible refine aF ?_) | ((first | refine ak (fun hg=>?_) (fun hg=>?_) | refine aC (fun hg=>?_) (fun hg=>?_) | refine aD (fun hg=>?_) (fun hg=>?_)) <;> try simp -implicitDefEqProofs only [hg,Bool.not_true,Bool.not_false]) | ((with_reducible apply And.intro);focus (first | trivial | omega | decide | (simp -implicitDefEqProofs only [maxLen];omega) | (simp [maxLen,aq,av,ax,aE,aj,ay,aB] <;> omega))) | fail)
  refine (hK _ _ _ _ [some m] (rM 2 1 1 rfl) ?_).2
  simp [dh,bG,newL,dn,cY,bq,bk,lk,bA,cB,cL,cE,dH,dG,ag,di,bI,aO,cO,dj,dU,aQ,dS,aN,cP,cG]
  exact ⟨by simp [aH],fun i x y hx=>by simp at hx⟩
 ·exact nz _ (.inr ⟨rfl,List.length_pos_iff.2 h0⟩)
end Go.aG

namespace Go.aG
open Go
theorem Ks:aV Go.Proofs.Try.prog 9 157 (fc Go.Proofs.Try.prog 9 157 [(.t 2),(.t 3)]) [(.t 2),(.t 3)]:=bh (by kernel_rfl)
def aY (l:List Nat):List Int:=l.map fun (n:Nat)=>(n:Int)
def eE (bs:List Bool):List (List RV):=bs.map fun b=>[.bool b]
theorem zY (bs:List Bool):(eE bs).length=bs.length:=by simp [eE]
theorem wL {bs:List Bool} {i:Nat} (h:i<bs.length):(eE bs)[i]?.getD []=[.bool (bs.getD i false)]:=by simp [eE,h]
theorem zk {ys:List Bool} {k:Nat} {v:Bool}:(aH (eE ys)).set k [.rv (.bool v)]=aH (eE (ys.set k v)):=by simp [aH,eE,List.map_set]
theorem Nm {n:Nat}:List.replicate n [U.rv (.bool false)]=aH (eE (List.replicate n false)):=by simp [aH,eE]
theorem EW (l:List Bool):∀ x∈eE l,∀ r∈x,r.one=true:=by
 intro x hx r hr
 obtain ⟨n,_,rfl⟩:=List.mem_map.1 hx
 simp at hr;rw [hr];rfl
def cS (l:List Nd) (k:Nat):List Bool:=(List.range l.length).map fun j=>if j<k then lH l j else false
theorem LJ (l:List Nd) (k:Nat):(cS l k).length=l.length:=by simp [cS]
theorem LK (l:List Nd):cS l 0=List.replicate l.length false:=by
 refine List.ext_getElem (by simp [cS]) (fun i h1 h2=>?_)
 simp [cS]
theorem Cw {l:List Nd} {k:Nat} (hk:k<l.length):(cS l k).set k (lH l k)=cS l (k+1):=by
 refine List.ext_getElem (by simp [cS]) (fun i h1 h2=>?_)
 simp -implicitDefEqProofs only [List.getElem_set,cS,List.getElem_map,List.getElem_range]
 by_cases h:k=i
 ·subst h;simp
 ·rw [if_neg h]
  by_cases hi:i<k
  ·rw [if_pos hi,if_pos (by omega)]
  ·rw [if_neg hi,if_neg (by omega)]
theorem LI {l:List Nd} {k j:Nat} {b:Bool} (hj:j<k) (hl:j<l.length):((cS l k).set k b).getD j false=lH l j:=by
 rw [List.getD_eq_getElem?_getD,List.getElem?_set_ne (by omega)]
 simp [cS,hl,hj]
def JH (l:List Nd) (k:Nat):List (List U):=(List.range l.length).map fun p=>[.row (p+6) (bK l k p).length (bK l k p).length]
def JC (l:List Nd) (k:Nat):List (Option HB):=(List.range l.length).map fun p=>some (.row 1 (bK l k p).length (aH (aJ (aY (bK l k p)))))
def mq (l:List Nd):List (List RV):=(List.range l.length).map fun p=>[.sl 1 (aJ (aY (dB l p)))]
def rL (l:List Nd):List Int:=(List.range l.length).map fun n=>(cV l n:Int)
abbrev bM (l:List Nd):RV:=.rop [.sl 49 (ck l),.sl 1 (mq l),.sl 1 (aJ (rL l)),.sl 1 (aJ (bU l l.length)),.sl 1 (eE (cS l l.length))]
def PS (l:List Nd) (k:Nat) (es ds:List Int) (bs:List Bool):List (Option HB):=some (.row 49 1 (aH (ck l)))::some (.row 1 0 (JH l k))::some (.row 1 0 (aH (aJ es)))::some (.row 1 0 (aH (aJ ds)))::some (.row 1 0 (aH (eE bs)))::some (.var [.row 0 1 l.length,.row 1 0 l.length,.row 2 0 l.length,.row 3 0 l.length,.row 4 0 l.length])::JC l k
def dL (l:List Nd) (k:Nat):List Int:=(List.range l.length).map fun j=>if k≤j then (cV l j:Int) else 0
theorem FJ (l:List Nd) (k:Nat):(dL l k).length=l.length:=by simp [dL]
theorem FL (l:List Nd):dL l l.length=List.replicate l.length 0:=by
 refine List.ext_getElem (by simp [dL]) (fun i h1 h2=>?_)
 simp [dL] at h1
 simp [dL];omega
theorem FM (l:List Nd):dL l 0=rL l:=by simp [dL,rL]
theorem FK {l:List Nd} {k:Nat} (hk:0<k) (hl:k≤l.length):(dL l k).set (k - 1) (cV l (k - 1))=dL l (k - 1):=by
 refine List.ext_getElem (by simp [dL]) (fun i h1 h2=>?_)
 simp -implicitDefEqProofs only [List.getElem_set,dL,List.getElem_map,List.getElem_range]
 by_cases h:k - 1=i
 ·subst h;simp
 ·rw [if_neg h]
  by_cases hi:k≤i
  ·rw [if_pos hi,if_pos (by omega)]
  ·rw [if_neg hi,if_neg (by omega)]
theorem FI {l:List Nd} {k j:Nat} {v:Int} (hj:k≤j) (hk:0<k) (hl:j<l.length):((dL l k).set (k - 1) v).getD j 0=cV l j:=by
 rw [List.getD_eq_getElem?_getD,List.getElem?_set_ne (by omega)]
 simp [dL,hl,hj]
theorem qd {τ:Nat→Option Nat} {h:Hp} {j e af len:Nat} {xs:List (List RV)} (hj:h j=some (.row e af (aH xs))) (fJ:τ j=none) (hl:len=xs.length) (h1:∀ x∈xs,∀ r∈x,r.one=true):Fz τ h (.row j af len) (.sl e xs):=by
 have:=mK (τ:=τ) hj fJ (len:=len) (by omega) h1
 rw [hl,List.take_length] at this
 rw [hl];exact this
theorem yI (x:Nd):(x.cells.map U.rv)[0]?=some (.rv (.bool x.s.shown)):=rfl
end Go.aG

namespace Go.aG
open Go
theorem Km:aV Go.Proofs.Try.prog 39 10 (fc Go.Proofs.Try.prog 39 10 [(.t 2)]) [(.t 2)]:=bh (by kernel_rfl)
theorem Kr:aV Go.Proofs.Try.prog 24 13 (fc Go.Proofs.Try.prog 24 13 [(.t 4)]) [(.t 4)]:=bh (by kernel_rfl)
theorem Kq:aV Go.Proofs.Try.prog 40 18 (fc Go.Proofs.Try.prog 40 18 [(.c 4 48 true)]) [(.c 4 48 true)]:=bh (by kernel_rfl)
theorem Kp:aV Go.Proofs.Try.prog 29 17 (fc Go.Proofs.Try.prog 29 17 [(.t 4)]) [(.t 4)]:=bh (by kernel_rfl)
theorem Kn:aV Go.Proofs.Try.prog 10 17 (fc Go.Proofs.Try.prog 10 17 [(.t 4)]) [(.t 4)]:=bh (by kernel_rfl)
theorem Ko:aV Go.Proofs.Try.prog 27 36 (fc Go.Proofs.Try.prog 27 36 [(.t 4)]) [(.t 4)]:=bh (by kernel_rfl)
def eI (l:List Nd) (n:Int):Bool:=decide (n≥0) && decide (n<l.length)
theorem oV {l:List Nd} {n:Int} (h:eI l n=true):∃ k:Nat,n=k∧k<l.length:=by
 simp [eI] at h;exact ⟨n.toNat,by omega,by omega⟩
def cq (l:List Nd) (n:Int):ai:=if eI l n=true then (l.getD n.toNat default).s else default
def gK (l:List Nd) (n:Int):Int:=if eI l n=true then bp l n.toNat else -1
def xe (l:List Nd) (n:Int):Int:=if eI l n=true then cV l n.toNat else 0
def Pq (l:List Nd) (n:Int):Int:=if eI l n=true then depth l n.toNat else 0
def mU (l:List Nd) (n:Int):Bool:=eI l n && lH l n.toNat
def mW (l:List Nd) (n:Int):Bool:=mU l n && decide (n>0) && (decide ((cq l n).position=2) || decide ((cq l n).position=3))
def Po (l:List Nd) (a n:Int):Bool:=eI l a && eI l n && decide (n≥a) && decide (n<xe l a)
theorem Ld (l:List Nd):(mq l).length=l.length:=by simp [mq]
theorem Lc {l:List Nd} {k:Nat} (h:k<l.length):(mq l)[k]?.getD []=[.sl 1 (aJ (aY (dB l k)))]:=by simp [mq,h]
theorem LM (l:List Nd):(eE (cS l l.length)).length=l.length:=by simp [eE,cS]
theorem LL {l:List Nd} {k:Nat} (h:k<l.length):(eE (cS l l.length))[k]?.getD []=[.bool (lH l k)]:=by simp [eE,cS,h]
theorem zc {τ:Nat→Option Nat} {h:List (Option HB)} {env:List (Nat×U)} {a n id:Nat} {rs:List RV} (hl:lk env a = .ptr id 0) (hh:ag h id=some (.var (rs.map .rv))) (hn:rs.length=n):bq τ (ag h) (.agg (rs.map .rv)) (bk (lk env) (ag h) [.c a n true]):=by
 simp [bk,bq,bA,hl,dD,hh,hn]
 rw [List.take_of_length_le (by simp [hn])];exact aQ.2 (cG.2 rfl)
section
variable (l:List Nd) (hb:l.length≤8589934592) (n:Int)
theorem NN:aI Go.Proofs.Try.prog 39 [.rv (bM l)] [] [] (.rv (.int .i64 l.length)):=by
 refine bH Km [.rv (bM l)] _ (by simp) (by simp [aP,bg,bu,aZ,bn,ai.sv,Ln.sv,Nd.sv]) (fun K hK=>?_)
 conv in fc _ _ _ _=>reduce
 simp -implicitDefEqProofs only [go_sem,Int.reduceNegSucc]
 repeat' (first | (simp -implicitDefEqProofs only [go_sem,Int.reduceNegSucc,ax,bM]) | (with_reducible refine aF ?_) | ((first | refine ak (fun hg=>?_) (fun hg=>?_) | refine aC (fun hg=>?_) (fun hg=>?_) | refine aD (fun hg=>?_) (fun hg=>?_)) <;> try simp -implicitDefEqProofs only [hg,Bool.not_true,Bool.not_false]) | ((with_reducible apply And.intro);focus (first | trivial | omega | decide | (simp -implicitDefEqProofs only [maxLen];omega) | (simp [maxLen,aq,av,ax,aE,aj,ay,aB] <;> omega))) | fail)
 exact (hK _ _ (cC rfl)).2
theorem vZ:aI Go.Proofs.Try.prog 24 [.rv (bM l),.rv (.int .i64 n)] [] [] (.rv (.bool (eI l n))):=by
 refine bH Kr [.rv (bM l),.rv (.int .i64 n)] _ (by simp) (by simp [aP,bg,bu,aZ,bn,ai.sv,Ln.sv,Nd.sv]) (fun K hK=>?_)
 conv in fc _ _ _ _=>reduce
 simp -implicitDefEqProofs only [go_sem,Int.reduceNegSucc]
 have bE:=NN l;repeat' (first | (simp -implicitDefEqProofs only [go_sem,Int.reduceNegSucc]) | (with_reducible refine aF ?_) | (with_reducible first | refine az bE ?_ | refine aA bE ?_) | ((first | refine ak (fun hg=>?_) (fun hg=>?_) | refine aC (fun hg=>?_) (fun hg=>?_) | refine aD (fun hg=>?_) (fun hg=>?_)) <;> try simp -implicitDefEqProofs only [hg,Bool.not_true,Bool.not_false]) | ((with_reducible apply And.intro);focus (first | trivial | omega | decide | (simp -implicitDefEqProofs only [maxLen];omega) | (simp [maxLen,aq,av,ax,aE,aj,ay,aB] <;> omega))) | fail)
 all_goals (try ((first | refine (hK _ _ _ _ [] (cW _ _) ?_).2 | refine (hK _ _ ?_).2 | refine (hK _ _ _ _ [] (cW _ _) ?_).1 | refine (hK _ _ ?_).1 | fail);clear hK;(simp_all [dh,bG,newL,dn,cY,bq,bk,lk,bA,cB,cL,cE,dH,dG,ag,di,bI,aO,cO,dj,dU,aQ,dS,aN,cP,cG,cz,eI]) <;> try omega))
theorem Dw:aI Go.Proofs.Try.prog 40 [.rv (bM l),.rv (.int .i64 n)] [] [] (cq l n).sv:=by
 refine bH Kq [.rv (bM l),.rv (.int .i64 n)] _ (by simp) (by simp [aP,bg,bu,aZ,bn,ai.sv,Ln.sv,Nd.sv]) (fun K hK=>?_)
 have hh:=vZ l n
 conv in fc _ _ _ _=>reduce
 simp -implicitDefEqProofs only [go_sem,Int.reduceNegSucc]
 cases hi:eI l n with
 | false=>
   rw [hi] at hh
   have y_2:=hh;repeat' (first | (simp -implicitDefEqProofs only [go_sem,Int.reduceNegSucc]) | (with_reducible refine aF ?_) | (with_reducible first | refine az y_2 ?_ | refine aA y_2 ?_) | ((first | refine ak (fun hg=>?_) (fun hg=>?_) | refine aC (fun hg=>?_) (fun hg=>?_) | refine aD (fun hg=>?_) (fun hg=>?_)) <;> try simp -implicitDefEqProofs only [hg,Bool.not_true,Bool.not_false]) | ((with_reducible apply And.intro);focus (first | trivial | omega | decide | (simp -implicitDefEqProofs only [maxLen];omega) | (simp [maxLen,aq,av,ax,aE,aj,ay,aB] <;> omega) | (rfl;done) | (exact ⟨rfl,by decide⟩;done))) | fail)
   have yb:cq l n=default:=by simp [cq,hi]
   rw [yb] at hK
   exact (hK _ _ (zc rfl rfl rfl)).2
 | true=>
   rw [hi] at hh
   obtain ⟨k,rfl,hk⟩:=oV hi
   have hx:=mw hk
   have hlen:=ax l
   have bL:=hh;repeat' (first | (simp -implicitDefEqProofs only [go_sem,Int.reduceNegSucc,hx,hlen,av,aq,yJ,bM]) | (with_reducible refine aF ?_) | (with_reducible first | refine az bL ?_ | refine aA bL ?_) | ((first | refine ak (fun hg=>?_) (fun hg=>?_) | refine aC (fun hg=>?_) (fun hg=>?_) | refine aD (fun hg=>?_) (fun hg=>?_)) <;> try simp -implicitDefEqProofs only [hg,Bool.not_true,Bool.not_false]) | ((with_reducible apply And.intro);focus (first | trivial | omega | decide | (simp -implicitDefEqProofs only [maxLen];omega) | (simp [maxLen,aq,av,ax,aE,aj,ay,aB] <;> omega))) | fail)
   have yb:cq l k=(l[k]'hk).s:=by simp [cq,hi,hk]
   rw [yb] at hK
   exact (hK _ _ (zc rfl rfl rfl)).2
theorem NP:aI Go.Proofs.Try.prog 29 [.rv (bM l),.rv (.int .i64 n)] [] [] (.rv (.int .i64 (gK l n))):=by
 refine bH Kp [.rv (bM l),.rv (.int .i64 n)] _ (by simp) (by simp [aP,bg,bu,aZ,bn,ai.sv,Ln.sv,Nd.sv]) (fun K hK=>?_)
 have hh:=vZ l n
 conv in fc _ _ _ _=>reduce
 simp -implicitDefEqProofs only [go_sem,Int.reduceNegSucc]
 cases hi:eI l n with
 | false=>
   rw [hi] at hh
   have bN:=hh;repeat' (first | (simp -implicitDefEqProofs only [go_sem,Int.reduceNegSucc]) | (with_reducible refine aF ?_) | (with_reducible first | refine az bN ?_ | refine aA bN ?_) | ((first | refine ak (fun hg=>?_) (fun hg=>?_) | refine aC (fun hg=>?_) (fun hg=>?_) | refine aD (fun hg=>?_) (fun hg=>?_)) <;> try simp -implicitDefEqProofs only [hg,Bool.not_true,Bool.not_false]) | ((with_reducible apply And.intro);focus (first | trivial | omega | decide | (simp -implicitDefEqProofs only [maxLen];omega) | (simp [maxLen,aq,av,ax,aE,aj,ay,aB] <;> omega))) | fail)
   exact (hK _ _ (cC (by simp [gK,hi,lk]))).2
 | true=>
   rw [hi] at hh
   obtain ⟨k,rfl,hk⟩:=oV hi
   have hx:=mw hk
   have hlen:=ax l
   have hp:=qB hk
   have cc:=hh;repeat' (first | (simp -implicitDefEqProofs only [go_sem,Int.reduceNegSucc,hx,hlen,av,bM,sP,hp]) | (with_reducible refine aF ?_) | (with_reducible first | refine az cc ?_ | refine aA cc ?_) | ((first | refine ak (fun hg=>?_) (fun hg=>?_) | refine aC (fun hg=>?_) (fun hg=>?_) | refine aD (fun hg=>?_) (fun hg=>?_)) <;> try simp -implicitDefEqProofs only [hg,Bool.not_true,Bool.not_false]) | ((with_reducible apply And.intro);focus (first | trivial | omega | decide | (simp -implicitDefEqProofs only [maxLen];omega) | (simp [maxLen,aq,av,ax,aE,aj,ay,aB] <;> omega))) | fail)
   exact (hK _ _ (cC (by simp [gK,hi,lk]))).2
theorem Du:aI Go.Proofs.Try.prog 10 [.rv (bM l),.rv (.int .i64 n)] [] [] (.rv (.bool (mU l n))):=by
 refine bH Kn [.rv (bM l),.rv (.int .i64 n)] _ (by simp) (by simp [aP,bg,bu,aZ,bn,ai.sv,Ln.sv,Nd.sv]) (fun K hK=>?_)
 have hh:=vZ l n
 conv in fc _ _ _ _=>reduce
 simp -implicitDefEqProofs only [go_sem,Int.reduceNegSucc]
 cases hi:eI l n with
 | false=>
   rw [hi] at hh
   have cl:=hh;repeat' (first | (simp -implicitDefEqProofs only [go_sem,Int.reduceNegSucc]) | (with_reducible refine aF ?_) | (with_reducible first | refine az cl ?_ | refine aA cl ?_) | ((first | refine ak (fun hg=>?_) (fun hg=>?_) | refine aC (fun hg=>?_) (fun hg=>?_) | refine aD (fun hg=>?_) (fun hg=>?_)) <;> try simp -implicitDefEqProofs only [hg,Bool.not_true,Bool.not_false]) | ((with_reducible apply And.intro);focus (first | trivial | omega | decide | (simp -implicitDefEqProofs only [maxLen];omega) | (simp [maxLen,aq,av,ax,aE,aj,ay,aB] <;> omega))) | fail)
   exact (hK _ _ (cC (by simp [mU,hi,lk]))).2
 | true=>
   rw [hi] at hh
   obtain ⟨k,rfl,hk⟩:=oV hi
   have cm:=hh;repeat' (first | (simp -implicitDefEqProofs only [go_sem,Int.reduceNegSucc,LM,LL hk,bM]) | (with_reducible refine aF ?_) | (with_reducible first | refine az cm ?_ | refine aA cm ?_) | ((first | refine ak (fun hg=>?_) (fun hg=>?_) | refine aC (fun hg=>?_) (fun hg=>?_) | refine aD (fun hg=>?_) (fun hg=>?_)) <;> try simp -implicitDefEqProofs only [hg,Bool.not_true,Bool.not_false]) | ((with_reducible apply And.intro);focus (first | trivial | omega | decide | (simp -implicitDefEqProofs only [maxLen];omega) | (simp [maxLen,aq,av,ax,aE,aj,ay,aB] <;> omega))) | fail)
   exact (hK _ _ (cC (by simp [mU,hi,lk]))).2
theorem Dv:aI Go.Proofs.Try.prog 27 [.rv (bM l),.rv (.int .i64 n)] [] [] (.rv (.bool (mW l n))):=by
 refine bH Ko [.rv (bM l),.rv (.int .i64 n)] _ (by simp) (by simp [aP,bg,bu,aZ,bn,ai.sv,Ln.sv,Nd.sv]) (fun K hK=>?_)
 have hh:=Du l n
 conv in fc _ _ _ _=>reduce
 simp -implicitDefEqProofs only [go_sem,Int.reduceNegSucc]
 cases hi:mU l n with
 | false=>
   rw [hi] at hh
   have cw:=hh;repeat' (first | (simp -implicitDefEqProofs only [go_sem,Int.reduceNegSucc]) | (with_reducible refine aF ?_) | (with_reducible first | refine az cw ?_ | refine aA cw ?_) | ((first | refine ak (fun hg=>?_) (fun hg=>?_) | refine aC (fun hg=>?_) (fun hg=>?_) | refine aD (fun hg=>?_) (fun hg=>?_)) <;> try simp -implicitDefEqProofs only [hg,Bool.not_true,Bool.not_false]) | ((with_reducible apply And.intro);focus (first | trivial | omega | decide | (simp -implicitDefEqProofs only [maxLen];omega) | (simp [maxLen,aq,av,ax,aE,aj,ay,aB] <;> omega))) | fail)
   exact (hK _ _ (cC (by simp [mW,hi,lk]))).2
 | true=>
   rw [hi] at hh
   have hin:eI l n=true:=by simp [mU] at hi;exact hi.1
   obtain ⟨k,rfl,hk⟩:=oV hin
   have hx:=mw hk
   have hlen:=ax l
   have hs:cq l k=(l[k]'hk).s:=by simp [cq,hin,hk]
   have hp:((l[k]'hk).cells.drop 1)[0]?=some (.int .i64 (l[k]'hk).s.position):=rfl
   have cM:=hh;repeat' (first | (simp -implicitDefEqProofs only [go_sem,Int.reduceNegSucc,hx,hlen,av,bM,hp]) | (with_reducible refine aF ?_) | (with_reducible first | refine az cM ?_ | refine aA cM ?_) | ((first | refine ak (fun hg=>?_) (fun hg=>?_) | refine aC (fun hg=>?_) (fun hg=>?_) | refine aD (fun hg=>?_) (fun hg=>?_)) <;> try simp -implicitDefEqProofs only [hg,Bool.not_true,Bool.not_false]) | ((with_reducible apply And.intro);focus (first | trivial | omega | decide | (simp -implicitDefEqProofs only [maxLen];omega) | (simp [maxLen,aq,av,ax,aE,aj,ay,aB] <;> omega))) | fail)
   all_goals (refine (hK _ _ (cC ?_)).2;rw [mW,hi,hs];clear hK hs hp;simp_all [lk,cz])
end
end Go.aG

namespace Go.aG
open Go
theorem Kl:aV Go.Proofs.Try.prog 71 17 (fc Go.Proofs.Try.prog 71 17 [(.t 4)]) [(.t 4)]:=bh (by kernel_rfl)
theorem Kj:aV Go.Proofs.Try.prog 48 10 (fc Go.Proofs.Try.prog 48 10 [(.t 4)]) [(.t 4)]:=bh (by kernel_rfl)
theorem Kk:aV Go.Proofs.Try.prog 72 13 (fc Go.Proofs.Try.prog 72 13 [(.t 3)]) [(.t 3)]:=bh (by kernel_rfl)
theorem KH:aV Go.Proofs.Try.prog 88 19 (fc Go.Proofs.Try.prog 88 19 [(.t 4)]) [(.t 4)]:=bh (by kernel_rfl)
theorem KF:aV Go.Proofs.Try.prog 70 42 (fc Go.Proofs.Try.prog 70 42 [(.t 4)]) [(.t 4)]:=bh (by kernel_rfl)
def dr (l:List Nd) (n:Int):List Nat:=if eI l n=true then dB l n.toNat else []
def PY (l:List Nd) (n:Int):List Nat:=if eI l n=true then (br l n.toNat).drop 1 else []
def fD (l:List Nd) (m:Int):Bool:=mU l m && !mW l m
def bl (l:List Nd) (n:Int):List Nat:=(dr l n).filter fun (m:Nat)=>fD l m
theorem CC (l:List Nat):(aY l).length=l.length:=by simp [aY]
theorem Ck (l:List Nd) (n:Int):(dr l n).length≤l.length:=by
 unfold dr;split
 ·exact vu
 ·simp
section
variable (l:List Nd) (hb:l.length≤8589934592) (n:Int)
theorem NM (m:Nat) (hb:l.length≤8589934592):aI Go.Proofs.Try.prog 71 [.rv (bM l),.rv (.int .i64 n)] [] [(m,.row 1 1 (aH (aJ (aY (dr l n)))))] (.row m 1 (dr l n).length):=by
 refine gR Kl [] [] [] [.rv (bM l),.rv (.int .i64 n)] [.rv (bM l),.rv (.int .i64 n)] _ _ (by simp) (by simp [aP,aZ]) rfl (by simp [bG]) (by simp [cU]) (fun K hK=>?_)
 have hh:=vZ l n
 conv in fc _ _ _ _=>reduce
 simp -implicitDefEqProofs only [go_sem,Int.reduceNegSucc]
 cases hi:eI l n with
 | false=>
   rw [hi] at hh
   have dX:dr l n=[]:=by simp [dr,hi]
   have bE:=hh;repeat' (first | (simp -implicitDefEqProofs only [go_sem,Int.reduceNegSucc]) | (with_reducible refine aF ?_) | (with_reducible first | refine az bE ?_ | refine aA bE ?_) | ((first | refine ak (fun hg=>?_) (fun hg=>?_) | refine aC (fun hg=>?_) (fun hg=>?_) | refine aD (fun hg=>?_) (fun hg=>?_)) <;> try simp -implicitDefEqProofs only [hg,Bool.not_true,Bool.not_false]) | ((with_reducible apply And.intro);focus (first | trivial | omega | decide | (simp -implicitDefEqProofs only [maxLen];omega) | (simp [maxLen,aq,av,ax,aE,aj,ay,aB] <;> omega))) | fail)
   refine (hK _ _ _ _ [some m] (rM 4 1 1 rfl) ?_).2
   rw [dX]
   simp [dh,bG,newL,dn,cY,bq,bk,lk,bA,cB,cL,cE,dH,dG,ag,di,bI,aO,cO,dj,dU,aQ,dS,aN,cP,cG]
   exact ⟨by simp [aH,aJ,aY],fun i x y hx=>by simp at hx⟩
 | true=>
   rw [hi] at hh
   obtain ⟨k,rfl,hk⟩:=oV hi
   have dX:dr l k=dB l k:=by simp [dr,hi]
   have gF:=vu (l:=l) (k:=l.length) (p:=k)
   have hlen:(aJ (aY (dB l k))).length=(dB l k).length:=by simp [aJ,aY]
   have hlb:(aJ (aY (dB l k))).length≤8589934592:=by rw [hlen];unfold dB;omega
   have Il:=Lc hk
   have y_2:=hh;have bL:=NB (aJ (aY (dB l k))) 0 hlb;repeat' (first | (simp -implicitDefEqProofs only [go_sem,Int.reduceNegSucc,Ld,Il,bM]) | (with_reducible refine aF ?_) | (with_reducible first | refine az y_2 ?_ | refine aA y_2 ?_) | (refine ct bL ?_ ?_ ?_;(focus (simp [aS,ag] <;> fail));(focus (simp [aW,aT] <;> fail))) | (refine cK bL ?_ ?_ ?_;(focus (simp [aS,ag] <;> fail));(focus (simp [aW,aT] <;> fail))) | ((first | refine ak (fun hg=>?_) (fun hg=>?_) | refine aC (fun hg=>?_) (fun hg=>?_) | refine aD (fun hg=>?_) (fun hg=>?_)) <;> try simp -implicitDefEqProofs only [hg,Bool.not_true,Bool.not_false]) | ((with_reducible apply And.intro);focus (first | trivial | omega | decide | (simp -implicitDefEqProofs only [maxLen];omega) | (simp [maxLen,aq,av,ax,aE,aj,ay,aB] <;> omega))) | fail)
   refine (hK _ _ _ _ [some m] (cW _ _) ?_).2
   rw [dX]
   simp [dh,bG,newL,dn,cY,bq,bk,lk,bA,cB,cL,cE,dH,dG,ag,di,bI,aO,cO,dj,dU,aQ,dS,aN,cP,cG,hlen]
theorem NH (m:Int) (j:Nat):aI Go.Proofs.Try.prog 72 [.rv (.int .i64 m),.ptr j 0] [(j,.var [.rv (bM l)])] [] (.rv (.bool (!fD l m))):=by
 refine gR Kk [j] [.var [.rv (bM l)]] [.var [.rv (bM l)]] [.rv (.int .i64 m),.ptr 0 0] [.rv (.int .i64 m),.ptr j 0] _ _ (by simp) (by simp [aP,fH,fA,aZ,bg,kV,bn,kW,kU,cU,ig,bG]) rfl (by simp [bG]) (by simp [aP,fH,fA,aZ,bg,kV,bn,kW,kU,cU,ig,bG]) (fun K hK=>?_)
 conv in fc _ _ _ _=>reduce
 simp -implicitDefEqProofs only [go_sem,Int.reduceNegSucc]
 have bN:=Du l m;have cc:=Dv l m;repeat' (first | (simp -implicitDefEqProofs only [go_sem,Int.reduceNegSucc]) | (with_reducible refine aF ?_) | (with_reducible first | refine az bN ?_ | refine aA bN ?_) | (with_reducible first | refine az cc ?_ | refine aA cc ?_) | ((first | refine ak (fun hg=>?_) (fun hg=>?_) | refine aC (fun hg=>?_) (fun hg=>?_) | refine aD (fun hg=>?_) (fun hg=>?_)) <;> try simp -implicitDefEqProofs only [hg,Bool.not_true,Bool.not_false]) | ((with_reducible apply And.intro);focus (first | trivial | omega | decide | (simp -implicitDefEqProofs only [maxLen];omega) | (simp [maxLen,aq,av,ax,aE,aj,ay,aB] <;> omega))) | fail)
 all_goals (refine (hK _ _ _ _ [] (cW _ _) ?_).2;clear hK;simp_all [dh,bG,newL,dn,cY,bq,bk,lk,bA,cB,cL,cE,dH,dG,ag,di,bI,aO,cO,dj,dU,aQ,dS,aN,cP,cG,fD])
end
section
variable (f:Nat) (i j v:Nat) (cap:RV) (p:Int→Bool) (hij:i≠j) (hf:∀ (m:Int) (j:Nat),aI Go.Proofs.Try.prog f [.rv (.int .i64 m),.ptr j 0] [(j,.var [.rv cap])] [] (.rv (.bool (p m))))
include hij hf
theorem NJ (ys:List Int) (hb:ys.length≤8589934592) :
 aI Go.Proofs.Try.prog 88 [.row i v ys.length,.fn f [.ptr j 0]] [(i,.row 1 v (aH (aJ ys))),(j,.var [.rv cap])] [] (.rv (.int .i64 (match ys.findIdx? p with | some k=>((k:Nat):Int) | none=>-1))):=by
 refine tV KH [i,j] [.row 1 v (aH (aJ ys)),.var [.rv cap]] [.row 1 v (aH (aJ ys)),.var [.rv cap]] [.row 0 v ys.length,.fn f [.ptr 1 0]] [.row i v ys.length,.fn f [.ptr j 0]] _ _ (by simp) (by simp [aP,fA,bn,fH]) rfl (by simp [bG,hij]) rfl (zI zW (wJ (by simp [aP,fH,fA,aZ,bg,kV,bn,kW,kU,cU,ig,bG]))) (fun K hK=>?_)
 have hlen:=aj ys
 conv in fc _ _ _ _=>reduce
 simp -implicitDefEqProofs only [go_sem,Int.reduceNegSucc]
 refine dN (ι:=Nat) (fun k=>[(8,.rv (.int .i64 k)),(7,.rv (.int .i64 ys.length)),(0,.row 0 v ys.length),(1,.fn f [.ptr 1 0])]) (fun _=>[some (.row 1 v (aH (aJ ys))),some (.var [.rv cap])]) (fun k=>k≤ys.length∧∀ j,(h:j<ys.length)→j<k→p (ys[j]'h)=false) (fun k=>ys.length - k) 0 (by simp) (bV (by simp [lk])) (fun k hk K' hN hX hR=>?_)
 obtain ⟨de,hk2⟩:=hk
 simp -implicitDefEqProofs only [go_sem,Int.reduceNegSucc]
 refine ak (fun hg=>?_) (fun hg=>?_)
 ·have aK:k<ys.length:=by simp at hg;omega
  have hx:=nL aK
  have cl:=hf (ys[k]'aK) 1;repeat' (first | (simp -implicitDefEqProofs only [go_sem,Int.reduceNegSucc,hlen,hx]) | (with_reducible refine aF ?_) | (refine ct cl ?_ ?_ ?_;(focus (simp [aS,ag] <;> fail));(focus (simp [aW,aT] <;> fail))) | (refine cK cl ?_ ?_ ?_;(focus (simp [aS,ag] <;> fail));(focus (simp [aW,aT] <;> fail))) | ((first | refine ak (fun hg=>?_) (fun hg=>?_) | refine aC (fun hg=>?_) (fun hg=>?_) | refine aD (fun hg=>?_) (fun hg=>?_)) <;> try simp -implicitDefEqProofs only [hg,Bool.not_true,Bool.not_false]) | ((with_reducible apply And.intro);focus (first | trivial | omega | decide | (simp -implicitDefEqProofs only [maxLen];omega) | (simp [maxLen,aq,av,ax,aE,aj,ay,aB] <;> omega))) | fail)
  ·refine hR _ _ (hK _ _ _ _ [] (cW _ _) ?_).2
   have:ys.findIdx? p=some k:=by
    rw [List.findIdx?_eq_some_iff_getElem]
    exact ⟨aK,by simpa using hg,fun j hj=>by rw [hk2 j (by omega) hj];simp⟩
   rw [this]
   simp [dh,bG,newL,dn,cY,bq,bk,lk,bA,cB,cL,cE,dH,dG,ag,di,bI,aO,cO,dj,dU,aQ,dS,aN,cP,cG,hij,Ne.symm hij]
  ·rw [cQ (by omega)]
   refine hN (k+1) _ _ ⟨by omega,fun j hj hji=>?_⟩ (by omega) (bV (by simp [lk]))
   rcases Nat.lt_or_ge j k with h | h
   ·exact hk2 j hj h
   ·obtain rfl:j=k:=by omega
    simpa using hg
 ·have aK:k=ys.length:=by simp at hg;omega
  subst aK
  simp -implicitDefEqProofs only [go_sem,Int.reduceNegSucc]
  refine hX _ _ _ ?_
  repeat' (first | (simp -implicitDefEqProofs only [go_sem,Int.reduceNegSucc]) | (with_reducible refine aF ?_) | ((first | refine ak (fun hg=>?_) (fun hg=>?_) | refine aC (fun hg=>?_) (fun hg=>?_) | refine aD (fun hg=>?_) (fun hg=>?_)) <;> try simp -implicitDefEqProofs only [hg,Bool.not_true,Bool.not_false]) | ((with_reducible apply And.intro);focus (first | trivial | omega | decide | (simp -implicitDefEqProofs only [maxLen];omega) | (simp [maxLen,aq,av,ax,aE,aj,ay,aB] <;> omega))) | fail)
  refine (hK _ _ _ _ [] (cW _ _) ?_).2
  have:ys.findIdx? p=none:=by
   rw [List.findIdx?_eq_none_iff]
   intro x hx
   obtain ⟨j,hj,rfl⟩:=List.getElem_of_mem hx
   exact hk2 j hj hj
  rw [this]
  simp [dh,bG,newL,dn,cY,bq,bk,lk,bA,cB,cL,cE,dH,dG,ag,di,bI,aO,cO,dj,dU,aQ,dS,aN,cP,cG,hij,Ne.symm hij]
def cR (ys:List Int) (p:Int→Bool):List Int:=ys.filter fun y=>!p y
def fU (ys:List Int) (p:Int→Bool):List Int:=cR ys p++List.replicate (ys.length - (cR ys p).length) 0
theorem NG (ys:List Int) (hb:ys.length≤8589934592) :
 aI Go.Proofs.Try.prog 70 [.row i v ys.length,.fn f [.ptr j 0]] [(i,.row 1 v (aH (aJ ys))),(j,.var [.rv cap])] [(i,.row 1 v (aH (aJ (fU ys p))))] (.row i v (cR ys p).length):=by
 refine tV KF [i,j] [.row 1 v (aH (aJ ys)),.var [.rv cap]] [.row 1 v (aH (aJ ys)),.var [.rv cap]] [.row 0 v ys.length,.fn f [.ptr 1 0]] [.row i v ys.length,.fn f [.ptr j 0]] _ _ (by simp) (by simp [aP,fA,bn,fH]) rfl (by simp [bG,hij]) rfl (zI zW (wJ (by simp [aP,fH,fA,aZ,bg,kV,bn,kW,kU,cU,ig,bG]))) (fun K hK=>?_)
 have uY:=NJ f 0 1 v cap p (by decide) hf ys hb
 conv in fc _ _ _ _=>reduce
 simp -implicitDefEqProofs only [go_sem,Int.reduceNegSucc]
 cases mN:ys.findIdx? p with
 | none=>
   rw [mN] at uY
   have hno:cR ys p=ys:=by
    rw [List.findIdx?_eq_none_iff] at mN
    exact List.filter_eq_self.2 fun a ha=>by rw [mN a ha];rfl
   have e1:((-1:Int) == -1)=true:=rfl
   have cm:=uY;repeat' (first | (simp -implicitDefEqProofs only [go_sem,Int.reduceNegSucc,e1]) | (with_reducible refine aF ?_) | (refine ct cm ?_ ?_ ?_;(focus (simp [aS,ag] <;> fail));(focus (simp [aW,aT] <;> fail))) | (refine cK cm ?_ ?_ ?_;(focus (simp [aS,ag] <;> fail));(focus (simp [aW,aT] <;> fail))) | ((first | refine ak (fun hg=>?_) (fun hg=>?_) | refine aC (fun hg=>?_) (fun hg=>?_) | refine aD (fun hg=>?_) (fun hg=>?_)) <;> try simp -implicitDefEqProofs only [hg,Bool.not_true,Bool.not_false]) | ((with_reducible apply And.intro);focus (first | trivial | omega | decide | (simp -implicitDefEqProofs only [maxLen];omega) | (simp [maxLen,aq,av,ax,aE,aj,ay,aB] <;> omega))) | fail)
   refine (hK _ _ _ _ [] (cW _ _) ?_).2
   simp [dh,bG,newL,dn,cY,bq,bk,lk,bA,cB,cL,cE,dH,dG,ag,di,bI,aO,cO,dj,dU,aQ,dS,aN,cP,cG,hij,Ne.symm hij,hno,fU]
 | some k0=>
   rw [mN] at uY
   rw [List.findIdx?_eq_some_iff_getElem] at mN
   obtain ⟨dX,fh,oR⟩:=mN
   have e1:(((k0:Nat):Int) == -1)=false:=by simp
   have w0:=cQ (k:=k0) (by omega)
   have cw:=uY;repeat' (first | (simp -implicitDefEqProofs only [go_sem,Int.reduceNegSucc,e1,w0]) | (with_reducible refine aF ?_) | (refine ct cw ?_ ?_ ?_;(focus (simp [aS,ag] <;> fail));(focus (simp [aW,aT] <;> fail))) | (refine cK cw ?_ ?_ ?_;(focus (simp [aS,ag] <;> fail));(focus (simp [aW,aT] <;> fail))) | ((first | refine ak (fun hg=>?_) (fun hg=>?_) | refine aC (fun hg=>?_) (fun hg=>?_) | refine aD (fun hg=>?_) (fun hg=>?_)) <;> try simp -implicitDefEqProofs only [hg,Bool.not_true,Bool.not_false]) | ((with_reducible apply And.intro);focus (first | trivial | omega | decide | (simp -implicitDefEqProofs only [maxLen];omega) | (simp [maxLen,aq,av,ax,aE,aj,ay,aB] <;> omega))) | fail)
   let kept:Nat→List Int:=fun j=>cR (ys.take j) p
   have Lb:∀ j,(kept j).length≤j:=fun j=>by
    have:=List.length_filter_le (fun y=>!p y) (ys.take j)
    simp -implicitDefEqProofs only [List.length_take] at this
    show (cR (ys.take j) p).length≤j
    unfold cR;omega
   have Cj:∀ j (h:j<ys.length),kept (j+1)=kept j++if p (ys[j]'h)=true then [] else [ys[j]'h]:=fun j h=>by
    show cR _ _=cR _ _++_
    rw [List.take_succ_eq_append_getElem h]
    unfold cR
    rw [List.filter_append]
    cases dP:p (ys[j]'h) <;> simp [dP]
   have KZ:kept k0=ys.take k0:=List.filter_eq_self.2 fun a ha=>by
    obtain ⟨q,hq,rfl⟩:=List.getElem_of_mem ha
    have Iz:q<k0:=by simp at hq;omega
    have:=oR q Iz
    simp -implicitDefEqProofs only [Bool.not_eq_true] at this
    simp [this]
   have yy:kept (k0+1)=ys.take k0:=by rw [Cj k0 dX,KZ,fh];simp
   refine dN (ι:=List Int×Nat) (fun q=>[(6,.rv (.int .i64 q.2)),(5,.rv (.int .i64 (kept q.2).length)),(0,.row 0 v ys.length),(1,.fn f [.ptr 1 0])]) (fun q=>[some (.row 1 v (aH (aJ q.1))),some (.var [.rv cap])]) (fun q=>q.1.length=ys.length∧q.2≤ys.length∧(kept q.2).length<q.2∧q.1.take (kept q.2).length=kept q.2∧q.1.drop q.2=ys.drop q.2) (fun q=>ys.length - q.2) (ys,k0+1) ⟨rfl,dX,?_,?_,rfl⟩ (bV ?_) (fun q hq K' hN hX hR=>?_)
   ·show (kept (k0+1)).length<k0+1
    rw [yy];simp;omega
   ·show ys.take (kept (k0+1)).length=kept (k0+1)
    rw [yy];simp
   ·have:(kept (k0+1)).length=k0:=by rw [yy];simp;omega
    simp [lk,this]
   obtain ⟨zs,j⟩:=q
   obtain ⟨q1,q2,q3,q4,q5⟩:=hq
   dsimp only at q1 q2 q3 q4 q5 ⊢
   simp -implicitDefEqProofs only [go_sem,Int.reduceNegSucc]
   refine ak (fun hg=>?_) (fun hg=>?_)
   ·have hj:j<ys.length:=by simp at hg;omega
    have xN:zs[j]'(by omega)=ys[j]'hj:=by
     have h1:=List.getElem_drop (xs:=zs) (i:=j) (j:=0) (h:=by simp;omega)
     have h2:=List.getElem_drop (xs:=ys) (i:=j) (j:=0) (h:=by simp;omega)
     simp -implicitDefEqProofs only [Nat.add_zero] at h1 h2
     rw [← h1,← h2]
     congr 1
    have hx:=nL (l:=zs) (i:=j) (by omega)
    rw [xN] at hx
    have hzl:=aj zs
    have mh:=Cj j hj
    have wj:=cQ (k:=j) (by omega)
    have wi:=cQ (k:=(kept j).length) (by omega)
    have eH:=nL (l:=zs) (i:=(kept j).length) (by omega)
    have cM:=hf (ys[j]'hj) 1;repeat' (first | (simp -implicitDefEqProofs only [go_sem,Int.reduceNegSucc,hx,hzl,q1,eH,nW,wj,wi]) | (with_reducible refine aF ?_) | (refine ct cM ?_ ?_ ?_;(focus (simp [aS,ag] <;> fail));(focus (simp [aW,aT] <;> fail))) | (refine cK cM ?_ ?_ ?_;(focus (simp [aS,ag] <;> fail));(focus (simp [aW,aT] <;> fail))) | ((first | refine ak (fun hg=>?_) (fun hg=>?_) | refine aC (fun hg=>?_) (fun hg=>?_) | refine aD (fun hg=>?_) (fun hg=>?_)) <;> try simp -implicitDefEqProofs only [hg,Bool.not_true,Bool.not_false]) | ((with_reducible apply And.intro);focus (first | trivial | omega | decide | (simp -implicitDefEqProofs only [maxLen];omega) | (simp [maxLen,aq,av,ax,aE,aj,ay,aB] <;> omega))) | fail)
    ·have dP:p (ys[j]'hj)=false:=by simpa using hg
     rw [dP] at mh
     simp -implicitDefEqProofs only [Bool.false_eq_true,if_false] at mh
     refine hN (zs.set (kept j).length (ys[j]'hj),j+1) _ _ ⟨by simp [q1],by omega,?_,?_,?_⟩ (by dsimp only;omega) (bV (by simp [lk,mh]))
     ·show (kept (j+1)).length<j+1
      rw [mh];simp;omega
     ·show (zs.set (kept j).length (ys[j]'hj)).take (kept (j+1)).length=kept (j+1)
      rw [mh]
      simp -implicitDefEqProofs only [List.length_append,List.length_singleton]
      rw [List.take_succ_eq_append_getElem (by simp;omega),List.take_set_of_le (by omega),q4]
      simp
     ·show (zs.set (kept j).length (ys[j]'hj)).drop (j+1)=ys.drop (j+1)
      rw [List.drop_set_of_lt (by omega),← List.drop_drop,q5,List.drop_drop]
    ·have dP:p (ys[j]'hj)=true:=by simpa using hg
     rw [dP] at mh
     simp -implicitDefEqProofs only [if_true,List.append_nil] at mh
     refine hN (zs,j+1) _ _ ⟨q1,by omega,?_,?_,?_⟩ (by dsimp only;omega) (bV (by simp [lk,mh]))
     ·show (kept (j+1)).length<j+1
      rw [mh];omega
     ·show zs.take (kept (j+1)).length=kept (j+1)
      rw [mh];exact q4
     ·show zs.drop (j+1)=ys.drop (j+1)
      rw [← List.drop_drop,q5,List.drop_drop]
   ·have hj:j=ys.length:=by simp at hg;omega
    subst hj
    have hkk:kept ys.length=cR ys p:=by show cR (ys.take ys.length) p=_;rw [List.take_length]
    have gF:=Lb ys.length
    rw [hkk] at gF q4 q3
    simp -implicitDefEqProofs only [hkk,go_sem,Int.reduceNegSucc]
    refine hX _ _ _ ?_
    have hnz:(((cR ys p).length:Int)=0)=((cR ys p).length=0):=propext (by omega)
    repeat' (first | (simp -implicitDefEqProofs only [go_sem,Int.reduceNegSucc]) | (with_reducible refine aF ?_) | ((first | refine ak (fun hg=>?_) (fun hg=>?_) | refine aC (fun hg=>?_) (fun hg=>?_) | refine aD (fun hg=>?_) (fun hg=>?_)) <;> try simp -implicitDefEqProofs only [hg,Bool.not_true,Bool.not_false]) | ((with_reducible apply And.intro);focus (first | trivial | omega | decide | (simp -implicitDefEqProofs only [maxLen];omega) | (simp [maxLen,aq,av,ax,aE,aj,ay,aB] <;> omega))) | fail)
    have hrow:aH (List.take (cR ys p).length (aJ zs))++List.replicate (ys.length - (cR ys p).length) [U.rv (.int .i64 0)]++List.drop ((cR ys p).length+(List.replicate (ys.length - (cR ys p).length) [U.rv (.int .i64 0)]).length) (aH (aJ zs))=aH (aJ (fU ys p)):=by
     rw [List.drop_of_length_le (by simp [ay,aj];omega),List.append_nil,zj,show List.take (cR ys p).length (aJ zs)=aJ (zs.take (cR ys p).length) by simp [aJ,List.map_take],q4,Dk]
     simp [aJ,fU]
    rw [hrow]
    refine (hK _ _ _ _ [] (cW _ _) ?_).2
    simp [dh,bG,newL,dn,cY,bq,bk,lk,bA,cB,cL,cE,dH,dG,ag,di,bI,aO,cO,dj,dU,aQ,dS,aN,cP,cG,hij,Ne.symm hij]
end
section
variable (l:List Nd) (n:Int)
theorem Ds (hb:l.length≤8589934592) (m:Nat):aI Go.Proofs.Try.prog 48 [.rv (bM l),.rv (.int .i64 n)] [] [(m,.row 1 1 (aH (aJ (fU (aY (dr l n)) fun m=>!fD l m))))] (.row m 1 (bl l n).length):=by
 refine gR Kj [] [] [] [.rv (bM l),.rv (.int .i64 n)] [.rv (bM l),.rv (.int .i64 n)] _ _ (by simp) (by simp [aP,aZ]) rfl (by simp [bG]) (by simp [cU]) (fun K hK=>?_)
 have gF:=Ck l n
 have hkn:=CC (dr l n)
 have hd:=NG 72 1 0 1 (bM l) (fun m=>!fD l m) (by decide) (fun m j=>NH l m j) (aY (dr l n)) (by rw [hkn];omega)
 rw [hkn] at hd
 have hfl:(cR (aY (dr l n)) fun m=>!fD l m).length=(bl l n).length:=by
  unfold cR bl aY
  rw [List.filter_map,List.length_map]
  simp [Function.comp_def]
 rw [hfl] at hd
 conv in fc _ _ _ _=>reduce
 simp -implicitDefEqProofs only [go_sem,Int.reduceNegSucc]
 refine ct (NM l n 1 hb) (by simp [aS,ag]) (by simp [aW,aT]) ?_
 have cT:=hd;repeat' (first | (simp -implicitDefEqProofs only [go_sem,Int.reduceNegSucc]) | (with_reducible refine aF ?_) | (refine ct cT ?_ ?_ ?_;(focus (simp [aS,ag] <;> fail));(focus (simp [aW,aT] <;> fail))) | (refine cK cT ?_ ?_ ?_;(focus (simp [aS,ag] <;> fail));(focus (simp [aW,aT] <;> fail))) | ((first | refine ak (fun hg=>?_) (fun hg=>?_) | refine aC (fun hg=>?_) (fun hg=>?_) | refine aD (fun hg=>?_) (fun hg=>?_)) <;> try simp -implicitDefEqProofs only [hg,Bool.not_true,Bool.not_false]) | ((with_reducible apply And.intro);focus (first | trivial | omega | decide | (simp -implicitDefEqProofs only [maxLen];omega) | (simp [maxLen,aq,av,ax,aE,aj,ay,aB] <;> omega))) | fail)
 refine (hK _ _ _ _ [none,some m] (cW _ _) ?_).2
 simp [dh,bG,newL,dn,cY,bq,bk,lk,bA,cB,cL,cE,dH,dG,ag,di,bI,aO,cO,dj,dU,aQ,dS,aN,cP,cG]
theorem Dt (hb:l.length≤8589934592):aI Go.Proofs.Try.prog 48 [.rv (bM l),.rv (.int .i64 n)] [] [] (.rv (.sl 1 (aJ (aY (bl l n))))):=by
 refine Fe (rs:=[bM l,.int .i64 n]) (Ds l n hb 0) ?_ ⟨_,.inl rfl⟩
 have hfl:(cR (aY (dr l n)) fun m=>!fD l m)=aY (bl l n):=by
  unfold cR bl aY
  rw [List.filter_map]
  simp [Function.comp_def]
 have vf:(bl l n).length=(aY (bl l n)).length:=by simp [aY]
 refine .fz _ _ ?_
 have h1:=mK (τ:=fun _=>none) (h:=bf (fun _=>none) [(0,HB.row 1 1 (aH (aJ (fU (aY (dr l n)) fun m=>!fD l m))))]) (j:=0) (e:=1) (af:=1) (len:=(bl l n).length) (xs:=aJ (fU (aY (dr l n)) fun m=>!fD l m)) (by simp [bf,up]) rfl (by rw [aj,fU,List.length_append,hfl,← vf];omega) (mo _)
 rw [show (aJ (fU (aY (dr l n)) fun m=>!fD l m)).take (bl l n).length=aJ (aY (bl l n)) by
  rw [vf]
  simp -implicitDefEqProofs only [aJ,← List.map_take,fU,hfl]
  rw [List.take_left]] at h1
 exact h1
end
end Go.aG

namespace Go.aG
open Go
theorem OP {l:List Nd} (ht:eM l=true):cZ l:=zl.1 (by unfold eM at ht;simp -implicitDefEqProofs only [Bool.and_eq_true] at ht;exact ht.1)
theorem Fs {l:List Nd} (h:nr l=0):eM l=true:=by
 unfold nr at h
 cases ht:eM l with
 | true=>rfl
 | false=>rw [ht] at h;simp at h
def Pw (l:List Nd) (k p:Nat):List Nat:=(bK l k p).filter fun (m:Nat)=>fD l m
def PT (l:List Nd) (n:Int) (i:Nat):Int:=if eI l n=true∧n<i then (if (i:Int)<xe l n then (i:Int) else xe l n) else 0
end Go.aG

namespace Go.aG
open Go
theorem yG (xs:List Nat):(aJ (aY xs)).length=xs.length:=by simp [aJ,aY]
def Px (p:Int→Bool) (xs:List Nat):Int:=match xs.find? (fun (m:Nat)=>p m) with
 | some k=>k
 | none=>-1
end Go.aG

namespace Go.aG
open Go
theorem JW:aV Go.Proofs.Try.prog 53 9 (fc Go.Proofs.Try.prog 53 9 [(.t 2)]) [(.t 2)]:=bh (by kernel_rfl)
theorem JZ:aV Go.Proofs.Try.prog 54 47 (fc Go.Proofs.Try.prog 54 47 [(.t 2),(.t 3)]) [(.t 2),(.t 3)]:=bh (by kernel_rfl)
theorem JV:aV Go.Proofs.Try.prog 68 12 (fc Go.Proofs.Try.prog 68 12 [(.t 6)]) [(.t 6)]:=bh (by kernel_rfl)
def bP (x:Int):Bool:=decide (x≥-1125899906842624) && decide (x≤1125899906842624)
theorem lY {x:Int}:bP x=true↔-1125899906842624≤x∧x≤1125899906842624:=by simp [bP]
def dx (xs:List Int):Bool:=xs.all bP && bP xs.sum
def dy (xs:List Int):Int:=if dx xs=true then xs.sum else 0
theorem sY (a:Int):a.fdiv (2 ^ min 25 64)=a / 33554432:=by
 rw [Int.fdiv_eq_ediv_of_nonneg _ (by decide)];rfl
theorem Ew (a:Int):IntKind.i64.wrap ((BitVec.ofInt 64 a &&& BitVec.ofInt 64 33554431).toNat:Int)=a % 33554432:=by
 have h1:(BitVec.ofInt 64 a &&& BitVec.ofInt 64 33554431).toNat=(BitVec.ofInt 64 a).toNat % 33554432:=by
  show (BitVec.ofInt 64 a &&& BitVec.ofInt 64 33554431).toNat=_
  rw [BitVec.toNat_and]
  exact Nat.and_two_pow_sub_one_eq_mod _ 25
 have h2:(((BitVec.ofInt 64 a).toNat % 33554432:Nat):Int)=a % 33554432:=by
  rw [BitVec.toNat_ofInt]
  omega
 rw [h1,h2,wrap_i64 (by omega) (by omega)]
theorem rz (a:Int):IntKind.i64.wrap ((@BitVec.toNat 64 (@HAnd.hAnd (BitVec 64) (BitVec 64) (BitVec 64) (@instHAndOfAndOp (BitVec IntKind.i64.bits) (@BitVec.instAndOp IntKind.i64.bits)) (BitVec.ofInt 64 a) (BitVec.ofInt 64 33554431)):Nat):Int)=a % 33554432:=Ew a
theorem fN (x:Int):aI Go.Proofs.Try.prog 53 [.rv (.int .i64 x)] [] [] (.rv (.bool (bP x))):=by
 refine bH JW [.rv (.int .i64 x)] _ (by simp) (by simp [aP,bg,bu,aZ,bn,ai.sv,Ln.sv,Nd.sv]) (fun K hK=>?_)
 conv in fc _ _ _ _=>reduce
 simp -implicitDefEqProofs only [go_sem,Int.reduceNegSucc]
 repeat' (first | (simp -implicitDefEqProofs only [go_sem,Int.reduceNegSucc]) | (with_reducible refine aF ?_) | ((first | refine ak (fun hg=>?_) (fun hg=>?_) | refine aC (fun hg=>?_) (fun hg=>?_) | refine aD (fun hg=>?_) (fun hg=>?_)) <;> try simp -implicitDefEqProofs only [hg,Bool.not_true,Bool.not_false]) | ((with_reducible apply And.intro);focus (first | trivial | omega | decide | (simp -implicitDefEqProofs only [maxLen];omega) | (simp [maxLen,aq,av,ax,aE,aj,ay,aB] <;> omega))) | fail)
 all_goals (refine (hK _ _ (cC ?_)).2;clear hK;simp_all [lk,bP];try (intro _;omega))
def PX (x:Ln) (d:Int):Int:=if x.kind=1 then x.n else d
def ug (v lo hi:Int):Int:=if (if v>hi then hi else v)<lo then lo else (if v>hi then hi else v)
theorem Dz (v lo hi:Int):aI Go.Proofs.Try.prog 68 [.rv (.int .i64 v),.rv (.int .i64 lo),.rv (.int .i64 hi)] [] [] (.rv (.int .i64 (ug v lo hi))):=by
 refine bH JV [.rv (.int .i64 v),.rv (.int .i64 lo),.rv (.int .i64 hi)] _ (by simp) (by simp [aP,bg,bu,aZ,bn,ai.sv,Ln.sv,Nd.sv]) (fun K hK=>?_)
 conv in fc _ _ _ _=>reduce
 simp -implicitDefEqProofs only [go_sem,Int.reduceNegSucc]
 repeat' (first | (simp -implicitDefEqProofs only [go_sem,Int.reduceNegSucc]) | (with_reducible refine aF ?_) | ((first | refine ak (fun hg=>?_) (fun hg=>?_) | refine aC (fun hg=>?_) (fun hg=>?_) | refine aD (fun hg=>?_) (fun hg=>?_)) <;> try simp -implicitDefEqProofs only [hg,Bool.not_true,Bool.not_false]) | ((with_reducible apply And.intro);focus (first | trivial | omega | decide | (simp -implicitDefEqProofs only [maxLen];omega) | (simp [maxLen,aq,av,ax,aE,aj,ay,aB] <;> omega))) | fail)
 exact (hK _ _ (cC rfl)).2
theorem Eu {p:Int→Bool} {xs:List Int} (h:∀ i,(h:i<xs.length)→p xs[i]=true):xs.all p=true:=by
 rw [List.all_eq_true];intro x hx
 obtain ⟨i,hi,rfl⟩:=List.getElem_of_mem hx
 exact h i hi
theorem DN {xs:List Int} {k:Nat} (h:k<xs.length):(xs.take (k+1)).sum=(xs.take k).sum+xs[k]:=by
 rw [List.take_succ_eq_append_getElem h,List.sum_append];simp
theorem LW {xs:List Int} {i:Nat} (h:i<xs.length) (hf:bP xs[i]=false):dx xs=false:=by
 unfold dx
 rw [show xs.all bP=false from by
  rw [List.all_eq_false];exact ⟨_,List.getElem_mem h,by simp [hf]⟩]
 rfl
theorem Oh (xs:List Int) (hb:xs.length≤1000):aI Go.Proofs.Try.prog 54 [.rv (.sl 1 (aJ xs))] [] [] (.aM [.rv (.int .i64 (dy xs)),.rv (.bool (dx xs))]):=by
 refine bH JZ [.rv (.sl 1 (aJ xs))] _ (by simp) (by simp [aP,bg,bu,aZ,bn,ai.sv,Ln.sv,Nd.sv]) (fun K hK=>?_)
 have hl:=aj xs
 conv in fc _ _ _ _=>reduce
 simp -implicitDefEqProofs only [hl,go_sem,Int.reduceNegSucc]
 repeat' (first | (simp -implicitDefEqProofs only [go_sem,Int.reduceNegSucc,hl]) | (with_reducible refine aF ?_) | ((first | refine ak (fun hg=>?_) (fun hg=>?_) | refine aC (fun hg=>?_) (fun hg=>?_) | refine aD (fun hg=>?_) (fun hg=>?_)) <;> try simp -implicitDefEqProofs only [hg,Bool.not_true,Bool.not_false]) | ((with_reducible apply And.intro);focus (first | trivial | omega | decide | (simp -implicitDefEqProofs only [maxLen];omega) | (simp [maxLen,aq,av,ax,aE,aj,ay,aB] <;> omega))) | fail)
 refine dN (ι:=Nat×Int×Int) (fun q=>[(11,.rv (.int .i64 q.1)),(10,.rv (.int .i64 xs.length)),(9,.rv (.sl 1 (aJ xs))),(4,.rv (.int .i64 q.2.1)),(5,.rv (.int .i64 q.2.2))]) (fun _=>[]) (fun q=>q.1≤xs.length∧(∀ i,(h:i<xs.length)→i<q.1→bP xs[i]=true)∧q.2.1*33554432+q.2.2=(xs.take q.1).sum∧-(33554432*q.1)≤q.2.1∧q.2.1≤33554432*q.1∧0≤q.2.2∧q.2.2≤33554432*q.1) (fun q=>xs.length - q.1) (0,0,0) ⟨by simp,fun i _ h=>absurd h (by simp),by simp,by simp,by simp,by simp,by simp⟩ (bV (by simp [lk])) (fun q hk K' hN hX hR=>?_)
 obtain ⟨k,hi,lo⟩:=q
 obtain ⟨de,hk2,fI,Ih,Ii,Ij,Ik⟩:=hk
 dsimp only at de hk2 fI Ih Ii Ij Ik ⊢
 simp -implicitDefEqProofs only [go_sem,Int.reduceNegSucc]
 refine ak (fun hg=>?_) (fun hg=>?_)
 ·have aK:k<xs.length:=by simp at hg;omega
  have hx:=nL aK
  have wu:=cQ (k:=k) (by omega)
  have hf:=fN xs[k]
  cases lZ:bP xs[k] with
  | false=>
    rw [lZ] at hf
    have bE:=hf;repeat' (first | (simp -implicitDefEqProofs only [go_sem,Int.reduceNegSucc,hx,hl,wu]) | (with_reducible refine aF ?_) | (with_reducible first | refine az bE ?_ | refine aA bE ?_) | ((first | refine ak (fun hg=>?_) (fun hg=>?_) | refine aC (fun hg=>?_) (fun hg=>?_) | refine aD (fun hg=>?_) (fun hg=>?_)) <;> try simp -implicitDefEqProofs only [hg,Bool.not_true,Bool.not_false]) | ((with_reducible apply And.intro);focus (first | trivial | omega | decide | (simp -implicitDefEqProofs only [maxLen];omega) | (simp [maxLen,aq,av,ax,aE,aj,ay,aB] <;> omega))) | fail)
    refine hR _ _ (hK _ _ ?_).2
    have:=LW aK lZ
    exact eK (by simp [lk,dy,this]) (by simp [lk,this])
  | true=>
    rw [lZ] at hf
    have mN:=lY.1 lZ
    have hst:=DN aK
    have w1:IntKind.i64.wrap (hi+xs[k] / 33554432)=hi+xs[k] / 33554432:=by rw [wrap_i64 (by omega) (by omega)]
    have w2:IntKind.i64.wrap (lo+xs[k] % 33554432)=lo+xs[k] % 33554432:=by rw [wrap_i64 (by omega) (by omega)]
    have y_2:=hf;repeat' (first | (simp -implicitDefEqProofs only [go_sem,Int.reduceNegSucc,hx,hl,wu,sY,rz,w1,w2]) | (with_reducible refine aF ?_) | (with_reducible first | refine az y_2 ?_ | refine aA y_2 ?_) | ((first | refine ak (fun hg=>?_) (fun hg=>?_) | refine aC (fun hg=>?_) (fun hg=>?_) | refine aD (fun hg=>?_) (fun hg=>?_)) <;> try simp -implicitDefEqProofs only [hg,Bool.not_true,Bool.not_false]) | ((with_reducible apply And.intro);focus (first | trivial | omega | decide | (simp -implicitDefEqProofs only [maxLen];omega) | (simp [maxLen,aq,av,ax,aE,aj,ay,aB] <;> omega))) | fail)
    refine hN (k+1,hi+xs[k] / 33554432,lo+xs[k] % 33554432) _ _ ⟨by dsimp only;omega,fun i h hi=>?_,by dsimp only;omega,by dsimp only;omega,by dsimp only;omega,by dsimp only;omega,by dsimp only;omega⟩ (by dsimp only;omega) (bV (by simp [lk]))
    dsimp only at hi
    by_cases e:i=k
    ·subst e;exact lZ
    ·exact hk2 i h (by omega)
 ·have aK:k=xs.length:=by simp at hg;omega
  subst aK
  simp -implicitDefEqProofs only [go_sem,Int.reduceNegSucc]
  refine hX _ _ _ ?_
  have hall:=Eu (fun i h=>hk2 i h h)
  rw [List.take_length] at *
  have w1:IntKind.i64.wrap (hi+lo / 33554432)=hi+lo / 33554432:=by rw [wrap_i64 (by omega) (by omega)]
  by_cases h1:hi+lo / 33554432 < -33554432
  ·have e1:decide (hi+lo / 33554432 < -33554432)=true:=decide_eq_true h1
   have:dx xs=false:=by
    have:bP xs.sum=false:=by rw [Bool.eq_false_iff];intro h;have:=lY.1 h;omega
    simp [dx,this]
   repeat' (first | (simp -implicitDefEqProofs only [go_sem,Int.reduceNegSucc,sY,rz,w1,e1]) | (with_reducible refine aF ?_) | ((first | refine ak (fun hg=>?_) (fun hg=>?_) | refine aC (fun hg=>?_) (fun hg=>?_) | refine aD (fun hg=>?_) (fun hg=>?_)) <;> try simp -implicitDefEqProofs only [hg,Bool.not_true,Bool.not_false]) | ((with_reducible apply And.intro);focus (first | trivial | omega | decide | (simp -implicitDefEqProofs only [maxLen];omega) | (simp [maxLen,aq,av,ax,aE,aj,ay,aB] <;> omega))) | fail)
   refine (hK _ _ ?_).2
   exact eK (by simp [lk,dy,this]) (by simp [lk,this])
  ·have e1:decide (hi+lo / 33554432 < -33554432)=false:=decide_eq_false h1
   by_cases h2:hi+lo / 33554432>33554432
   ·have e2:decide (hi+lo / 33554432>33554432)=true:=decide_eq_true h2
    have:dx xs=false:=by
     have:bP xs.sum=false:=by rw [Bool.eq_false_iff];intro h;have:=lY.1 h;omega
     simp [dx,this]
    repeat' (first | (simp -implicitDefEqProofs only [go_sem,Int.reduceNegSucc,sY,rz,w1,e1,e2]) | (with_reducible refine aF ?_) | ((first | refine ak (fun hg=>?_) (fun hg=>?_) | refine aC (fun hg=>?_) (fun hg=>?_) | refine aD (fun hg=>?_) (fun hg=>?_)) <;> try simp -implicitDefEqProofs only [hg,Bool.not_true,Bool.not_false]) | ((with_reducible apply And.intro);focus (first | trivial | omega | decide | (simp -implicitDefEqProofs only [maxLen];omega) | (simp [maxLen,aq,av,ax,aE,aj,ay,aB] <;> omega))) | fail)
    refine (hK _ _ ?_).2
    exact eK (by simp [lk,dy,this]) (by simp [lk,this])
   ·have e2:decide (hi+lo / 33554432>33554432)=false:=decide_eq_false h2
    have hf:=fN xs.sum
    have w2:IntKind.i64.wrap (IntKind.i64.wrap ((hi+lo / 33554432)*2 ^ min 25 64)+lo % 33554432)=xs.sum:=by
     rw [show (2:Int) ^ min 25 64=33554432 from rfl,wrap_i64 (n:=(hi+lo / 33554432)*33554432) (by omega) (by omega),wrap_i64 (by omega) (by omega)]
     omega
    cases lZ:bP xs.sum with
    | false=>
      rw [lZ] at hf
      have:dx xs=false:=by simp [dx,lZ]
      have bL:=hf;repeat' (first | (simp -implicitDefEqProofs only [go_sem,Int.reduceNegSucc,sY,rz,w1,e1,e2,w2]) | (with_reducible refine aF ?_) | (with_reducible first | refine az bL ?_ | refine aA bL ?_) | ((first | refine ak (fun hg=>?_) (fun hg=>?_) | refine aC (fun hg=>?_) (fun hg=>?_) | refine aD (fun hg=>?_) (fun hg=>?_)) <;> try simp -implicitDefEqProofs only [hg,Bool.not_true,Bool.not_false]) | ((with_reducible apply And.intro);focus (first | trivial | omega | decide | (simp -implicitDefEqProofs only [maxLen];omega) | (simp [maxLen,aq,av,ax,aE,aj,ay,aB] <;> omega))) | fail)
      refine (hK _ _ ?_).2
      exact eK (by simp [lk,dy,this]) (by simp [lk,this])
    | true=>
      rw [lZ] at hf
      have:dx xs=true:=by simp [dx,lZ,hall]
      have bN:=hf;repeat' (first | (simp -implicitDefEqProofs only [go_sem,Int.reduceNegSucc,sY,rz,w1,e1,e2,w2]) | (with_reducible refine aF ?_) | (with_reducible first | refine az bN ?_ | refine aA bN ?_) | ((first | refine ak (fun hg=>?_) (fun hg=>?_) | refine aC (fun hg=>?_) (fun hg=>?_) | refine aD (fun hg=>?_) (fun hg=>?_)) <;> try simp -implicitDefEqProofs only [hg,Bool.not_true,Bool.not_false]) | ((with_reducible apply And.intro);focus (first | trivial | omega | decide | (simp -implicitDefEqProofs only [maxLen];omega) | (simp [maxLen,aq,av,ax,aE,aj,ay,aB] <;> omega))) | fail)
      refine (hK _ _ ?_).2
      exact eK (by simp [lk,dy,this]) (by simp [lk,this])
end Go.aG

namespace Go.aG
open Go
theorem Kz:aV Go.Proofs.Try.prog 43 49 (fc Go.Proofs.Try.prog 43 49 [(.c 6 2 true),(.t 7)]) [(.c 6 2 true),(.t 7)]:=bh (by kernel_rfl)
theorem Kx:aV Go.Proofs.Try.prog 44 20 (fc Go.Proofs.Try.prog 44 20 [(.t 6),(.t 7)]) [(.t 6),(.t 7)]:=bh (by kernel_rfl)
theorem Ky:aV Go.Proofs.Try.prog 45 20 (fc Go.Proofs.Try.prog 45 20 [(.t 6),(.t 7)]) [(.t 6),(.t 7)]:=bh (by kernel_rfl)
theorem KA:aV Go.Proofs.Try.prog 65 10 (fc Go.Proofs.Try.prog 65 10 [(.t 4)]) [(.t 4)]:=bh (by kernel_rfl)
theorem JY:aV Go.Proofs.Try.prog 64 35 (fc Go.Proofs.Try.prog 64 35 [(.t 4),(.t 5)]) [(.t 4),(.t 5)]:=bh (by kernel_rfl)
theorem Ka:aV Go.Proofs.Try.prog 81 16 (fc Go.Proofs.Try.prog 81 16 [(.t 4)]) [(.t 4)]:=bh (by kernel_rfl)
theorem KM:aV Go.Proofs.Try.prog 85 8 (fc Go.Proofs.Try.prog 85 8 [(.c 2 2 true)]) [(.c 2 2 true)]:=bh (by kernel_rfl)
theorem KL:aV Go.Proofs.Try.prog 86 16 (fc Go.Proofs.Try.prog 86 16 [(.c 4 2 true)]) [(.c 4 2 true)]:=bh (by kernel_rfl)
theorem KN:aV Go.Proofs.Try.prog 52 12 (fc Go.Proofs.Try.prog 52 12 [(.t 2),(.t 3)]) [(.t 2),(.t 3)]:=bh (by kernel_rfl)
theorem JX:aV Go.Proofs.Try.prog 92 5 (fc Go.Proofs.Try.prog 92 5 [(.t 2)]) [(.t 2)]:=bh (by kernel_rfl)
theorem Ki:aV Go.Proofs.Try.prog 25 25 (fc Go.Proofs.Try.prog 25 25 [(.t 4)]) [(.t 4)]:=bh (by kernel_rfl)
structure Sz where
 auto:Bool
 n:Int
 deriving DecidableEq,Inhabited
def Sz.cells (x:Sz):List RV:=[.bool x.auto,.int .i64 x.n]
abbrev Sz.sv (x:Sz):U:=.agg (x.cells.map .rv)
structure Su where
 p:Int
 n:Int
 deriving DecidableEq,Inhabited
def Su.cells (x:Su):List RV:=[.int .i64 x.p,.int .i64 x.n]
abbrev Su.sv (x:Su):U:=.agg (x.cells.map .rv)
def nQ (b p:Int):Bool:=decide (0≤b∧b≤1125899906842624∧-1000000≤p∧p≤1000000) && bP (b*p / 10000)
def sW (b p:Int):Int:=if nQ b p=true then b*p / 10000 else 0
def dw (x:Ln) (b:Int) (has:Bool):Sz:=if x.kind=0∨x.kind=2∧has=false then ⟨true,0⟩ else if x.kind=1∧bP x.n=true then ⟨false,x.n⟩ else if x.kind=2 then ⟨false,sW b x.n⟩ else ⟨false,0⟩
def dR (x:Ln) (b:Int) (has:Bool):Bool:=decide (x.kind=0) || decide (x.kind=2) && (!has || nQ b x.n) || decide (x.kind=1) && bP x.n
def aX (x:Sz) (d:Int):Int:=if x.auto=true then d else x.n
def eU (a b:Su):Su:=⟨max a.p b.p,min a.n b.n⟩
def nc (a:Su):Int:=dy [a.p,a.n]
def qT (a:Su):Bool:=dx [a.p,a.n]
def gf (w:Int) (h:Sz):Bool:=decide (0≤w∧w≤1125899906842624) && (h.auto || decide (0≤h.n∧h.n≤1125899906842624))
theorem Of (x:Int):aI Go.Proofs.Try.prog 92 [.rv (.int .i64 x)] [] [] (.rv (.int .i64 (x / 2))):=by
 refine bH JX [.rv (.int .i64 x)] _ (by simp) (by simp [aP,bg,bu,aZ,bn,ai.sv,Ln.sv,Nd.sv]) (fun K hK=>?_)
 conv in fc _ _ _ _=>reduce
 simp -implicitDefEqProofs only [go_sem,Int.reduceNegSucc]
 repeat' (first | (simp -implicitDefEqProofs only [go_sem,Int.reduceNegSucc]) | (with_reducible refine aF ?_) | ((first | refine ak (fun hg=>?_) (fun hg=>?_) | refine aC (fun hg=>?_) (fun hg=>?_) | refine aD (fun hg=>?_) (fun hg=>?_)) <;> try simp -implicitDefEqProofs only [hg,Bool.not_true,Bool.not_false]) | ((with_reducible apply And.intro);focus (first | trivial | omega | decide | (simp -implicitDefEqProofs only [maxLen];omega) | (simp [maxLen,aq,av,ax,aE,aj,ay,aB] <;> omega))) | fail)
 refine (hK _ _ (cC ?_)).2
 simp [lk]
 exact Int.fdiv_eq_ediv_of_nonneg _ (by decide)
theorem gL (x:Sz) (d:Int):aI Go.Proofs.Try.prog 65 [x.sv,.rv (.int .i64 d)] [] [] (.rv (.int .i64 (aX x d))):=by
 refine bH KA [x.sv,.rv (.int .i64 d)] _ (by simp) (by simp [aP,bg,bu,aZ,bn,ai.sv,Ln.sv,Nd.sv]) (fun K hK=>?_)
 conv in fc _ _ _ _=>reduce
 simp -implicitDefEqProofs only [Sz.sv,Sz.cells,go_sem,Int.reduceNegSucc]
 repeat' (first | (simp -implicitDefEqProofs only [go_sem,Int.reduceNegSucc]) | (with_reducible refine aF ?_) | ((first | refine ak (fun hg=>?_) (fun hg=>?_) | refine aC (fun hg=>?_) (fun hg=>?_) | refine aD (fun hg=>?_) (fun hg=>?_)) <;> try simp -implicitDefEqProofs only [hg,Bool.not_true,Bool.not_false]) | ((with_reducible apply And.intro);focus (first | trivial | omega | decide | (simp -implicitDefEqProofs only [maxLen];omega) | (simp [maxLen,aq,av,ax,aE,aj,ay,aB] <;> omega))) | fail)
 all_goals (refine (hK _ _ ?_).2;clear hK;simp -implicitDefEqProofs only [go_sem,Int.reduceNegSucc,bk,bq,bA,bI,aQ,aO,aN,aX] <;>(try simp_all [-Int.not_lt,-Int.not_le,aQ,aO,aN,cz,aX]) <;> try omega)
theorem DG (x:Int):aI Go.Proofs.Try.prog 85 [.rv (.int .i64 x)] [] [] (Su.sv ⟨max x 0,min x 0⟩):=by
 refine bH KM [.rv (.int .i64 x)] _ (by simp) (by simp [aP,bg,bu,aZ,bn,ai.sv,Ln.sv,Nd.sv]) (fun K hK=>?_)
 conv in fc _ _ _ _=>reduce
 simp -implicitDefEqProofs only [Su.sv,Su.cells,go_sem,Int.reduceNegSucc]
 repeat' (first | (simp -implicitDefEqProofs only [go_sem,Int.reduceNegSucc]) | (with_reducible refine aF ?_) | ((first | refine ak (fun hg=>?_) (fun hg=>?_) | refine aC (fun hg=>?_) (fun hg=>?_) | refine aD (fun hg=>?_) (fun hg=>?_)) <;> try simp -implicitDefEqProofs only [hg,Bool.not_true,Bool.not_false]) | ((with_reducible apply And.intro);focus (first | trivial | omega | decide | (simp -implicitDefEqProofs only [maxLen];omega) | (simp [maxLen,aq,av,ax,aE,aj,ay,aB] <;> omega))) | fail)
 all_goals (refine (hK _ _ ?_).2;clear hK;simp -implicitDefEqProofs only [go_sem,Int.reduceNegSucc,bk,bq,bA,bI,aQ,aO,aN,Su.sv,Su.cells] <;>(try simp_all [-Int.not_lt,-Int.not_le,aQ,aO,aN,cz,Su.sv,Su.cells]) <;> try omega)
theorem qO (a b:Su):aI Go.Proofs.Try.prog 86 [a.sv,b.sv] [] [] (eU a b).sv:=by
 refine bH KL [a.sv,b.sv] _ (by simp) (by simp [aP,bg,bu,aZ,bn,ai.sv,Ln.sv,Nd.sv]) (fun K hK=>?_)
 conv in fc _ _ _ _=>reduce
 simp -implicitDefEqProofs only [Su.sv,Su.cells,go_sem,Int.reduceNegSucc]
 repeat' (first | (simp -implicitDefEqProofs only [go_sem,Int.reduceNegSucc]) | (with_reducible refine aF ?_) | ((first | refine ak (fun hg=>?_) (fun hg=>?_) | refine aC (fun hg=>?_) (fun hg=>?_) | refine aD (fun hg=>?_) (fun hg=>?_)) <;> try simp -implicitDefEqProofs only [hg,Bool.not_true,Bool.not_false]) | ((with_reducible apply And.intro);focus (first | trivial | omega | decide | (simp -implicitDefEqProofs only [maxLen];omega) | (simp [maxLen,aq,av,ax,aE,aj,ay,aB] <;> omega))) | fail)
 all_goals (refine (hK _ _ ?_).2;clear hK;simp -implicitDefEqProofs only [go_sem,Int.reduceNegSucc,bk,bq,bA,bI,aQ,aO,aN,Su.sv,Su.cells,eU] <;>(try simp_all [-Int.not_lt,-Int.not_le,aQ,aO,aN,cz,Su.sv,Su.cells,eU]) <;> try omega)
def gZ (xs:List Int):List (List U):=xs.map fun x=>[.rv (.int .i64 x)]
theorem BN (xs:List Int):gZ xs=aH (aJ xs):=by simp [gZ,aH,aJ]
theorem pH (id:Nat) (xs:List Int) (hb:xs.length≤1000):aI Go.Proofs.Try.prog 54 [.row id 0 xs.length] [(id,.row 1 0 (gZ xs))] [] (.aM [.rv (.int .i64 (dy xs)),.rv (.bool (dx xs))]):=by
 have:=Lr (id:=id) (v:=0) (n:=xs.length) (bs:=[]) (rs:=[.int .i64 (dy xs),.bool (dx xs)]) (Oh xs hb) (by simp;exact ⟨.int _ _,.bool _⟩) (by rw [aj]) (mo _)
 rw [BN];exact this
theorem zp (a:Su):aI Go.Proofs.Try.prog 52 [a.sv] [] [] (.aM [.rv (.int .i64 (nc a)),.rv (.bool (qT a))]):=by
 refine bH KN [a.sv] _ (by simp) (by simp [aP,bg,bu,aZ,bn,ai.sv,Ln.sv,Nd.sv]) (fun K hK=>?_)
 have hs:=fun id=>pH id [a.p,a.n] (by simp)
 conv in fc _ _ _ _=>reduce
 simp -implicitDefEqProofs only [Su.sv,Su.cells,go_sem,Int.reduceNegSucc]
 simp [gZ] at hs
 have bE:=hs;repeat' (first | (simp -implicitDefEqProofs only [go_sem,Int.reduceNegSucc]) | (with_reducible refine aF ?_) | ((first | refine ct (bE _) ?_ ?_ ?_ | refine cK (bE _) ?_ ?_ ?_ | fail);(focus (simp [aS,ag] <;> fail));(focus (simp [aW,aT] <;> fail))) | ((first | refine ak (fun hg=>?_) (fun hg=>?_) | refine aC (fun hg=>?_) (fun hg=>?_) | refine aD (fun hg=>?_) (fun hg=>?_)) <;> try simp -implicitDefEqProofs only [hg,Bool.not_true,Bool.not_false]) | ((with_reducible apply And.intro);focus (first | trivial | omega | decide | (simp -implicitDefEqProofs only [maxLen];omega) | (simp [maxLen,aq,av,ax,aE,aj,ay,aB] <;> omega))) | fail)
 all_goals (refine (hK _ _ ?_).2;clear hK;simp -implicitDefEqProofs only [go_sem,Int.reduceNegSucc,bk,bq,bA,bI,aQ,aO,aN,nc,qT] <;>(try simp_all [-Int.not_lt,-Int.not_le,aQ,aO,aN,cz,nc,qT]) <;> try omega)
theorem DA (w:Int) (h:Sz):aI Go.Proofs.Try.prog 25 [.rv (.int .i64 w),h.sv] [] [] (.rv (.bool (gf w h))):=by
 refine bH Ki [.rv (.int .i64 w),h.sv] _ (by simp) (by simp [aP,bg,bu,aZ,bn,ai.sv,Ln.sv,Nd.sv]) (fun K hK=>?_)
 conv in fc _ _ _ _=>reduce
 simp -implicitDefEqProofs only [Sz.sv,Sz.cells,go_sem,Int.reduceNegSucc]
 repeat' (first | (simp -implicitDefEqProofs only [go_sem,Int.reduceNegSucc]) | (with_reducible refine aF ?_) | ((first | refine ak (fun hg=>?_) (fun hg=>?_) | refine aC (fun hg=>?_) (fun hg=>?_) | refine aD (fun hg=>?_) (fun hg=>?_)) <;> try simp -implicitDefEqProofs only [hg,Bool.not_true,Bool.not_false]) | ((with_reducible apply And.intro);focus (first | trivial | omega | decide | (simp -implicitDefEqProofs only [maxLen];omega) | (simp [maxLen,aq,av,ax,aE,aj,ay,aB] <;> omega))) | fail)
 all_goals (refine (hK _ _ ?_).2;clear hK;simp -implicitDefEqProofs only [go_sem,Int.reduceNegSucc,bk,bq,bA,bI,aQ,aO,aN,gf] <;>(try simp_all [-Int.not_lt,-Int.not_le,aQ,aO,aN,cz,gf]) <;> try omega)
end Go.aG

namespace Go.aG
open Go
theorem tc (a:Int):a.tdiv 10000=if 0≤a∨a % 10000=0 then a / 10000 else a / 10000+1:=by
 rw [Int.tdiv_eq_ediv]
 have:(10000:Int) ∣ a↔a % 10000=0:=Int.dvd_iff_emod_eq_zero
 simp -implicitDefEqProofs only [this]
 split <;> simp
theorem OO (a:Int):a.tmod 10000=if 0≤a∨a % 10000=0 then a % 10000 else a % 10000 - 10000:=by
 rw [Int.tmod_eq_emod]
 have:(10000:Int) ∣ a↔a % 10000=0:=Int.dvd_iff_emod_eq_zero
 simp -implicitDefEqProofs only [this]
 split <;> simp
theorem Oi (a:Int) (h : -100000000000≤a) (h2:a≤100000000000):aI Go.Proofs.Try.prog 81 [.rv (.int .i64 a),.rv (.int .i64 10000)] [] [] (.rv (.int .i64 (a / 10000))):=by
 refine bH Ka [.rv (.int .i64 a),.rv (.int .i64 10000)] _ (by simp) (by simp [aP,bg,bu,aZ,bn,ai.sv,Ln.sv,Nd.sv]) (fun K hK=>?_)
 have e1:IntKind.i64.wrap (a.tdiv 10000)=a.tdiv 10000:=wrap_i64 (by rw [tc];split <;> omega) (by rw [tc];split <;> omega)
 have e2:IntKind.i64.wrap (a.tdiv 10000 - 1)=a.tdiv 10000 - 1:=wrap_i64 (by rw [tc];split <;> omega) (by rw [tc];split <;> omega)
 conv in fc _ _ _ _=>reduce
 simp -implicitDefEqProofs only [go_sem,Int.reduceNegSucc]
 repeat' (first | (simp -implicitDefEqProofs only [go_sem,Int.reduceNegSucc,e1,e2]) | (with_reducible refine aF ?_) | ((first | refine ak (fun hg=>?_) (fun hg=>?_) | refine aC (fun hg=>?_) (fun hg=>?_) | refine aD (fun hg=>?_) (fun hg=>?_)) <;> try simp -implicitDefEqProofs only [hg,Bool.not_true,Bool.not_false]) | ((with_reducible apply And.intro);focus (first | trivial | omega | decide | (simp -implicitDefEqProofs only [maxLen];omega) | (simp [maxLen,aq,av,ax,aE,aj,ay,aB] <;> omega))) | fail)
 all_goals (refine (hK _ _ (cC ?_)).2;clear hK;simp -implicitDefEqProofs only [decide_eq_true_eq,decide_eq_false_iff_not,OO] at hg;simp [lk,tc];split at hg <;>(try intros) <;>(try split) <;> omega)
theorem Mp {b p:Int}:b / 10000*p+b % 10000*p / 10000=b*p / 10000:=by
 have h:b*p=b % 10000*p+10000*(b / 10000*p):=by
  conv=>lhs;rw [← Int.emod_add_mul_ediv b 10000]
  rw [Int.add_mul,Int.mul_assoc]
 rw [h,Int.add_mul_ediv_left _ _ (by decide)];omega
theorem CB {a b A B:Int} (h0:0≤a) (h:a≤A) (h1 : -B≤b) (h2:b≤B) : -(A*B)≤a*b∧a*b≤A*B:=by
 have hB:0≤B:=by omega
 have e1:=Int.mul_le_mul_of_nonneg_left h2 h0
 have e2:=Int.mul_le_mul_of_nonneg_right h hB
 have e3:=Int.mul_le_mul_of_nonneg_left h1 h0
 rw [Int.mul_neg] at e3
 omega
theorem Og (b p:Int):aI Go.Proofs.Try.prog 64 [.rv (.int .i64 b),.rv (.int .i64 p)] [] [] (.aM [.rv (.int .i64 (sW b p)),.rv (.bool (nQ b p))]):=by
 refine bH JY [.rv (.int .i64 b),.rv (.int .i64 p)] _ (by simp) (by simp [aP,bg,bu,aZ,bn,ai.sv,Ln.sv,Nd.sv]) (fun K hK=>?_)
 conv in fc _ _ _ _=>reduce
 simp -implicitDefEqProofs only [go_sem,Int.reduceNegSucc]
 by_cases h:0≤b∧b≤1125899906842624∧-1000000≤p∧p≤1000000
 ·have g1:decide (b<0)=false:=decide_eq_false (by omega)
  have g2:decide (b>1125899906842624)=false:=decide_eq_false (by omega)
  have g3:decide (p < -1000000)=false:=decide_eq_false (by omega)
  have g4:decide (p>1000000)=false:=decide_eq_false (by omega)
  have q1:b.tdiv 10000=b / 10000:=Int.tdiv_eq_ediv_of_nonneg h.1
  have q2:b.tmod 10000=b % 10000:=Int.tmod_eq_emod_of_nonneg h.1
  have m1:=CB (a:=b % 10000) (b:=p) (A:=9999) (B:=1000000) (by omega) (by omega) h.2.2.1 h.2.2.2
  have m2:=CB (a:=b / 10000) (b:=p) (A:=112589990684) (B:=1000000) (by omega) (by omega) h.2.2.1 h.2.2.2
  have w1:IntKind.i64.wrap (b / 10000)=b / 10000:=wrap_i64 (by omega) (by omega)
  have w2:IntKind.i64.wrap (b % 10000*p)=b % 10000*p:=wrap_i64 (by omega) (by omega)
  have w3:IntKind.i64.wrap (b / 10000*p)=b / 10000*p:=wrap_i64 (by omega) (by omega)
  have w4:IntKind.i64.wrap (b / 10000*p+b % 10000*p / 10000)=b*p / 10000:=by rw [wrap_i64 (by omega) (by omega),Mp]
  have hd:=Oi (b % 10000*p) (by omega) (by omega)
  have hf:=fN (b*p / 10000)
  have e:nQ b p=bP (b*p / 10000):=by simp [nQ,h]
  have bE:=hd;have y_2:=hf;repeat' (first | (simp -implicitDefEqProofs only [go_sem,Int.reduceNegSucc,g1,g2,g3,g4,q1,q2,w1,w2,w3,w4]) | (with_reducible refine aF ?_) | (with_reducible first | refine az bE ?_ | refine aA bE ?_) | (with_reducible first | refine az y_2 ?_ | refine aA y_2 ?_) | ((first | refine ak (fun hg=>?_) (fun hg=>?_) | refine aC (fun hg=>?_) (fun hg=>?_) | refine aD (fun hg=>?_) (fun hg=>?_)) <;> try simp -implicitDefEqProofs only [hg,Bool.not_true,Bool.not_false]) | ((with_reducible apply And.intro);focus (first | trivial | omega | decide | (simp -implicitDefEqProofs only [maxLen];omega) | (simp [maxLen,aq,av,ax,aE,aj,ay,aB] <;> omega))) | fail)
  all_goals (refine (hK _ _ (eK ?_ ?_)).2 <;> clear hK <;> simp_all [lk,sW])
 ·have e:nQ b p=false:=by simp [nQ];intro a1 a2 a3 a4;exact absurd ⟨a1,a2,a3,a4⟩ h
  repeat' (first | (simp -implicitDefEqProofs only [go_sem,Int.reduceNegSucc]) | (with_reducible refine aF ?_) | ((first | refine ak (fun hg=>?_) (fun hg=>?_) | refine aC (fun hg=>?_) (fun hg=>?_) | refine aD (fun hg=>?_) (fun hg=>?_)) <;> try simp -implicitDefEqProofs only [hg,Bool.not_true,Bool.not_false]) | ((with_reducible apply And.intro);focus (first | trivial | omega | decide | (simp -implicitDefEqProofs only [maxLen];omega) | (simp [maxLen,aq,av,ax,aE,aj,ay,aB] <;> omega))) | fail)
  all_goals (first | (refine (hK _ _ (eK ?_ ?_)).2 <;> clear hK <;> simp [lk,sW,e];done) | (exfalso;simp at *;omega))
theorem og (x:Ln) (b:Int) (has:Bool):aI Go.Proofs.Try.prog 43 [x.sv,.rv (.int .i64 b),.rv (.bool has)] [] [] (.aM [(dw x b has).sv,.rv (.bool (dR x b has))]):=by
 refine bH Kz [x.sv,.rv (.int .i64 b),.rv (.bool has)] _ (by simp) (by simp [aP,bg,bu,aZ,bn,ai.sv,Ln.sv,Nd.sv]) (fun K hK=>?_)
 have hf:=fN x.n
 have hp:=Og b x.n
 conv in fc _ _ _ _=>reduce
 simp -implicitDefEqProofs only [Ln.sv,Ln.cells,Sz.sv,Sz.cells,go_sem,Int.reduceNegSucc]
 have bL:=hf;have bN:=hp;repeat' (first | (simp -implicitDefEqProofs only [go_sem,Int.reduceNegSucc]) | (with_reducible refine aF ?_) | (with_reducible first | refine az bL ?_ | refine aA bL ?_) | (with_reducible first | refine az bN ?_ | refine aA bN ?_) | ((first | refine ak (fun hg=>?_) (fun hg=>?_) | refine aC (fun hg=>?_) (fun hg=>?_) | refine aD (fun hg=>?_) (fun hg=>?_)) <;> try simp -implicitDefEqProofs only [hg,Bool.not_true,Bool.not_false]) | ((with_reducible apply And.intro);focus (first | trivial | omega | decide | (simp -implicitDefEqProofs only [maxLen];omega) | (simp [maxLen,aq,av,ax,aE,aj,ay,aB] <;> omega))) | fail)
 all_goals (refine (hK _ _ ?_).2;clear hK;simp -implicitDefEqProofs only [go_sem,Int.reduceNegSucc,bk,bq,bA,bI,aQ,aO,aN,Sz.sv,Sz.cells,dw,dR] <;>(try simp_all [-Int.not_lt,-Int.not_le,aQ,aO,aN,cz,Sz.sv,Sz.cells,dw,dR]) <;> try omega)
theorem DD (x:Ln) (b:Int) (has:Bool):aI Go.Proofs.Try.prog 44 [x.sv,.rv (.int .i64 b),.rv (.bool has)] [] [] (.aM [.rv (.int .i64 (aX (dw x b has) 0)),.rv (.bool (dR x b has))]):=by
 refine bH Kx [x.sv,.rv (.int .i64 b),.rv (.bool has)] _ (by simp) (by simp [aP,bg,bu,aZ,bn,ai.sv,Ln.sv,Nd.sv]) (fun K hK=>?_)
 have hf:=og x b has
 have ho:=gL (dw x b has) 0
 conv in fc _ _ _ _=>reduce
 simp -implicitDefEqProofs only [Ln.sv,Ln.cells,Sz.sv,Sz.cells,go_sem,Int.reduceNegSucc] at *
 have cc:=hf;have cl:=ho;repeat' (first | (simp -implicitDefEqProofs only [go_sem,Int.reduceNegSucc]) | (with_reducible refine aF ?_) | (with_reducible first | refine az cc ?_ | refine aA cc ?_) | (with_reducible first | refine az cl ?_ | refine aA cl ?_) | ((first | refine ak (fun hg=>?_) (fun hg=>?_) | refine aC (fun hg=>?_) (fun hg=>?_) | refine aD (fun hg=>?_) (fun hg=>?_)) <;> try simp -implicitDefEqProofs only [hg,Bool.not_true,Bool.not_false]) | ((with_reducible apply And.intro);focus (first | trivial | omega | decide | (simp -implicitDefEqProofs only [maxLen];omega) | (simp [maxLen,aq,av,ax,aE,aj,ay,aB] <;> omega))) | fail)
 exact (hK _ _ (eK rfl rfl)).2
theorem DE (x:Ln) (b:Int) (has:Bool):aI Go.Proofs.Try.prog 45 [x.sv,.rv (.int .i64 b),.rv (.bool has)] [] [] (.aM [.rv (.int .i64 (aX (dw x b has) 1125899906842624)),.rv (.bool (dR x b has))]):=by
 refine bH Ky [x.sv,.rv (.int .i64 b),.rv (.bool has)] _ (by simp) (by simp [aP,bg,bu,aZ,bn,ai.sv,Ln.sv,Nd.sv]) (fun K hK=>?_)
 have hf:=og x b has
 have ho:=gL (dw x b has) 1125899906842624
 conv in fc _ _ _ _=>reduce
 simp -implicitDefEqProofs only [Ln.sv,Ln.cells,Sz.sv,Sz.cells,go_sem,Int.reduceNegSucc] at *
 have cm:=hf;have cw:=ho;repeat' (first | (simp -implicitDefEqProofs only [go_sem,Int.reduceNegSucc]) | (with_reducible refine aF ?_) | (with_reducible first | refine az cm ?_ | refine aA cm ?_) | (with_reducible first | refine az cw ?_ | refine aA cw ?_) | ((first | refine ak (fun hg=>?_) (fun hg=>?_) | refine aC (fun hg=>?_) (fun hg=>?_) | refine aD (fun hg=>?_) (fun hg=>?_)) <;> try simp -implicitDefEqProofs only [hg,Bool.not_true,Bool.not_false]) | ((with_reducible apply And.intro);focus (first | trivial | omega | decide | (simp -implicitDefEqProofs only [maxLen];omega) | (simp [maxLen,aq,av,ax,aE,aj,ay,aB] <;> omega))) | fail)
 exact (hK _ _ (eK rfl rfl)).2
end Go.aG

namespace Go.aG
open Go
theorem KB:aV Go.Proofs.Try.prog 62 30 (fc Go.Proofs.Try.prog 62 30 [(.c 4 8 true),(.t 5)]) [(.c 4 8 true),(.t 5)]:=bh (by kernel_rfl)
theorem KE:aV Go.Proofs.Try.prog 63 9 (fc Go.Proofs.Try.prog 63 9 [(.t 4)]) [(.t 4)]:=bh (by kernel_rfl)
theorem KI:aV Go.Proofs.Try.prog 80 19 (fc Go.Proofs.Try.prog 80 19 [(.t 4)]) [(.t 4)]:=bh (by kernel_rfl)
theorem Kd:aV Go.Proofs.Try.prog 41 137 (fc Go.Proofs.Try.prog 41 137 [(.c 8 28 true),(.t 9)]) [(.c 8 28 true),(.t 9)]:=bh (by kernel_rfl)
theorem Cd:aV Go.Proofs.Try.prog 42 30 (fc Go.Proofs.Try.prog 42 30 [(.t 6),(.t 7)]) [(.t 6),(.t 7)]:=bh (by kernel_rfl)
theorem JK:aV Go.Proofs.Try.prog 83 24 (fc Go.Proofs.Try.prog 83 24 [(.t 4)]) [(.t 4)]:=bh (by kernel_rfl)
theorem JL:aV Go.Proofs.Try.prog 84 76 (fc Go.Proofs.Try.prog 84 76 [(.t 4),(.t 5)]) [(.t 4),(.t 5)]:=bh (by kernel_rfl)
def Q4.eL (q:Q4 Sz):List RV:=[.bool q.a.auto,.int .i64 q.a.n,.bool q.b.auto,.int .i64 q.b.n,.bool q.c.auto,.int .i64 q.c.n,.bool q.d.auto,.int .i64 q.d.n]
def zm (q:Q4 Ln) (b:Int):Q4 Sz:=⟨dw q.a b true,dw q.b b true,dw q.c b true,dw q.d b true⟩
def nZ (q:Q4 Ln) (b:Int):Bool:=dR q.a b true && dR q.b b true && dR q.c b true && dR q.d b true
def mY (q:Q4 Ln) (b:Int):Q4 Sz:=if nZ q b=true then zm q b else ⟨⟨false,0⟩,⟨false,0⟩,⟨false,0⟩,⟨false,0⟩⟩
theorem DF (q:Q4 Ln) (b:Int):aI Go.Proofs.Try.prog 62 [.agg (q.mu.map .rv),.rv (.int .i64 b)] [] [] (.aM [.agg ((mY q b).eL.map .rv),.rv (.bool (nZ q b))]):=by
 refine bH KB [.agg (q.mu.map .rv),.rv (.int .i64 b)] _ (by simp) (by simp [aP,bg,bu,aZ,bn,ai.sv,Ln.sv,Nd.sv]) (fun K hK=>?_)
 have ha:=og q.a b true
 have hb:=og q.b b true
 have hc:=og q.c b true
 have hd:=og q.d b true
 conv in fc _ _ _ _=>reduce
 simp -implicitDefEqProofs only [Q4.mu,Ln.sv,Ln.cells,Sz.sv,Sz.cells,go_sem,Int.reduceNegSucc] at *
 repeat' (first | (simp -implicitDefEqProofs only [go_sem,Int.reduceNegSucc]) | (with_reducible refine aF ?_) | ((first | refine ak (fun hg=>?_) (fun hg=>?_) | refine aC (fun hg=>?_) (fun hg=>?_) | refine aD (fun hg=>?_) (fun hg=>?_)) <;> try simp -implicitDefEqProofs only [hg,Bool.not_true,Bool.not_false]) | ((with_reducible apply And.intro);focus (first | trivial | omega | decide | (simp -implicitDefEqProofs only [maxLen];omega) | (simp [maxLen,aq,av,ax,aE,aj,ay,aB] <;> omega))) | fail)
 refine qf 5 ?_
 have bE:=ha;have y_2:=hb;have bL:=hc;have bN:=hd;repeat' (first | (simp -implicitDefEqProofs only [go_sem,Int.reduceNegSucc,qU,qV,qW,qX,qY,qZ,pQ,Int.reduceLT,decide_true,decide_false,Int.reduceToNat,Nat.reduceMul]) | (with_reducible refine aF ?_) | (with_reducible show G _ _ (It.l _ _::_) _ _ _;refine qe ?_) | (with_reducible first | refine az bE ?_ | refine aA bE ?_) | (with_reducible first | refine az y_2 ?_ | refine aA y_2 ?_) | (with_reducible first | refine az bL ?_ | refine aA bL ?_) | (with_reducible first | refine az bN ?_ | refine aA bN ?_) | ((first | refine ak (fun hg=>?_) (fun hg=>?_) | refine aC (fun hg=>?_) (fun hg=>?_) | refine aD (fun hg=>?_) (fun hg=>?_)) <;> try simp -implicitDefEqProofs only [hg,Bool.not_true,Bool.not_false]) | ((with_reducible apply And.intro);focus (first | trivial | omega | decide | (simp -implicitDefEqProofs only [maxLen];omega) | (simp [maxLen,aq,av,ax,aE,aj,ay,aB] <;> omega))) | fail)
 all_goals (refine (hK _ _ ?_).2;clear hK;simp -implicitDefEqProofs only [go_sem,Int.reduceNegSucc,bk,bq,bA,bI,aQ,aO,aN,mY,nZ,zm,Q4.eL] <;>(try simp_all [-Int.not_lt,-Int.not_le,aQ,aO,aN,cz,mY,nZ,zm,Q4.eL]) <;> try omega)
def yo (a b c d e:Bool):Int:=if a=false then 0 else if b=false then 1 else if c=false then 2 else if d=false then 3 else if e=false then 4 else -1
theorem NK (a b c d e:Bool):aI Go.Proofs.Try.prog 80 [.rv (.sl 1 [[.bool a],[.bool b],[.bool c],[.bool d],[.bool e]]),.rv (.bool false)] [] [] (.rv (.int .i64 (yo a b c d e))):=by
 refine bH KI [.rv (.sl 1 [[.bool a],[.bool b],[.bool c],[.bool d],[.bool e]]),.rv (.bool false)] _ (by simp) (by simp [aP,bg,bu,aZ,bn,ai.sv,Ln.sv,Nd.sv]) (fun K hK=>?_)
 conv in fc _ _ _ _=>reduce
 simp -implicitDefEqProofs only [go_sem,Int.reduceNegSucc]
 repeat' (first | (simp -implicitDefEqProofs only [go_sem,Int.reduceNegSucc]) | (with_reducible refine aF ?_) | ((first | refine ak (fun hg=>?_) (fun hg=>?_) | refine aC (fun hg=>?_) (fun hg=>?_) | refine aD (fun hg=>?_) (fun hg=>?_)) <;> try simp -implicitDefEqProofs only [hg,Bool.not_true,Bool.not_false]) | ((with_reducible apply And.intro);focus (first | trivial | omega | decide | (simp -implicitDefEqProofs only [maxLen];omega) | (simp [maxLen,aq,av,ax,aE,aj,ay,aB] <;> omega))) | fail)
 refine qf 6 ?_
 repeat' (first | (simp -implicitDefEqProofs only [go_sem,Int.reduceNegSucc,qU,qV,qW,qX,qY,qZ,pQ,Int.reduceLT,decide_true,decide_false,Int.reduceToNat,Nat.reduceMul]) | (with_reducible refine aF ?_) | (with_reducible show G _ _ (It.l _ _::_) _ _ _;refine qe ?_) | ((first | refine ak (fun hg=>?_) (fun hg=>?_) | refine aC (fun hg=>?_) (fun hg=>?_) | refine aD (fun hg=>?_) (fun hg=>?_)) <;> try simp -implicitDefEqProofs only [hg,Bool.not_true,Bool.not_false]) | ((with_reducible apply And.intro);focus (first | trivial | omega | decide | (simp -implicitDefEqProofs only [maxLen];omega) | (simp [maxLen,aq,av,ax,aE,aj,ay,aB] <;> omega))) | fail)
 all_goals (refine (hK _ _ (cC ?_)).2;clear hK;simp_all [lk,yo])
theorem ND (a b c d e:Bool):aI Go.Proofs.Try.prog 63 [.rv (.sl 1 [[.bool a],[.bool b],[.bool c],[.bool d],[.bool e]]),.rv (.bool false)] [] [] (.rv (.bool !(a && b && c && d && e))):=by
 refine bH KE [.rv (.sl 1 [[.bool a],[.bool b],[.bool c],[.bool d],[.bool e]]),.rv (.bool false)] _ (by simp) (by simp [aP,bg,bu,aZ,bn,ai.sv,Ln.sv,Nd.sv]) (fun K hK=>?_)
 have hi:=NK a b c d e
 have h5:decide (yo a b c d e≥0) = !(a && b && c && d && e):=by cases a <;> cases b <;> cases c <;> cases d <;> cases e <;> rfl
 conv in fc _ _ _ _=>reduce
 simp -implicitDefEqProofs only [go_sem,Int.reduceNegSucc]
 have cc:=hi;repeat' (first | (simp -implicitDefEqProofs only [go_sem,Int.reduceNegSucc,h5]) | (with_reducible refine aF ?_) | (with_reducible first | refine az cc ?_ | refine aA cc ?_) | ((first | refine ak (fun hg=>?_) (fun hg=>?_) | refine aC (fun hg=>?_) (fun hg=>?_) | refine aD (fun hg=>?_) (fun hg=>?_)) <;> try simp -implicitDefEqProofs only [hg,Bool.not_true,Bool.not_false]) | ((with_reducible apply And.intro);focus (first | trivial | omega | decide | (simp -implicitDefEqProofs only [maxLen];omega) | (simp [maxLen,aq,av,ax,aE,aj,ay,aB] <;> omega))) | fail)
 exact (hK _ _ (cC rfl)).2
theorem NF (j v:Nat) (a b c d e:Bool):aI Go.Proofs.Try.prog 63 [.win j v 0 5,.rv (.bool false)] [(j,.var [.rv (.bool a),.rv (.bool b),.rv (.bool c),.rv (.bool d),.rv (.bool e)])] [] (.rv (.bool !(a && b && c && d && e))):=by
 refine tW (rs:=[.sl 1 [[.bool a],[.bool b],[.bool c],[.bool d],[.bool e]],.bool false]) (ND a b c d e) (fun hp hpre=>⟨?_,.rv _,trivial⟩) rfl (.rv _ (.bool _)) (by simp)
 refine .win j v 0 1 5 [.rv (.bool a),.rv (.bool b),.rv (.bool c),.rv (.bool d),.rv (.bool e)] _ rfl (hpre _ (.head _)) rfl (by simp) (by simp) (fun i r k q hi hk=>?_) (fun i r k y q hi hy hk=>?_)
 ·match i,k with
  | 0,0 | 1,0 | 2,0 | 3,0 | 4,0=>cases hi;cases hk;rfl
  | 0,k+1 | 1,k+1 | 2,k+1 | 3,k+1 | 4,k+1=>cases hi;simp at hk
  | i+5,k=>simp at hi
 ·match i,k with
  | 0,0 | 1,0 | 2,0 | 3,0 | 4,0=>cases hi;cases hk;cases hy;exact .rv _
  | 0,k+1 | 1,k+1 | 2,k+1 | 3,k+1 | 4,k+1=>cases hi;simp at hk
  | i+5,k=>simp at hi
structure Ed where
 bC:Q4 Sz
 pad:Q4 Sz
 bR:Q4 Int
 high:Sz
 least:Int
 most:Int
 alone:Bool
 flat:Bool
 mV:Bool
 mz:Bool
def Ed.cells (e:Ed):List RV:=e.bC.eL++e.pad.eL++e.bR.ints++[.bool e.high.auto,.int .i64 e.high.n,.int .i64 e.least,.int .i64 e.most,.bool e.alone,.bool e.flat,.bool e.mV,.bool e.mz]
def zz (s:ai) (w:Int):Bool:=(s.bR.a == 0) && ((mY s.pad w).a.n == 0)
def wM (s:ai) (w:Int):Bool:=(s.bR.c == 0) && ((mY s.pad w).c.n == 0)
def vv (s:ai) (h:Sz):Int:=aX (dw s.fm h.n (!h.auto)) 0
def ux (s:ai) (w:Int) (h:Sz) (alone:Bool):Ed:=
 ⟨mY s.bC w,mY s.pad w,s.bR,dw s.height h.n (!h.auto),vv s h,aX (dw s.fk h.n (!h.auto)) 1125899906842624,alone,
  !alone && zz s w && wM s w && (vv s h == 0),!alone && zz s w,!alone && wM s w && (dw s.height h.n (!h.auto)).auto && (vv s h == 0)⟩
def uw (s:ai) (w:Int) (h:Sz):Bool:=nZ s.bC w && nZ s.pad w && dR s.height h.n (!h.auto) && dR s.fm h.n (!h.auto) && dR s.fk h.n (!h.auto)
theorem Od (s:ai) (w:Int) (h:Sz) (alone:Bool):aI Go.Proofs.Try.prog 41 [s.sv,.rv (.int .i64 w),h.sv,.rv (.bool alone)] [] [] (.aM [.agg ((ux s w h alone).cells.map .rv),.rv (.bool (uw s w h))]):=by
 refine bH Kd [s.sv,.rv (.int .i64 w),h.sv,.rv (.bool alone)] _ (by simp) (by simp [aP,bg,bu,aZ,bn,ai.sv,Ln.sv,Nd.sv]) (fun K hK=>?_)
 have h1:=DF s.bC w
 have h2:=DF s.pad w
 have h3:=og s.height h.n (!h.auto)
 have h4:=DD s.fm h.n (!h.auto)
 have h5:=DE s.fk h.n (!h.auto)
 have h6:=fun j=>NF j 0 (nZ s.bC w) (nZ s.pad w) (dR s.height h.n (!h.auto)) (dR s.fm h.n (!h.auto)) (dR s.fk h.n (!h.auto))
 simp -implicitDefEqProofs only [ux,zz,wM,vv,uw] at hK
 simp -implicitDefEqProofs only [Q4.eL,Sz.sv,Sz.cells,List.map_cons,List.map_nil] at h1 h2 h3 h4 h5
 generalize mY s.bC w=M at *
 generalize mY s.pad w=D at *
 generalize dw s.height h.n (!h.auto)=H at *
 generalize aX (dw s.fm h.n (!h.auto)) 0=L at *
 generalize aX (dw s.fk h.n (!h.auto)) 1125899906842624=X at *
 conv in fc _ _ _ _=>reduce
 simp -implicitDefEqProofs only [Sz.sv,Sz.cells,go_sem,Int.reduceNegSucc]
 cases alone <;>(have cl:=h1;have cm:=h2;have cw:=h3;have cM:=h4;have cT:=h5;have eA:=h6;repeat' (first | (simp -implicitDefEqProofs only [go_sem,Int.reduceNegSucc,iq,jB,ir,jC,iG,jN,iR,jY,jc,kz,jl,kK,jm,kL,jn,kM,jo,kN,jq,kO,iu,jD,iw,jE,iy,jF,iz,jG,iA,jH,iB,jI,iC,jJ,iD,jK,iE,jL,iF,jM,iH,jO,iI,jP,iJ,jQ,iK,jR,iL,jS,iM,jT,iN,jU,iO,jV,iP,jW,iQ,jX,iS,jZ,iT,ke,iU,kf,iV,kg,iW,ki,iX,kj,iY,kk,iZ,ko,ja,kr,jb,ku,jd,kC,je,kD,gP,kE,jf,kF,jg,kG,jh,kH,ji,kI,jk,kJ,jw,jr,js,jt,ju,jv,jx,jy,jz,jA,ij,gO,aq,Q4.ints]) | (with_reducible refine aF ?_) | (with_reducible first | refine az cl ?_ | refine aA cl ?_) | (with_reducible first | refine az cm ?_ | refine aA cm ?_) | (with_reducible first | refine az cw ?_ | refine aA cw ?_) | (with_reducible first | refine az cM ?_ | refine aA cM ?_) | (with_reducible first | refine az cT ?_ | refine aA cT ?_) | ((first | refine ct (eA _) ?_ ?_ ?_ | refine cK (eA _) ?_ ?_ ?_ | fail);(focus (simp [aS,ag] <;> fail));(focus (simp [aW,aT] <;> fail))) | ((first | refine ak (fun hg=>?_) (fun hg=>?_) | refine aC (fun hg=>?_) (fun hg=>?_) | refine aD (fun hg=>?_) (fun hg=>?_)) <;> try simp -implicitDefEqProofs only [hg,Bool.not_true,Bool.not_false]) | ((with_reducible apply And.intro);focus (first | trivial | omega | decide | (simp -implicitDefEqProofs only [maxLen];omega) | (simp [maxLen,aq,av,ax,aE,aj,ay,aB] <;> omega))) | fail))
 all_goals (refine (hK _ _ ?_).2;clear hK;simp -implicitDefEqProofs only [go_sem,Int.reduceNegSucc,bk,bq,bA,bI,aQ,aO,aN,Ed.cells,Q4.eL,Q4.ints] <;>(try simp_all [-Int.not_lt,-Int.not_le,aQ,aO,aN,cz,Ed.cells,Q4.eL,Q4.ints]) <;> try omega)
end Go.aG

namespace Go.aG
open Go
def Qb (i j m k:Nat):Option Nat:=if k=j then some i else if k=i then none else if k<m then some k else none
def Qa (i j k:Nat):Nat:=if k=i then j else k
end Go.aG

namespace Go.aG
open Go
theorem wO {P:Program} {f:FuncId} {dV:List U} {args:List U} {pre us:List (Nat×HB)} {sv:U} (H:aI P f dV [] us sv) (hl:args.length=dV.length)
 (hz:∀ hp,aS hp pre→∀ (j:Nat) (y x:U),args[j]?=some y→dV[j]?=some x→Rn (fun _=>none) hp y x) (hfl:dm sv) (eG:∀ q∈us,lT q.2∧∀ p∈pre,p.1≠q.1):aI P f args pre us sv:=by
 refine ⟨H.1,fun C hp w aa vs hpre hnew R hvl hvs=>?_⟩
 let C2:Ctx:=⟨w,fun b=>an C aa hp b∨∃ id,(hp id).isSome=true∧aa id=some b,fun _=>False,C.N,fun _=>none,fun _=>none⟩
 have oQ:∀ b,C2.sR b→an C2 (fun _=>none) (fun _=>none) b:=fun b hb=>⟨.inl hb,fun id hid=>by simp at hid⟩
 have R2:bF C2 (fun _=>none) w (fun _=>none):=⟨fun id hb h=>(by cases h),fun i j b h=>(by simp at h),fun i b h=>(by simp at h),⟨rfl,rfl,rfl,Nat.le_refl _,fun b _ _=>rfl⟩,fun id hb hb0 h=>(by cases h)⟩
 have mO:∀ id,id∈us.map (·.1)→hp id=none∧C.h0 id=none:=fun id hid=>by
  obtain ⟨q,hq,rfl⟩:=List.mem_map.1 hid
  rcases hnew q hq with ⟨hb,hm⟩ | h
  ·exact absurd rfl ((eG q hq).2 (q.1,hb) hm)
  ·exact h
 refine (H.2 C2 (fun _=>none) w (fun _=>none) vs (fun q hq=>by simp at hq) (fun q hq=>.inr ⟨rfl,rfl⟩) R2 (by simp [hvl,hl]) (fun j s hj=>?_)).mono ?_
 ·have hlt:=(List.getElem?_eq_some_iff.1 hj).1
  have hy:=List.getElem?_eq_getElem (l:=args) (i:=j) (by omega)
  exact Rp.leave (τ:=fun _=>none) (fun b hb=>oQ b (.inl hb)) (fun i b _ hi hb=>oQ b (.inr ⟨i,hi,hb⟩)) (fun i hb hi=>R.heap i hb hi) (fun j id h=>by cases h) (hvs j _ hy) (hz hp hpre j _ s hy hj)
 ·rintro e w' ⟨v,au,rfl,S,hR⟩
  have R':=S.mem
  have dc:∀ b,b<w.heap.size→w'.heap[b]?=w.heap[b]?:=fun b hb=>R'.fr.block b hb (fun h=>h)
  have hsz:w.heap.size≤w'.heap.size:=R'.fr.size
  have mP:∀ id b,id∈us.map (·.1)→au id=some b→w.heap.size≤b∧b<w'.heap.size:=fun id b hid hb=>by
   obtain ⟨h1,h2⟩:=R'.own id b (kQ.2 hid) hb
   rcases h1 with ⟨a,_⟩ | a
   ·cases a
   ·exact ⟨a,h2⟩
  let cD:Nat→Option Nat:=fun id=>if id∈us.map (·.1) then au id else aa id
  have rT:∀ id,id∈us.map (·.1)→cD id=au id:=fun id h=>if_pos h
  have rN:∀ id,id∉us.map (·.1)→cD id=aa id:=fun id h=>if_neg h
  have hN:∀ id,id∉us.map (·.1)→bf hp us id=hp id:=fun id h=>wq h
  have hT:∀ id,id∈us.map (·.1)→bf hp us id=bf (fun _=>none) us id:=fun id h=>tj h
  have hs:∀ j,(bf (fun _=>none) us j).isSome=true→bf hp us j=bf (fun _=>none) us j∧cD j=au j:=fun j hj=>⟨hT j (kQ.1 hj),rT j (kQ.1 hj)⟩
  have oZ:∀ b,an C aa hp b→b<w.heap.size→an C cD (bf hp us) b∧w'.heap[b]?=w.heap[b]?:=fun b hb hlt=>by
   refine ⟨⟨hb.1,fun id hid he=>?_⟩,dc b hlt⟩
   by_cases hm:id∈us.map (·.1)
   ·rw [rT id hm] at he
    have:=(mP id b hm he).1;omega
   ·rw [hN id hm] at hid
    rw [rN id hm] at he
    exact hb.2 id hid he
  have E:dK w w' (an C aa hp) (an C cD (bf hp us)) aa cD hp (bf hp us):=dK.of oZ (fun id hb hq=>by
   have hm:id∉us.map (·.1):=fun hm=>by rw [(mO id hm).1] at hq;cases hq
   refine ⟨hb,by rw [hN id hm];exact hq,?_⟩
   rw [rN id hm]
   cases hb with
   | var cs=>rfl
   | row e af xs=>exact ⟨Nat.le_refl _,fun _=>⟨rfl,rfl,fun b hb cur t hc=>⟨cur,t,by rw [dc b (R.own id b (by rw [hq];rfl) hb).2];exact hc,rfl⟩⟩⟩)
  refine ⟨v,cD,rfl,⟨⟨fun id hb hq=>?_,fun i j b h1 h2 h3 h4=>?_,fun id b h1 h2=>?_,⟨R'.fr.os.trans R.fr.os,R'.fr.tape.trans R.fr.tape,R'.fr.output.trans R.fr.output,Nat.le_trans R.fr.size hsz,fun b h1 h2=>?_⟩,fun id hb hb0 h1 h2=>?_⟩,E⟩,hR.flat hs hfl⟩
  ·by_cases hm:id∈us.map (·.1)
   ·rw [hT id hm] at hq
    have xK:lT hb:=by
     rcases Ec hq with h | h
     ·cases h
     ·exact (eG _ h).1
    exact (R'.heap id hb hq).flat hs (kQ.2 hm) xK
   ·rw [hN id hm] at hq
    rcases R.heap id hb hq with ⟨a1,a2⟩ | ⟨b,cur,t,a1,a2,a3⟩
    ·exact .inl ⟨(rN id hm).trans a1,a2⟩
    ·refine .inr ⟨b,cur,t,(rN id hm).trans a1,?_,a3.mono E⟩
     rw [dc b (R.own id b (by rw [hq];rfl) a1).2];exact a2
  ·by_cases hi:i∈us.map (·.1) <;> by_cases hj:j∈us.map (·.1)
   ·rw [rT i hi] at h3;rw [rT j hj] at h4
    exact R'.inj i j b (kQ.2 hi) (kQ.2 hj) h3 h4
   ·rw [rT i hi] at h3;rw [rN j hj] at h4;rw [hN j hj] at h2
    have h5:=mP i b hi h3;have h6:=R.own j b h2 h4;omega
   ·rw [rN i hi] at h3;rw [rT j hj] at h4;rw [hN i hi] at h1
    have h5:=mP j b hj h4;have h6:=R.own i b h1 h3;omega
   ·rw [rN i hi] at h3;rw [rN j hj] at h4;rw [hN i hi] at h1;rw [hN j hj] at h2
    exact R.inj i j b h1 h2 h3 h4
  ·by_cases hm:id∈us.map (·.1)
   ·rw [rT id hm] at h2
    obtain ⟨a1,a2⟩:=mP id b hm h2
    exact ⟨.inr (Nat.le_trans R.fr.size a1),a2⟩
   ·rw [hN id hm] at h1;rw [rN id hm] at h2
    obtain ⟨a1,a2⟩:=R.own id b h1 h2
    exact ⟨a1,by omega⟩
  ·rw [dc b (by have:=R.fr.size;omega)];exact R.fr.block b h1 h2
  ·by_cases hm:id∈us.map (·.1)
   ·rw [(mO id hm).2] at h2;cases h2
   ·rw [hN id hm] at h1
    have ev:=R.er id hb hb0 h1 h2
    obtain ⟨hb',g1,g2⟩:∃ hb',bf hp us id=some hb'∧dZ w w' (aa id) (cD id) hb hb':=by
     refine ⟨hb,by rw [hN id hm];exact h1,?_⟩
     rw [rN id hm]
     cases hb with
     | var cs=>rfl
     | row e af xs=>exact ⟨Nat.le_refl _,fun _=>⟨rfl,rfl,fun b hb cur t hc=>⟨cur,t,by rw [dc b (R.own id b (by rw [h1];rfl) hb).2];exact hc,rfl⟩⟩⟩
    rw [hN id hm,h1] at g1;cases g1
    exact ev.trans g2
theorem AB {n0:Nat} {env:List (Nat×U)} {h:List (Option HB)} (i0 e o:Nat) {cs:List U} (hi:ag h i0=some (.var cs)) (ho:cs[o]?=some (.rv .bO)):cA n0 ⟨env,h⟩ ⟨env,aT (aT h (h.length,.row e 0 [])) (i0,.var (cs.set o (.row h.length 0 0)))⟩:=by
 intro C a w R
 obtain ⟨⟨aa,RF⟩,h1,h0⟩:=R
 have hnone:ag h h.length=none:=by unfold ag;rw [List.getElem?_eq_none (Nat.le_refl _)]
 have rU:C.h0 h.length=none:=h0 _ h1
 obtain ⟨au,S⟩:=RF.mem.AW e hi ho hnone rU
 have fu:=RF.step S
 have hlt:i0<h.length:=by
  apply Classical.byContradiction
  intro hc
  unfold ag at hi
  rw [List.getElem?_eq_none (by omega)] at hi;cases hi
 have e1:=uX (h:=h) (q:=(h.length,.row e 0 [])) (Nat.le_refl _)
 have l1:=qR h (h.length,.row e 0 [])
 have e2:=uX (h:=aT h (h.length,.row e 0 [])) (q:=(i0,.var (cs.set o (.row h.length 0 0)))) (by show i0≤_;omega)
 have l2:=qR (aT h (h.length,.row e 0 [])) (i0,.var (cs.set o (.row h.length 0 0)))
 refine ⟨⟨au,?_⟩,?_,h0⟩
 ·show eC C (lk env) (ag (aT (aT h (h.length,.row e 0 [])) (i0,.var (cs.set o (.row h.length 0 0))))) a w au
  rw [e2,e1];exact fu
 ·have Ho:n0≤h.length:=h1
  show n0≤(aT (aT h (h.length,.row e 0 [])) (i0,.var (cs.set o (.row h.length 0 0)))).length
  omega
end Go.aG

namespace Go.aG
open Go
theorem JM:aV Go.Proofs.Try.prog 67 53 (fc Go.Proofs.Try.prog 67 53 [(.c 4 3 true),(.t 5),(.t 6)]) [(.c 4 3 true),(.t 5),(.t 6)]:=bh (by kernel_rfl)
theorem JP:aV Go.Proofs.Try.prog 82 27 (fc Go.Proofs.Try.prog 82 27 [(.t 4)]) [(.t 4)]:=bh (by kernel_rfl)
structure Ai where
 base:Int
 left:Sz
 wide:Sz
 right:Sz
 around:Int
 cn:Bool
 least:Int
 most:Int
def Ai.cells (i:Ai):List RV:=[.int .i64 i.base,.bool i.left.auto,.int .i64 i.left.n,.bool i.wide.auto,.int .i64 i.wide.n,.bool i.right.auto,.int .i64 i.right.n,.int .i64 i.around,.bool i.cn,.int .i64 i.least,.int .i64 i.most]
abbrev Ai.sv (i:Ai):U:=.agg (i.cells.map .rv)
structure Ao where
 l:Int
 w:Int
 r:Int
def Ao.cells (o:Ao):List RV:=[.int .i64 o.l,.int .i64 o.w,.int .i64 o.r]
def sO (i:Ai) (w:Int):Int×Int:=
 if ¬ i.base - i.around - w - aX i.left 0 - aX i.right 0<0∧i.left.auto=true∧i.right.auto=true then ((i.base - i.around - w) / 2,i.base - i.around - w - (i.base - i.around - w) / 2)
 else if ¬ i.base - i.around - w - aX i.left 0 - aX i.right 0<0∧i.left.auto=true∨i.cn=true∧(i.base - i.around - w - aX i.left 0 - aX i.right 0<0∨i.right.auto=false) then (i.base - i.around - w - aX i.right 0,aX i.right 0)
 else (aX i.left 0,i.base - i.around - w - aX i.left 0)
def eD (i:Ai) (s:Sz):Ao:=if s.auto=true then ⟨aX i.left 0,i.base - i.around - aX i.left 0 - aX i.right 0,aX i.right 0⟩ else ⟨(sO i s.n).1,s.n,(sO i s.n).2⟩
def rA (i:Ai) (s:Sz):Bool:=bP (eD i s).l && bP (eD i s).w && bP (eD i s).r
structure Fit (i:Ai):Prop where
 b:bP i.base=true
 a:bP i.around=true
 l:bP (aX i.left 0)=true
 r:bP (aX i.right 0)=true
theorem Oo (i:Ai) (xs:List Int) (hb:bP i.base=true) (ha:bP i.around=true) (hx:∀ x∈xs,bP x=true) (hl:xs.length≤100):aI Go.Proofs.Try.prog 83 [i.sv,.rv (.sl 1 (aJ xs))] [] [] (.rv (.int .i64 (i.base - i.around - xs.sum))):=by
 refine bH JK [i.sv,.rv (.sl 1 (aJ xs))] _ (by simp) (by simp [aP,bg,bu,aZ,bn,ai.sv,Ln.sv,Nd.sv]) (fun K hK=>?_)
 have sq:=aj xs
 rw [lY] at hb ha
 have w0:IntKind.i64.wrap (i.base - i.around)=i.base - i.around:=wrap_i64 (by omega) (by omega)
 conv in fc _ _ _ _=>reduce
 simp -implicitDefEqProofs only [Ai.sv,Ai.cells,go_sem,Int.reduceNegSucc]
 repeat' (first | (simp -implicitDefEqProofs only [go_sem,Int.reduceNegSucc,sq,w0]) | (with_reducible refine aF ?_) | ((first | refine ak (fun hg=>?_) (fun hg=>?_) | refine aC (fun hg=>?_) (fun hg=>?_) | refine aD (fun hg=>?_) (fun hg=>?_)) <;> try simp -implicitDefEqProofs only [hg,Bool.not_true,Bool.not_false]) | ((with_reducible apply And.intro);focus (first | trivial | omega | decide | (simp -implicitDefEqProofs only [maxLen];omega) | (simp [maxLen,aq,av,ax,aE,aj,ay,aB] <;> omega))) | fail)
 refine dN (ι:=Nat) (fun k=>[(15,.rv (.int .i64 k)),(14,.rv (.int .i64 xs.length)),(13,.rv (.sl 1 (aJ xs))),(5,.rv (.int .i64 (i.base - i.around - (xs.take k).sum)))]) (fun _=>[some (.var (i.cells.map .rv))]) (fun k=>k≤xs.length∧-(1125899906842624*k)≤(xs.take k).sum∧(xs.take k).sum≤1125899906842624*k) (fun k=>xs.length - k) 0 (by simp) (bV (by simp [lk])) (fun k hk K' hN hX hR=>?_)
 obtain ⟨de,hk2,fI⟩:=hk
 simp -implicitDefEqProofs only [go_sem,Int.reduceNegSucc]
 refine ak (fun hg=>?_) (fun hg=>?_)
 ·have aK:k<xs.length:=by simp at hg;omega
  have hg:=nL aK
  have wu:=cQ (k:=k) (by omega)
  have hf:=lY.1 (hx _ (List.getElem_mem aK))
  have hst:=DN aK
  have ws:IntKind.i64.wrap (i.base - i.around - (xs.take k).sum - xs[k])=i.base - i.around - (xs.take (k+1)).sum:=by rw [wrap_i64 (by omega) (by omega),hst];omega
  repeat' (first | (simp -implicitDefEqProofs only [go_sem,Int.reduceNegSucc,hg,sq,wu,ws]) | (with_reducible refine aF ?_) | ((first | refine ak (fun hg=>?_) (fun hg=>?_) | refine aC (fun hg=>?_) (fun hg=>?_) | refine aD (fun hg=>?_) (fun hg=>?_)) <;> try simp -implicitDefEqProofs only [hg,Bool.not_true,Bool.not_false]) | ((with_reducible apply And.intro);focus (first | trivial | omega | decide | (simp -implicitDefEqProofs only [maxLen];omega) | (simp [maxLen,aq,av,ax,aE,aj,ay,aB] <;> omega))) | fail)
  exact hN (k+1) _ _ ⟨by omega,by omega,by omega⟩ (by omega) (bV (by simp [lk]))
 ·have aK:k=xs.length:=by simp at hg;omega
  subst aK
  simp -implicitDefEqProofs only [go_sem,Int.reduceNegSucc]
  refine hX _ _ _ ?_
  rw [List.take_length]
  repeat' (first | (simp -implicitDefEqProofs only [go_sem,Int.reduceNegSucc]) | (with_reducible refine aF ?_) | ((first | refine ak (fun hg=>?_) (fun hg=>?_) | refine aC (fun hg=>?_) (fun hg=>?_) | refine aD (fun hg=>?_) (fun hg=>?_)) <;> try simp -implicitDefEqProofs only [hg,Bool.not_true,Bool.not_false]) | ((with_reducible apply And.intro);focus (first | trivial | omega | decide | (simp -implicitDefEqProofs only [maxLen];omega) | (simp [maxLen,aq,av,ax,aE,aj,ay,aB] <;> omega))) | fail)
  exact (hK _ _ (cC rfl)).2
theorem zn (i:Ai) (xs:List Int) (hb:bP i.base=true) (ha:bP i.around=true) (hx:∀ x∈xs,bP x=true) (hl:xs.length≤100) (id:Nat):aI Go.Proofs.Try.prog 83 [i.sv,.row id 0 xs.length] [(id,.row 1 0 (gZ xs))] [] (.rv (.int .i64 (i.base - i.around - xs.sum))):=by
 refine wO (dV:=[i.sv,.rv (.sl 1 (aJ xs))]) (Oo i xs hb ha hx hl) rfl (fun hp hpre k y r hy hr=>?_) (.rv _ (.int _ _)) (by simp)
 match k with
 | 0=>cases hy;cases hr;exact aQ.2 (cG.2 rfl)
 | 1=>
   cases hy;cases hr
   have:=mK (h:=hp) (τ:=fun _=>none) (j:=id) (e:=1) (af:=0) (len:=xs.length) (xs:=aJ xs) (by rw [← BN];exact hpre _ (.head _)) rfl (by rw [aj];omega) (mo _)
   rw [List.take_of_length_le (by rw [aj];omega)] at this
   exact .fz _ _ this
 | k+2=>simp at hy
theorem Mk {x:Sz} (h:x.auto=false) (d:Int):aX x d=x.n:=by simp [aX,h]
theorem Ot (i:Ai) (w:Int) (hf:Fit i) (hw:bP w=true):aI Go.Proofs.Try.prog 84 [i.sv,.rv (.int .i64 w)] [] [] (.aM [.rv (.int .i64 (sO i w).1),.rv (.int .i64 (sO i w).2)]):=by
 refine bH JL [i.sv,.rv (.int .i64 w)] _ (by simp) (by simp [aP,bg,bu,aZ,bn,ai.sv,Ln.sv,Nd.sv]) (fun K hK=>?_)
 have h1:=gL i.left 0
 have h2:=gL i.right 0
 have h3:=zn i [w] hf.b hf.a (by simp [hw]) (by simp)
 have h4:=zn i [w,aX i.left 0,aX i.right 0] hf.b hf.a (by simp [hw,hf.l,hf.r]) (by simp)
 have q1:=lY.1 hf.b
 have q2:=lY.1 hf.a
 have q3:=lY.1 hf.l
 have q4:=lY.1 hf.r
 have q5:=lY.1 hw
 have h5:=Of (i.base - i.around - w)
 have w1:IntKind.i64.wrap (i.base - i.around - w - (i.base - i.around - w) / 2)=i.base - i.around - w - (i.base - i.around - w) / 2:=wrap_i64 (by omega) (by omega)
 have w2:IntKind.i64.wrap (i.base - i.around - w - aX i.right 0)=i.base - i.around - w - aX i.right 0:=wrap_i64 (by omega) (by omega)
 have w3:IntKind.i64.wrap (i.base - i.around - w - aX i.left 0)=i.base - i.around - w - aX i.left 0:=wrap_i64 (by omega) (by omega)
 have e1:[w].sum=w:=by simp
 have e2:i.base - i.around - [w,aX i.left 0,aX i.right 0].sum=i.base - i.around - w - aX i.left 0 - aX i.right 0:=by simp;omega
 rw [e1] at h3
 rw [e2] at h4
 simp -implicitDefEqProofs only [gZ,List.map_cons,List.map_nil,List.length_cons,List.length_nil,Ai.sv,Ai.cells,Sz.sv,Sz.cells,Nat.reduceAdd] at h1 h2 h3 h4
 simp -implicitDefEqProofs only [sO] at hK
 conv in fc _ _ _ _=>reduce
 simp -implicitDefEqProofs only [Ai.sv,Ai.cells,go_sem,Int.reduceNegSucc]
 generalize aX i.left 0=L at *
 generalize aX i.right 0=R at *
 cases hl:i.left.auto <;> cases hr:i.right.auto <;> cases ht:i.cn <;> simp -implicitDefEqProofs only [hl,hr,ht] at h1 h2 h3 h4 hK ⊢ <;> by_cases BC:i.base - i.around - w - L - R<0 <;> simp -implicitDefEqProofs only [BC,decide_true,decide_false] at hK ⊢
 all_goals ((have bE:=h1;have y_2:=h2;have bL:=h3;have bN:=h4;have cc:=h5;repeat' (first | (simp -implicitDefEqProofs only [go_sem,Int.reduceNegSucc,w1,w2,w3,BC,decide_true,decide_false]) | (with_reducible refine aF ?_) | (with_reducible first | refine az bE ?_ | refine aA bE ?_) | (with_reducible first | refine az y_2 ?_ | refine aA y_2 ?_) | ((first | refine ct (bL _) ?_ ?_ ?_ | refine cK (bL _) ?_ ?_ ?_ | fail);(focus (simp [aS,ag] <;> fail));(focus (simp [aW,aT] <;> fail))) | ((first | refine ct (bN _) ?_ ?_ ?_ | refine cK (bN _) ?_ ?_ ?_ | fail);(focus (simp [aS,ag] <;> fail));(focus (simp [aW,aT] <;> fail))) | (with_reducible first | refine az cc ?_ | refine aA cc ?_) | ((first | refine ak (fun hg=>?_) (fun hg=>?_) | refine aC (fun hg=>?_) (fun hg=>?_) | refine aD (fun hg=>?_) (fun hg=>?_)) <;> try simp -implicitDefEqProofs only [hg,Bool.not_true,Bool.not_false]) | ((with_reducible apply And.intro);focus (first | trivial | omega | decide | (simp -implicitDefEqProofs only [maxLen];omega) | (simp [maxLen,aq,av,ax,aE,aj,ay,aB] <;> omega))) | fail)))
 all_goals (refine (hK _ _ (eK rfl rfl)).2)
theorem Ov (i:Ai) (s:Sz) (hf:Fit i) (hs:s.auto=false→bP s.n=true):aI Go.Proofs.Try.prog 67 [i.sv,s.sv] [] [] (.aM [.agg ((eD i s).cells.map .rv),.rv (.int .i64 (eD i s).w),.rv (.bool (rA i s))]):=by
 refine bH JM [i.sv,s.sv] _ (by simp) (by simp [aP,bg,bu,aZ,bn,ai.sv,Ln.sv,Nd.sv]) (fun K hK=>?_)
 have h1:=gL i.left 0
 have h2:=gL i.right 0
 have h3:=zn i [aX i.left 0,aX i.right 0] hf.b hf.a (by simp [hf.l,hf.r]) (by simp)
 have f1:=fN (eD i s).l
 have f2:=fN (eD i s).w
 have f3:=fN (eD i s).r
 have e2:i.base - i.around - [aX i.left 0,aX i.right 0].sum=i.base - i.around - aX i.left 0 - aX i.right 0:=by simp;omega
 rw [e2] at h3
 simp -implicitDefEqProofs only [rA] at hK
 simp -implicitDefEqProofs only [gZ,List.map_cons,List.map_nil,List.length_cons,List.length_nil,Ai.sv,Ai.cells,Sz.sv,Sz.cells,Nat.reduceAdd,Ao.cells,eD] at h1 h2 h3 hK f1 f2 f3
 conv in fc _ _ _ _=>reduce
 simp -implicitDefEqProofs only [Ai.sv,Ai.cells,Sz.sv,Sz.cells,go_sem,Int.reduceNegSucc]
 cases ha:s.auto with
 | true=>
   simp -implicitDefEqProofs only [ha,if_true] at hK f1 f2 f3
   have cl:=h1;have cm:=h2;have cw:=h3;have cM:=f1;have cT:=f2;have eA:=f3;repeat' (first | (simp -implicitDefEqProofs only [go_sem,Int.reduceNegSucc]) | (with_reducible refine aF ?_) | (with_reducible first | refine az cl ?_ | refine aA cl ?_) | (with_reducible first | refine az cm ?_ | refine aA cm ?_) | ((first | refine ct (cw _) ?_ ?_ ?_ | refine cK (cw _) ?_ ?_ ?_ | fail);(focus (simp [aS,ag] <;> fail));(focus (simp [aW,aT] <;> fail))) | (with_reducible first | refine az cM ?_ | refine aA cM ?_) | (with_reducible first | refine az cT ?_ | refine aA cT ?_) | (with_reducible first | refine az eA ?_ | refine aA eA ?_) | ((first | refine ak (fun hg=>?_) (fun hg=>?_) | refine aC (fun hg=>?_) (fun hg=>?_) | refine aD (fun hg=>?_) (fun hg=>?_)) <;> try simp -implicitDefEqProofs only [hg,Bool.not_true,Bool.not_false]) | ((with_reducible apply And.intro);focus (first | trivial | omega | decide | (simp -implicitDefEqProofs only [maxLen];omega) | (simp [maxLen,aq,av,ax,aE,aj,ay,aB] <;> omega))) | fail)
   all_goals (refine (hK _ _ ?_).2;clear hK;simp -implicitDefEqProofs only [go_sem,Int.reduceNegSucc,bk,bq,bA,bI,aQ,aO,aN] <;>(try simp_all [-Int.not_lt,-Int.not_le,aQ,aO,aN,cz]) <;> try omega)
 | false=>
   have h4:=Ot i s.n hf (hs ha)
   simp -implicitDefEqProofs only [Ai.sv,Ai.cells,List.map_cons,List.map_nil] at h4
   simp -implicitDefEqProofs only [ha,Bool.false_eq_true,if_false] at hK f1 f2 f3
   have gn:=h1;have gp:=h2;have gq:=h4;have gu:=f1;have gw:=f2;have gx:=f3;repeat' (first | (simp -implicitDefEqProofs only [go_sem,Int.reduceNegSucc]) | (with_reducible refine aF ?_) | (with_reducible first | refine az gn ?_ | refine aA gn ?_) | (with_reducible first | refine az gp ?_ | refine aA gp ?_) | (with_reducible first | refine az gq ?_ | refine aA gq ?_) | (with_reducible first | refine az gu ?_ | refine aA gu ?_) | (with_reducible first | refine az gw ?_ | refine aA gw ?_) | (with_reducible first | refine az gx ?_ | refine aA gx ?_) | ((first | refine ak (fun hg=>?_) (fun hg=>?_) | refine aC (fun hg=>?_) (fun hg=>?_) | refine aD (fun hg=>?_) (fun hg=>?_)) <;> try simp -implicitDefEqProofs only [hg,Bool.not_true,Bool.not_false]) | ((with_reducible apply And.intro);focus (first | trivial | omega | decide | (simp -implicitDefEqProofs only [maxLen];omega) | (simp [maxLen,aq,av,ax,aE,aj,ay,aB] <;> omega))) | fail)
   all_goals (refine (hK _ _ ?_).2;clear hK;simp -implicitDefEqProofs only [go_sem,Int.reduceNegSucc,bk,bq,bA,bI,aQ,aO,aN] <;>(try simp_all [-Int.not_lt,-Int.not_le,aQ,aO,aN,cz]) <;> try omega)
theorem vY (i:Ai) (s:Sz) (hf:Fit i) (hs:s.auto=false→bP s.n=true) (j:Nat) (o:Ao) (n:Int):aI Go.Proofs.Try.prog 82 [.ptr j 0,s.sv]
 [(j,.var (U.bT 67 [i.sv]::(o.cells++[RV.int .i64 n]).map .rv))] [(j,.var (U.bT 67 [i.sv]::((eD i s).cells++[RV.int .i64 (eD i s).w]).map .rv))] (.rv (.bool (rA i s))):=by
 refine gR JP [j] [.var (U.bT 67 [i.sv]::(o.cells++[RV.int .i64 n]).map .rv)] [.var (U.bT 67 [i.sv]::(o.cells++[RV.int .i64 n]).map .rv)] [.ptr 0 0,s.sv] [.ptr j 0,s.sv] _ _ (by simp) (by simp [aP,fH,bg,bu]) rfl (by simp [bG]) (by simp [cU,zV,bg,bu,aP,aZ,Ao.cells]) (fun K hK=>?_)
 have h1:=Ov i s hf hs
 simp -implicitDefEqProofs only [Ao.cells,List.cons_append,List.nil_append,List.map_cons,List.map_nil] at hK ⊢
 simp -implicitDefEqProofs only [Ao.cells,Sz.sv,Sz.cells,List.map_cons,List.map_nil] at h1
 conv in fc _ _ _ _=>reduce
 simp -implicitDefEqProofs only [Sz.sv,Sz.cells,go_sem,Int.reduceNegSucc]
 have gz:=h1;repeat' (first | (simp -implicitDefEqProofs only [go_sem,Int.reduceNegSucc]) | (with_reducible refine aF ?_) | (with_reducible first | refine az gz ?_ | refine aA gz ?_) | ((first | refine ak (fun hg=>?_) (fun hg=>?_) | refine aC (fun hg=>?_) (fun hg=>?_) | refine aD (fun hg=>?_) (fun hg=>?_)) <;> try simp -implicitDefEqProofs only [hg,Bool.not_true,Bool.not_false]) | ((with_reducible apply And.intro);focus (first | trivial | omega | decide | (simp -implicitDefEqProofs only [maxLen];omega) | (simp [maxLen,aq,av,ax,aE,aj,ay,aB] <;> omega))) | fail)
 all_goals (try ((first | refine (hK _ _ _ _ [] (cW _ _) ?_).2 | refine (hK _ _ ?_).2 | refine (hK _ _ _ _ [] (cW _ _) ?_).1 | refine (hK _ _ ?_).1 | fail);clear hK;(simp_all [dh,bG,newL,dn,cY,bq,bk,lk,bA,cB,cL,cE,dH,dG,ag,di,bI,aO,cO,dj,dU,aQ,dS,aN,cP,cG,cz,MT,Ao.cells]) <;> try omega))
end Go.aG

namespace Go.aG
open Go
theorem JO:aV Go.Proofs.Try.prog 66 60 (fc Go.Proofs.Try.prog 66 60 [(.c 8 3 true),(.t 9)]) [(.c 8 3 true),(.t 9)]:=bh (by kernel_rfl)
theorem JN:aV Go.Proofs.Try.prog 46 41 (fc Go.Proofs.Try.prog 46 41 [(.c 2 3 true),(.t 3)]) [(.c 2 3 true),(.t 3)]:=bh (by kernel_rfl)
def zy (i:Ai) (c:Ao→Bool) (s:Sz) (o:Ao):Option Ao:=if c o=true then (if rA i s=true then some (eD i s) else none) else some o
def tD (i:Ai):Option Ao:=if rA i i.wide=true then (zy i (fun o=>decide (o.w>i.most)) ⟨false,i.most⟩ (eD i i.wide)).bind (zy i (fun o=>decide (o.w<i.least)) ⟨false,i.least⟩) else none
def nO:Option Ao→Ao
 | some o=>o
 | none=>⟨0,0,0⟩
theorem NZ (i:Ai) (hf:Fit i) (hw:bP (aX i.wide 0)=true) (h1:bP i.least=true) (h2:bP i.most=true):aI Go.Proofs.Try.prog 66 [.bT 67 [i.sv],i.wide.sv,.rv (.int .i64 i.least),.rv (.int .i64 i.most)] [] [] (.aM [.agg ((nO (tD i)).cells.map .rv),.rv (.bool (tD i).isSome)]):=by
 refine bH JO [.bT 67 [i.sv],i.wide.sv,.rv (.int .i64 i.least),.rv (.int .i64 i.most)] _ (by simp) (by simp [aP,zV,bg,bu,aZ]) (fun K hK=>?_)
 have a0:=vY i i.wide hf (fun h=>by rwa [Mk h] at hw) 3 ⟨0,0,0⟩ 0
 have a1:=vY i ⟨false,i.most⟩ hf (fun _=>h2) 3 (eD i i.wide) (eD i i.wide).w
 have a2:=vY i ⟨false,i.least⟩ hf (fun _=>h1) 3 (eD i i.wide) (eD i i.wide).w
 have a3:=vY i ⟨false,i.least⟩ hf (fun _=>h1) 3 (eD i ⟨false,i.most⟩) (eD i ⟨false,i.most⟩).w
 unfold tD zy at hK
 simp -implicitDefEqProofs only [Ao.cells,Ai.sv,Sz.sv,Sz.cells,List.cons_append,List.nil_append,List.map_cons,List.map_nil] at a0 a1 a2 a3
 conv in fc _ _ _ _=>reduce
 simp -implicitDefEqProofs only [Ai.sv,Sz.sv,Sz.cells,go_sem,Int.reduceNegSucc]
 have bE:=a0;have y_2:=a1;have bL:=a2;have bN:=a3;repeat' (first | (simp -implicitDefEqProofs only [go_sem,Int.reduceNegSucc]) | (with_reducible refine aF ?_) | (refine ct bE ?_ ?_ ?_;(focus (simp [aS,ag] <;> fail));(focus (simp [aW,aT] <;> fail))) | (refine cK bE ?_ ?_ ?_;(focus (simp [aS,ag] <;> fail));(focus (simp [aW,aT] <;> fail))) | (refine ct y_2 ?_ ?_ ?_;(focus (simp [aS,ag] <;> fail));(focus (simp [aW,aT] <;> fail))) | (refine cK y_2 ?_ ?_ ?_;(focus (simp [aS,ag] <;> fail));(focus (simp [aW,aT] <;> fail))) | (refine ct bL ?_ ?_ ?_;(focus (simp [aS,ag] <;> fail));(focus (simp [aW,aT] <;> fail))) | (refine cK bL ?_ ?_ ?_;(focus (simp [aS,ag] <;> fail));(focus (simp [aW,aT] <;> fail))) | (refine ct bN ?_ ?_ ?_;(focus (simp [aS,ag] <;> fail));(focus (simp [aW,aT] <;> fail))) | (refine cK bN ?_ ?_ ?_;(focus (simp [aS,ag] <;> fail));(focus (simp [aW,aT] <;> fail))) | ((first | refine ak (fun hg=>?_) (fun hg=>?_) | refine aC (fun hg=>?_) (fun hg=>?_) | refine aD (fun hg=>?_) (fun hg=>?_)) <;> try simp -implicitDefEqProofs only [hg,Bool.not_true,Bool.not_false]) | ((with_reducible apply And.intro);focus (first | trivial | omega | decide | (simp -implicitDefEqProofs only [maxLen];omega) | (simp [maxLen,aq,av,ax,aE,aj,ay,aB] <;> omega))) | fail)
 all_goals (refine (hK _ _ ?_).2;clear hK;simp -implicitDefEqProofs only [go_sem,Int.reduceNegSucc,bk,bq,bA,bI,aQ,aO,aN,Ao.cells,nO] <;>(try simp_all [-Int.not_lt,-Int.not_le,aQ,aO,aN,cz,Ao.cells,nO]) <;> try omega)
def rQ (i:Ai):Bool:=bP i.base && bP i.around && bP (aX i.left 0) && bP (aX i.wide 0) && bP (aX i.right 0)
def oB (i:Ai):Option Ao:=if rQ i=true then tD i else none
theorem FY {i:Ai} (h:rQ i=true):Fit i∧bP (aX i.wide 0)=true:=by
 simp -implicitDefEqProofs only [rQ,Bool.and_eq_true] at h
 obtain ⟨⟨⟨⟨a,b⟩,c⟩,d⟩,e⟩:=h
 exact ⟨⟨a,b,c,e⟩,d⟩
theorem NW (i:Ai) (h1:bP i.least=true) (h2:bP i.most=true):aI Go.Proofs.Try.prog 46 [i.sv] [] [] (.aM [.agg ((nO (oB i)).cells.map .rv),.rv (.bool (oB i).isSome)]):=by
 refine bH JN [i.sv] _ (by simp) (by simp [aP,bg,bu,aZ,bn,ai.sv,Ln.sv,Nd.sv]) (fun K hK=>?_)
 have o1:=gL i.left 0
 have o2:=gL i.wide 0
 have o3:=gL i.right 0
 have f1:=fN i.base
 have f2:=fN i.around
 have f3:=fN (aX i.left 0)
 have f4:=fN (aX i.wide 0)
 have f5:=fN (aX i.right 0)
 cases h5:rQ i with
 | true=>
   obtain ⟨hF,hw⟩:=FY h5
   have hb:=NZ i hF hw h1 h2
   rw [hF.b] at f1
   rw [hF.a] at f2
   rw [hF.l] at f3
   rw [hw] at f4
   rw [hF.r] at f5
   simp -implicitDefEqProofs only [oB,h5,if_true] at hK
   simp -implicitDefEqProofs only [Ai.sv,Ai.cells,Sz.sv,Sz.cells,List.map_cons,List.map_nil] at hb o1 o2 o3
   conv in fc _ _ _ _=>reduce
   simp -implicitDefEqProofs only [Ai.sv,Ai.cells,Sz.sv,Sz.cells,go_sem,Int.reduceNegSucc]
   have cc:=o1;have cl:=o2;have cm:=o3;repeat' (first | (simp -implicitDefEqProofs only [go_sem,Int.reduceNegSucc]) | (with_reducible refine aF ?_) | (with_reducible first | refine az cc ?_ | refine aA cc ?_) | (with_reducible first | refine az cl ?_ | refine aA cl ?_) | (with_reducible first | refine az cm ?_ | refine aA cm ?_) | ((first | refine ak (fun hg=>?_) (fun hg=>?_) | refine aC (fun hg=>?_) (fun hg=>?_) | refine aD (fun hg=>?_) (fun hg=>?_)) <;> try simp -implicitDefEqProofs only [hg,Bool.not_true,Bool.not_false]) | ((with_reducible apply And.intro);focus (first | trivial | omega | decide | (simp -implicitDefEqProofs only [maxLen];omega) | (simp [maxLen,aq,av,ax,aE,aj,ay,aB] <;> omega))) | fail)
   refine qf 6 ?_
   have cw:=f1;have cM:=f2;have cT:=f3;have eA:=f4;have gn:=f5;have gp:=hb;repeat' (first | (simp -implicitDefEqProofs only [go_sem,Int.reduceNegSucc,qU,qV,qW,qX,qY,qZ,pQ,Int.reduceLT,decide_true,decide_false,Int.reduceToNat,Nat.reduceMul]) | (with_reducible refine aF ?_) | (with_reducible show G _ _ (It.l _ _::_) _ _ _;refine qe ?_) | (with_reducible first | refine az cw ?_ | refine aA cw ?_) | (with_reducible first | refine az cM ?_ | refine aA cM ?_) | (with_reducible first | refine az cT ?_ | refine aA cT ?_) | (with_reducible first | refine az eA ?_ | refine aA eA ?_) | (with_reducible first | refine az gn ?_ | refine aA gn ?_) | (with_reducible first | refine az gp ?_ | refine aA gp ?_) | ((first | refine ak (fun hg=>?_) (fun hg=>?_) | refine aC (fun hg=>?_) (fun hg=>?_) | refine aD (fun hg=>?_) (fun hg=>?_)) <;> try simp -implicitDefEqProofs only [hg,Bool.not_true,Bool.not_false]) | ((with_reducible apply And.intro);focus (first | trivial | omega | decide | (simp -implicitDefEqProofs only [maxLen];omega) | (simp [maxLen,aq,av,ax,aE,aj,ay,aB] <;> omega))) | fail)
   all_goals (refine (hK _ _ ?_).2;clear hK;simp -implicitDefEqProofs only [go_sem,Int.reduceNegSucc,bk,bq,bA,bI,aQ,aO,aN,Ao.cells] <;>(try simp_all [-Int.not_lt,-Int.not_le,aQ,aO,aN,cz,Ao.cells]) <;> try omega)
 | false=>
   simp -implicitDefEqProofs only [oB,h5,Bool.false_eq_true,if_false] at hK
   simp -implicitDefEqProofs only [Ai.sv,Ai.cells,Sz.sv,Sz.cells,List.map_cons,List.map_nil] at o1 o2 o3
   conv in fc _ _ _ _=>reduce
   simp -implicitDefEqProofs only [Ai.sv,Ai.cells,Sz.sv,Sz.cells,go_sem,Int.reduceNegSucc]
   have gq:=o1;have gu:=o2;have gw:=o3;repeat' (first | (simp -implicitDefEqProofs only [go_sem,Int.reduceNegSucc]) | (with_reducible refine aF ?_) | (with_reducible first | refine az gq ?_ | refine aA gq ?_) | (with_reducible first | refine az gu ?_ | refine aA gu ?_) | (with_reducible first | refine az gw ?_ | refine aA gw ?_) | ((first | refine ak (fun hg=>?_) (fun hg=>?_) | refine aC (fun hg=>?_) (fun hg=>?_) | refine aD (fun hg=>?_) (fun hg=>?_)) <;> try simp -implicitDefEqProofs only [hg,Bool.not_true,Bool.not_false]) | ((with_reducible apply And.intro);focus (first | trivial | omega | decide | (simp -implicitDefEqProofs only [maxLen];omega) | (simp [maxLen,aq,av,ax,aE,aj,ay,aB] <;> omega))) | fail)
   refine qf 6 ?_
   have gx:=f1;have gz:=f2;have tv:=f3;have tw:=f4;have tC:=f5;repeat' (first | (simp -implicitDefEqProofs only [go_sem,Int.reduceNegSucc,qU,qV,qW,qX,qY,qZ,pQ,Int.reduceLT,decide_true,decide_false,Int.reduceToNat,Nat.reduceMul]) | (with_reducible refine aF ?_) | (with_reducible show G _ _ (It.l _ _::_) _ _ _;refine qe ?_) | (with_reducible first | refine az gx ?_ | refine aA gx ?_) | (with_reducible first | refine az gz ?_ | refine aA gz ?_) | (with_reducible first | refine az tv ?_ | refine aA tv ?_) | (with_reducible first | refine az tw ?_ | refine aA tw ?_) | (with_reducible first | refine az tC ?_ | refine aA tC ?_) | ((first | refine ak (fun hg=>?_) (fun hg=>?_) | refine aC (fun hg=>?_) (fun hg=>?_) | refine aD (fun hg=>?_) (fun hg=>?_)) <;> try simp -implicitDefEqProofs only [hg,Bool.not_true,Bool.not_false]) | ((with_reducible apply And.intro);focus (first | trivial | omega | decide | (simp -implicitDefEqProofs only [maxLen];omega) | (simp [maxLen,aq,av,ax,aE,aj,ay,aB] <;> omega))) | fail)
   all_goals first | (exfalso;simp_all [rQ];done) | skip
   all_goals (refine (hK _ _ ?_).2;clear hK;simp -implicitDefEqProofs only [go_sem,Int.reduceNegSucc,bk,bq,bA,bI,aQ,aO,aN,Ao.cells,nO] <;>(try simp_all [-Int.not_lt,-Int.not_le,aQ,aO,aN,cz,Ao.cells,nO]) <;> try omega)
end Go.aG

namespace Go.aG
open Go
theorem Kt:aV Go.Proofs.Try.prog 77 132 (fc Go.Proofs.Try.prog 77 132 [(.t 4)]) [(.t 4)]:=bh (by kernel_rfl)
theorem Ku:aV Go.Proofs.Try.prog 51 23 (fc Go.Proofs.Try.prog 51 23 [(.c 4 7 true),(.t 5)]) [(.c 4 7 true),(.t 5)]:=bh (by kernel_rfl)
structure Ch where
 top:Su
 bottom:Su
 inner:Su
 through:Bool
 high:Int
 deriving Inhabited,DecidableEq
def Ch.cells (c:Ch):List RV:=[.int .i64 c.top.p,.int .i64 c.top.n,.int .i64 c.bottom.p,.int .i64 c.bottom.n,.int .i64 c.inner.p,.int .i64 c.inner.n,.bool c.through,.int .i64 c.high]
structure Pl where
 kY:Int
 top:Su
 cur:Su
 mD:Bool
 deriving Inhabited,DecidableEq
def Pl.cells (p:Pl):List RV:=[.int .i64 p.kY,.int .i64 p.top.p,.int .i64 p.top.n,.int .i64 p.cur.p,.int .i64 p.cur.n,.bool p.mD]
def eR (l:List Ch):List (List RV):=l.map Ch.cells
theorem rF (l:List Ch):(eR l).length=l.length:=by simp [eR]
theorem Fo {l:List Ch} {i:Nat} (h:i<l.length):(eR l)[i]?.getD []=(l[i]'h).cells:=by simp [eR,h]
def nq (c:Ch):Su:=if c.through=true then c.inner else c.top
def mX (p:Pl) (c:Ch):Int:=if p.mD=true then 0 else dy [p.kY,nc (eU p.cur (nq c))]
def qG (p:Pl) (c:Ch):Pl:=
 if p.mD=true then (if c.through=true then { p with top:=eU p.top c.top } else ⟨c.high,eU p.top c.top,c.bottom,false⟩)
 else if c.through=true then { p with cur:=eU p.cur c.top } else { p with kY:=dy [mX p c,c.high],cur:=c.bottom }
def vN (p:Pl) (c:Ch):Bool:=
 if p.mD=true then bP (qG p c).kY
 else qT (eU p.cur (nq c)) && dx [p.kY,nc (eU p.cur (nq c))] && (c.through || dx [mX p c,c.high])
def mA (m:Nat) (p:Pl) (ys:List Int):HB:=.var (.row m ys.length ys.length::p.cells.map .rv)
def gA (ys:List Int):HB:=.row 1 ys.length (aH (aJ ys))
theorem Ou (p:Pl) (c:Ch) (j m:Nat) (sg:j≠m) (ys:List Int) (hy:ys.length≤1000000):aI Go.Proofs.Try.prog 77 [.ptr j 0,.agg (c.cells.map .rv)] [(j,mA m p ys),(m,gA ys)]
 [(j,mA m (qG p c) (ys++[mX p c])),(m,gA (ys++[mX p c]))] (.rv (.bool (vN p c))):=by
 refine gR Kt [j,m] [mA 1 p ys,gA ys] [mA m p ys,gA ys] [.ptr 0 0,.agg (c.cells.map .rv)] [.ptr j 0,.agg (c.cells.map .rv)] _ _ (by simp) (by simp [aP,fH,bg,bu]) rfl (by simp [bG,sg]) (by simp [cU,mA,gA,ig,aP,aZ,fA,bu]) (fun K hK=>?_)
 have j1:=qO p.top c.top
 have j2:=qO p.cur (nq c)
 have j3:=qO p.cur c.top
 have v1:=zp (eU p.cur (nq c))
 have s1:=fun id=>pH id [p.kY,nc (eU p.cur (nq c))] (by simp)
 have s2:=fun id=>pH id [dy [p.kY,nc (eU p.cur (nq c))],c.high] (by simp)
 have f1:=fN p.kY
 have f2:=fN c.high
 have hl:=aj ys
 have oU:(aJ ys).take ys.length=aJ ys:=List.take_of_length_le (by omega)
 have ve:∀ y:Int,(ys++[y]).length=ys.length+1:=fun y=>by simp
 simp -implicitDefEqProofs only [mA,gA,Pl.cells,qG,mX,vN,ve] at hK
 simp -implicitDefEqProofs only [gZ,Su.sv,Su.cells,List.map_cons,List.map_nil,List.length_cons,List.length_nil,Nat.reduceAdd] at j1 j2 j3 v1 s1 s2
 conv in fc _ _ _ _=>reduce
 simp -implicitDefEqProofs only [mA,gA,Pl.cells,Ch.cells,go_sem,Int.reduceNegSucc]
 cases ha:p.mD <;> cases ht:c.through <;> simp -implicitDefEqProofs only [ha,ht,nq,Bool.false_eq_true,if_true,if_false,Bool.false_or,Bool.true_or,Bool.and_true] at hK j1 j2 j3 v1 s1 s2 ⊢
 all_goals ((have bE:=j1;have y_2:=j2;have bL:=j3;have bN:=v1;have cc:=s1;have cl:=s2;have cm:=f1;have cw:=f2;repeat' (first | (simp -implicitDefEqProofs only [go_sem,Int.reduceNegSucc,hl,oU,vW]) | (with_reducible refine aF ?_) | (with_reducible first | refine az bE ?_ | refine aA bE ?_) | (with_reducible first | refine az y_2 ?_ | refine aA y_2 ?_) | (with_reducible first | refine az bL ?_ | refine aA bL ?_) | (with_reducible first | refine az bN ?_ | refine aA bN ?_) | ((first | refine ct (cc _) ?_ ?_ ?_ | refine cK (cc _) ?_ ?_ ?_ | fail);(focus (simp [aS,ag] <;> fail));(focus (simp [aW,aT] <;> fail))) | ((first | refine ct (cl _) ?_ ?_ ?_ | refine cK (cl _) ?_ ?_ ?_ | fail);(focus (simp [aS,ag] <;> fail));(focus (simp [aW,aT] <;> fail))) | (with_reducible first | refine az cm ?_ | refine aA cm ?_) | (with_reducible first | refine az cw ?_ | refine aA cw ?_) | ((first | refine ak (fun hg=>?_) (fun hg=>?_) | refine aC (fun hg=>?_) (fun hg=>?_) | refine aD (fun hg=>?_) (fun hg=>?_)) <;> try simp -implicitDefEqProofs only [hg,Bool.not_true,Bool.not_false]) | ((with_reducible apply And.intro);focus (first | trivial | omega | decide | (simp -implicitDefEqProofs only [maxLen];omega) | (simp [maxLen,aq,av,ax,aE,aj,ay,aB] <;> omega))) | fail)))
 all_goals (refine (hK _ _ _ _ [] (cW _ _) ?_).2;clear hK j1 j2 j3 v1 s1 s2 f1 f2;simp [dh,bG,newL,dn,cY,bq,bk,lk,bA,cB,cL,cE,dH,dG,ag,di,bI,aO,cO,dj,dU,aQ,dS,aN,cP,cG,sg,Ne.symm sg] <;> simp_all)
def pI:List Ch→Pl→List Int→Option (Pl×List Int)
 | [],p,ys=>some (p,ys)
 | c::l,p,ys=>if vN p c=true then pI l (qG p c) (ys++[mX p c]) else none
def lP (l:List Ch) (o:Bool):Option (Pl×List Int):=pI l ⟨0,⟨0,0⟩,⟨0,0⟩,o⟩ []
def pz (m:Nat):Option (Pl×List Int)→U
 | some q=>.agg (.row m q.2.length q.2.length::q.1.cells.map .rv)
 | none=>.agg [.rv .bO,.rv (.int .i64 0),.rv (.int .i64 0),.rv (.int .i64 0),.rv (.int .i64 0),.rv (.int .i64 0),.rv (.bool false)]
def nT (m:Nat):Option (Pl×List Int)→List (Nat×HB)
 | some q=>[(m,gA q.2)]
 | none=>[]
theorem NS (l:List Ch) (o:Bool) (hb:l.length≤1000000) (m:Nat):aI Go.Proofs.Try.prog 51 [.rv (.sl 8 (eR l)),.rv (.bool o)] [] (nT m (lP l o)) (.aM [pz m (lP l o),.rv (.bool (lP l o).isSome)]):=by
 refine gR Ku [] [] [] [.rv (.sl 8 (eR l)),.rv (.bool o)] [.rv (.sl 8 (eR l)),.rv (.bool o)] _ _ (by simp) (by simp [aP,aZ]) rfl (by simp [bG]) (by simp [cU]) (fun K hK=>?_)
 have hl:=rF l
 conv in fc _ _ _ _=>reduce
 simp -implicitDefEqProofs only [go_sem,Int.reduceNegSucc]
 repeat' (first | (simp -implicitDefEqProofs only [go_sem,Int.reduceNegSucc,hl]) | (with_reducible refine aF ?_) | ((first | refine ak (fun hg=>?_) (fun hg=>?_) | refine aC (fun hg=>?_) (fun hg=>?_) | refine aD (fun hg=>?_) (fun hg=>?_)) <;> try simp -implicitDefEqProofs only [hg,Bool.not_true,Bool.not_false]) | ((with_reducible apply And.intro);focus (first | trivial | omega | decide | (simp -implicitDefEqProofs only [maxLen];omega) | (simp [maxLen,aq,av,ax,aE,aj,ay,aB] <;> omega))) | fail)
 refine dN (ι:=Nat×Pl×List Int) (fun q=>[(13,.rv (.int .i64 q.1)),(12,.rv (.int .i64 l.length)),(11,.rv (.sl 8 (eR l))),(6,.ptr 1 0),(4,.ptr 0 0)]) (fun q=>[some (.var [.rv .bO,.rv (.int .i64 0),.rv (.int .i64 0),.rv (.int .i64 0),.rv (.int .i64 0),.rv (.int .i64 0),.rv (.bool false)]),some (mA 2 q.2.1 q.2.2),some (gA q.2.2)])
  (fun q=>q.1≤l.length∧q.2.2.length=q.1∧pI (l.drop q.1) q.2.1 q.2.2=lP l o) (fun q=>l.length - q.1) (0,⟨0,⟨0,0⟩,⟨0,0⟩,o⟩,[]) ⟨Nat.zero_le _,rfl,rfl⟩ ((AB 1 1 0 rfl rfl).trans (bV (by simp [lk,aT]))) (fun q hq K' hN hX hR=>?_)
 obtain ⟨k,p,ys⟩:=q
 obtain ⟨de,hk2,fI⟩:=hq
 dsimp only at de hk2 fI ⊢
 simp -implicitDefEqProofs only [go_sem,Int.reduceNegSucc]
 refine ak (fun hg=>?_) (fun hg=>?_)
 ·have aK:k<l.length:=by simp at hg;omega
  have wu:=cQ (k:=k) (by omega)
  have hx:=Fo aK
  have hp:=Ou p l[k] 1 2 (by decide) ys (by omega)
  rw [List.drop_eq_getElem_cons aK,pI] at fI
  generalize l[k]=c at *
  have q1:(c.cells.map U.rv).take 8=c.cells.map U.rv:=rfl
  have q2:c.cells.take 8=c.cells:=rfl
  have q3:(c.cells.map U.rv).length=8:=rfl
  have q4:(c.cells.map U.rv).drop 8=[]:=rfl
  have q5:c.cells.length=8:=rfl
  cases hok:vN p c with
  | true=>
    rw [hok] at hp
    rw [if_pos hok] at fI
    have cM:=hp;repeat' (first | (simp -implicitDefEqProofs only [go_sem,Int.reduceNegSucc,hl,hx,q1,q2,q3,q4,q5,wu]) | (with_reducible refine aF ?_) | (refine ct cM ?_ ?_ ?_;(focus (simp [aS,ag] <;> fail));(focus (simp [aW,aT] <;> fail))) | (refine cK cM ?_ ?_ ?_;(focus (simp [aS,ag] <;> fail));(focus (simp [aW,aT] <;> fail))) | ((first | refine ak (fun hg=>?_) (fun hg=>?_) | refine aC (fun hg=>?_) (fun hg=>?_) | refine aD (fun hg=>?_) (fun hg=>?_)) <;> try simp -implicitDefEqProofs only [hg,Bool.not_true,Bool.not_false]) | ((with_reducible apply And.intro);focus (first | trivial | omega | decide | (simp -implicitDefEqProofs only [maxLen];omega) | (simp [maxLen,aq,av,ax,aE,aj,ay,aB] <;> omega))) | fail)
    exact hN (k+1,qG p c,ys++[mX p c]) _ _ ⟨by dsimp only;omega,by simp [hk2],fI⟩ (by dsimp only;omega) (uy (h':=[some (.var [.rv .bO,.rv (.int .i64 0),.rv (.int .i64 0),.rv (.int .i64 0),.rv (.int .i64 0),.rv (.int .i64 0),.rv (.bool false)]),some (mA 2 (qG p c) (ys++[mX p c])),some (gA (ys++[mX p c]))]) (Nat.zero_le _) ⟨gD (rs:=[.bO,.int .i64 0,.int .i64 0,.int .i64 0,.int .i64 0,.int .i64 0,.bool false]),⟨nt.2 (by simp),gD⟩,lX,trivial⟩ (by simp [fP,lk,oF,oE]))
  | false=>
    rw [hok] at hp
    rw [if_neg (by rw [hok];simp)] at fI
    have cT:=hp;repeat' (first | (simp -implicitDefEqProofs only [go_sem,Int.reduceNegSucc,hl,hx,q1,q2,q3,q4,q5,wu]) | (with_reducible refine aF ?_) | (refine ct cT ?_ ?_ ?_;(focus (simp [aS,ag] <;> fail));(focus (simp [aW,aT] <;> fail))) | (refine cK cT ?_ ?_ ?_;(focus (simp [aS,ag] <;> fail));(focus (simp [aW,aT] <;> fail))) | ((first | refine ak (fun hg=>?_) (fun hg=>?_) | refine aC (fun hg=>?_) (fun hg=>?_) | refine aD (fun hg=>?_) (fun hg=>?_)) <;> try simp -implicitDefEqProofs only [hg,Bool.not_true,Bool.not_false]) | ((with_reducible apply And.intro);focus (first | trivial | omega | decide | (simp -implicitDefEqProofs only [maxLen];omega) | (simp [maxLen,aq,av,ax,aE,aj,ay,aB] <;> omega))) | fail)
    refine hR _ _ (hK _ _ _ _ [] (cW _ _) ?_).2
    rw [← fI]
    simp [dh,bG,newL,dn,cY,bq,bk,lk,bA,cB,cL,cE,dH,dG,ag,di,bI,aO,cO,dj,dU,aQ,dS,aN,cP,cG,dD,pz,nT,Pl.cells,aQ,aN]
 ·have aK:k=l.length:=by simp at hg;omega
  subst aK
  simp -implicitDefEqProofs only [go_sem,Int.reduceNegSucc]
  refine hX _ _ _ ?_
  rw [List.drop_length,pI] at fI
  simp -implicitDefEqProofs only [mA,gA,Pl.cells,go_sem,Int.reduceNegSucc]
  repeat' (first | (simp -implicitDefEqProofs only [go_sem,Int.reduceNegSucc]) | (with_reducible refine aF ?_) | ((first | refine ak (fun hg=>?_) (fun hg=>?_) | refine aC (fun hg=>?_) (fun hg=>?_) | refine aD (fun hg=>?_) (fun hg=>?_)) <;> try simp -implicitDefEqProofs only [hg,Bool.not_true,Bool.not_false]) | ((with_reducible apply And.intro);focus (first | trivial | omega | decide | (simp -implicitDefEqProofs only [maxLen];omega) | (simp [maxLen,aq,av,ax,aE,aj,ay,aB] <;> omega))) | fail)
  refine (hK _ _ _ _ [none,none,some m] (cW _ _) ?_).2
  rw [← fI]
  simp [dh,bG,newL,dn,cY,bq,bk,lk,bA,cB,cL,cE,dH,dG,ag,di,bI,aO,cO,dj,dU,aQ,dS,aN,cP,cG,dD,pz,nT,Pl.cells,gA,aQ,aN]
theorem AN {cs:List U} (h:∀ y∈cs,dm y):dm (.agg cs):=.agg _ fun j y hy=>h y (List.mem_of_getElem? hy)
theorem FZ {cs:List U} (h:∀ y∈cs,dm y):dm (.aM cs):=.aM _ fun j y hy=>h y (List.mem_of_getElem? hy)
theorem MG (p:Pl):∀ r∈p.cells,ec r:=by
 intro r hr
 simp -implicitDefEqProofs only [Pl.cells,List.mem_cons,List.not_mem_nil,or_false] at hr
 rcases hr with rfl | rfl | rfl | rfl | rfl | rfl <;> first | exact .int _ _ | exact .bool _
theorem Ph (ys:List Int):lT (gA ys):=.row _ _ _ fun i x j y hx hy=>by
 simp -implicitDefEqProofs only [aH,List.getElem?_map,Option.map_eq_some_iff,aJ] at hx
 obtain ⟨a,⟨b,_,rfl⟩,rfl⟩:=hx
 cases j with
 | zero=>simp at hy;subst hy;exact .rv _ (.int _ _)
 | succ j=>simp at hy
theorem MF (m:Nat) (o:Option (Pl×List Int)):dm (pz m o):=by
 cases o with
 | none=>
   refine AN fun y hy=>?_
   simp -implicitDefEqProofs only [List.mem_cons,List.not_mem_nil,or_false] at hy
   rcases hy with rfl | rfl | rfl | rfl | rfl | rfl | rfl <;> exact .rv _ (by constructor)
 | some q=>
   refine AN fun y hy=>?_
   rcases List.mem_cons.1 hy with rfl | hy
   ·exact .row _ _ _
   ·obtain ⟨r,hr,rfl⟩:=List.mem_map.1 hy
    exact .rv _ (MG _ r hr)
theorem NT (l:List Ch) (o:Bool) (hb:l.length≤1000000) (j v m:Nat) (sg:j≠m):aI Go.Proofs.Try.prog 51 [.row j v l.length,.rv (.bool o)] [(j,.row 8 v (aH (eR l)))] (nT m (lP l o)) (.aM [pz m (lP l o),.rv (.bool (lP l o).isSome)]):=by
 refine wO (dV:=[.rv (.sl 8 (eR l)),.rv (.bool o)]) (NS l o hb m) rfl (fun hp hpre k y r hy hr=>?_) (FZ fun y hy=>?_) (fun q hq=>?_)
 ·match k with
  | 0=>
    cases hy;cases hr
    have:=mK (h:=hp) (τ:=fun _=>none) (j:=j) (e:=8) (af:=v) (len:=l.length) (xs:=eR l) (hpre _ (.head _)) rfl (by rw [rF];omega) (fun x hx r hr=>by
     obtain ⟨c,_,rfl⟩:=List.mem_map.1 hx
     simp -implicitDefEqProofs only [Ch.cells,List.mem_cons,List.not_mem_nil,or_false] at hr
     rcases hr with rfl | rfl | rfl | rfl | rfl | rfl | rfl | rfl <;> rfl)
    rw [List.take_of_length_le (by rw [rF];omega)] at this
    exact .fz _ _ this
  | 1=>cases hy;cases hr;exact aO.2 rfl
  | k+2=>simp at hy
 ·simp -implicitDefEqProofs only [List.mem_cons,List.not_mem_nil,or_false] at hy
  rcases hy with rfl | rfl
  ·exact MF _ _
  ·exact .rv _ (.bool _)
 ·revert hq
  cases lP l o with
  | none=>simp [nT]
  | some z=>
    simp -implicitDefEqProofs only [nT,List.mem_singleton]
    rintro rfl
    refine ⟨Ph _,fun p hp=>?_⟩
    subst hp
    exact sg
end Go.aG

namespace Go.aG
open Go
theorem Kf:aV Go.Proofs.Try.prog 87 28 (fc Go.Proofs.Try.prog 87 28 [(.t 6)]) [(.t 6)]:=bh (by kernel_rfl)
theorem Ke:aV Go.Proofs.Try.prog 69 59 (fc Go.Proofs.Try.prog 69 59 [(.c 8 8 true)]) [(.c 8 8 true)]:=bh (by kernel_rfl)
abbrev Ed.sv (e:Ed):U:=.agg (e.cells.map .rv)
def mC (e:Ed):List Int:=[e.bR.d,e.pad.d.n,e.pad.b.n,e.bR.b]
def fS (e:Ed):List Int:=[e.bR.a,e.pad.a.n,e.pad.c.n,e.bR.c]
theorem NY (e:Ed):aI Go.Proofs.Try.prog 42 [e.sv,.rv (.int .i64 3),.rv (.int .i64 1)] [] [] (.aM [.rv (.int .i64 (dy (mC e))),.rv (.bool (dx (mC e)))]):=by
 refine bH Cd [e.sv,.rv (.int .i64 3),.rv (.int .i64 1)] _ (by simp) (by simp [aP,bg,bu,aZ,bn,ai.sv,Ln.sv,Nd.sv]) (fun K hK=>?_)
 have h:=fun id=>pH id (mC e) (by simp [mC])
 simp -implicitDefEqProofs only [gZ,mC,List.map_cons,List.map_nil,List.length_cons,List.length_nil,Nat.reduceAdd] at h hK
 conv in fc _ _ _ _=>reduce
 simp -implicitDefEqProofs only [Ed.sv,Ed.cells,Q4.eL,Q4.ints,go_sem,Int.reduceNegSucc]
 have bE:=h;repeat' (first | (simp -implicitDefEqProofs only [go_sem,Int.reduceNegSucc]) | (with_reducible refine aF ?_) | ((first | refine ct (bE _) ?_ ?_ ?_ | refine cK (bE _) ?_ ?_ ?_ | fail);(focus (simp [aS,ag] <;> fail));(focus (simp [aW,aT] <;> fail))) | ((first | refine ak (fun hg=>?_) (fun hg=>?_) | refine aC (fun hg=>?_) (fun hg=>?_) | refine aD (fun hg=>?_) (fun hg=>?_)) <;> try simp -implicitDefEqProofs only [hg,Bool.not_true,Bool.not_false]) | ((with_reducible apply And.intro);focus (first | trivial | omega | decide | (simp -implicitDefEqProofs only [maxLen];omega) | (simp [maxLen,aq,av,ax,aE,aj,ay,aB] <;> omega))) | fail)
 exact (hK _ _ (eK rfl rfl)).2
theorem NX (e:Ed):aI Go.Proofs.Try.prog 42 [e.sv,.rv (.int .i64 0),.rv (.int .i64 2)] [] [] (.aM [.rv (.int .i64 (dy (fS e))),.rv (.bool (dx (fS e)))]):=by
 refine bH Cd [e.sv,.rv (.int .i64 0),.rv (.int .i64 2)] _ (by simp) (by simp [aP,bg,bu,aZ,bn,ai.sv,Ln.sv,Nd.sv]) (fun K hK=>?_)
 have h:=fun id=>pH id (fS e) (by simp [fS])
 simp -implicitDefEqProofs only [gZ,fS,List.map_cons,List.map_nil,List.length_cons,List.length_nil,Nat.reduceAdd] at h hK
 conv in fc _ _ _ _=>reduce
 simp -implicitDefEqProofs only [Ed.sv,Ed.cells,Q4.eL,Q4.ints,go_sem,Int.reduceNegSucc]
 have y_2:=h;repeat' (first | (simp -implicitDefEqProofs only [go_sem,Int.reduceNegSucc]) | (with_reducible refine aF ?_) | ((first | refine ct (y_2 _) ?_ ?_ ?_ | refine cK (y_2 _) ?_ ?_ ?_ | fail);(focus (simp [aS,ag] <;> fail));(focus (simp [aW,aT] <;> fail))) | ((first | refine ak (fun hg=>?_) (fun hg=>?_) | refine aC (fun hg=>?_) (fun hg=>?_) | refine aD (fun hg=>?_) (fun hg=>?_)) <;> try simp -implicitDefEqProofs only [hg,Bool.not_true,Bool.not_false]) | ((with_reducible apply And.intro);focus (first | trivial | omega | decide | (simp -implicitDefEqProofs only [maxLen];omega) | (simp [maxLen,aq,av,ax,aE,aj,ay,aB] <;> omega))) | fail)
 exact (hK _ _ (eK rfl rfl)).2
def wg (e:Ed) (kids:Nat) (p:Pl):Bool:=e.flat && if kids=0 then e.high.auto || (e.high.n == 0) else e.high.auto && p.mD
def nS (y:RV) (p:Pl):List RV:=y::p.cells
theorem Oy (e:Ed) (kids:Nat) (y:RV) (p:Pl):aI Go.Proofs.Try.prog 87 [e.sv,.rv (.int .i64 kids),.agg ((nS y p).map .rv)] [] [] (.rv (.bool (wg e kids p))):=by
 refine bH Kf [e.sv,.rv (.int .i64 kids),.agg ((nS y p).map .rv)] _ (by simp) (by simp [aP,bg,bu,aZ,bn,ai.sv,Ln.sv,Nd.sv]) (fun K hK=>?_)
 have hk:((kids:Int) == 0)=decide (kids=0):=by rw [Bool.eq_iff_iff];simp
 simp -implicitDefEqProofs only [wg] at hK
 conv in fc _ _ _ _=>reduce
 simp -implicitDefEqProofs only [Ed.sv,Ed.cells,nS,Pl.cells,Q4.eL,Q4.ints,go_sem,Int.reduceNegSucc]
 by_cases h0:kids=0 <;> simp -implicitDefEqProofs only [h0,decide_true,decide_false] at hk
 all_goals ((repeat' (first | (simp -implicitDefEqProofs only [go_sem,Int.reduceNegSucc,hk]) | (with_reducible refine aF ?_) | ((first | refine ak (fun hg=>?_) (fun hg=>?_) | refine aC (fun hg=>?_) (fun hg=>?_) | refine aD (fun hg=>?_) (fun hg=>?_)) <;> try simp -implicitDefEqProofs only [hg,Bool.not_true,Bool.not_false]) | ((with_reducible apply And.intro);focus (first | trivial | omega | decide | (simp -implicitDefEqProofs only [maxLen];omega) | (simp [maxLen,aq,av,ax,aE,aj,ay,aB] <;> omega))) | fail)))
 all_goals (refine (hK _ _ (cC ?_)).2;clear hK;simp_all [lk])
def ue (e:Ed) (kids:Nat) (p:Pl) (high:Int):Ch:=
 let b:Su:=⟨max (aX e.bC.c 0) 0,min (aX e.bC.c 0) 0⟩
 let i:=eU ⟨max (aX e.bC.a 0) 0,min (aX e.bC.a 0) 0⟩ p.top
 if wg e kids p=true then ⟨eU i b,eU i b,i,true,high⟩
 else ⟨i,if e.mz=true∧0<kids then eU b p.cur else b,i,false,high⟩
theorem Ob (e:Ed) (kids:Nat) (y:RV) (p:Pl) (high:Int):aI Go.Proofs.Try.prog 69 [e.sv,.rv (.int .i64 kids),.agg ((nS y p).map .rv),.rv (.int .i64 high)] [] [] (.agg ((ue e kids p high).cells.map .rv)):=by
 refine bH Ke [e.sv,.rv (.int .i64 kids),.agg ((nS y p).map .rv),.rv (.int .i64 high)] _ (by simp) (by simp [aP,bg,bu,aZ,bn,ai.sv,Ln.sv,Nd.sv]) (fun K hK=>?_)
 have o1:=gL e.bC.a 0
 have o2:=gL e.bC.c 0
 have s1:=DG (aX e.bC.a 0)
 have s2:=DG (aX e.bC.c 0)
 have ht:=Oy e kids y p
 simp -implicitDefEqProofs only [ue] at hK
 generalize (⟨max (aX e.bC.a 0) 0,min (aX e.bC.a 0) 0⟩:Su)=A at *
 generalize (⟨max (aX e.bC.c 0) 0,min (aX e.bC.c 0) 0⟩:Su)=B at *
 have j1:=qO A p.top
 have j2:=qO (eU A p.top) B
 have j3:=qO B p.cur
 have hk:decide ((kids:Int)>0)=decide (0<kids):=by simp
 generalize wg e kids p=T at *
 generalize eU A p.top=I at *
 simp -implicitDefEqProofs only [Ed.sv,Ed.cells,nS,Pl.cells,Q4.eL,Q4.ints,Su.sv,Su.cells,Sz.sv,Sz.cells,List.map_cons,List.map_nil,List.cons_append,List.nil_append] at o1 o2 s1 s2 ht j1 j2 j3
 conv in fc _ _ _ _=>reduce
 simp -implicitDefEqProofs only [Ed.sv,Ed.cells,nS,Pl.cells,Q4.eL,Q4.ints,go_sem,Int.reduceNegSucc]
 cases T <;> simp -implicitDefEqProofs only [Bool.false_eq_true,if_true,if_false] at hK ⊢
 all_goals ((have bL:=o1;have bN:=o2;have cc:=s1;have cl:=s2;have cm:=ht;have cw:=j1;have cM:=j2;have cT:=j3;repeat' (first | (simp -implicitDefEqProofs only [go_sem,Int.reduceNegSucc,hk]) | (with_reducible refine aF ?_) | (with_reducible first | refine az bL ?_ | refine aA bL ?_) | (with_reducible first | refine az bN ?_ | refine aA bN ?_) | (with_reducible first | refine az cc ?_ | refine aA cc ?_) | (with_reducible first | refine az cl ?_ | refine aA cl ?_) | (with_reducible first | refine az cm ?_ | refine aA cm ?_) | (with_reducible first | refine az cw ?_ | refine aA cw ?_) | (with_reducible first | refine az cM ?_ | refine aA cM ?_) | (with_reducible first | refine az cT ?_ | refine aA cT ?_) | ((first | refine ak (fun hg=>?_) (fun hg=>?_) | refine aC (fun hg=>?_) (fun hg=>?_) | refine aD (fun hg=>?_) (fun hg=>?_)) <;> try simp -implicitDefEqProofs only [hg,Bool.not_true,Bool.not_false]) | ((with_reducible apply And.intro);focus (first | trivial | omega | decide | (simp -implicitDefEqProofs only [maxLen];omega) | (simp [maxLen,aq,av,ax,aE,aj,ay,aB] <;> omega))) | fail)))
 all_goals (refine (hK _ _ ?_).2;clear hK;simp -implicitDefEqProofs only [go_sem,Int.reduceNegSucc,bk,bq,bA,bI,aQ,aO,aN,Ch.cells] <;>(try simp_all [-Int.not_lt,-Int.not_le,aQ,aO,aN,cz,Ch.cells]) <;> try omega)
end Go.aG

namespace Go.aG
open Go
theorem Kg:aV Go.Proofs.Try.prog 47 130 (fc Go.Proofs.Try.prog 47 130 [(.c 8 25 true),(.c 9 9 true),(.t 10)]) [(.c 8 25 true),(.c 9 9 true),(.t 10)]:=bh (by kernel_rfl)
theorem Kc:aV Go.Proofs.Try.prog 26 116 (fc Go.Proofs.Try.prog 26 116 [(.c 10 25 true),(.c 11 9 true),(.t 12)]) [(.c 10 25 true),(.c 11 9 true),(.t 12)]:=bh (by kernel_rfl)
structure Fm where
 x:Int
 y:Int
 w:Int
 h:Int
 bC:Q4 Int
 pad:Q4 Int
 bR:Q4 Int
 known:Bool
 child:Ch
 deriving DecidableEq,Inhabited
def Fm.cells (f:Fm):List RV:=[.int .i64 f.x,.int .i64 f.y,.int .i64 f.w,.int .i64 f.h]++f.bC.ints++f.pad.ints++f.bR.ints++(.bool f.known::f.child.cells)
structure La where
 L:List (Nat×Fm)
 p:Pl
 ys:List Int
 high:Int
 deriving DecidableEq,Inhabited
def eJ (q:Nat×Fm):List RV:=.int .i64 q.1::q.2.cells
def dg (L:List (Nat×Fm)):List (List RV):=L.map eJ
def cF:Option La→List RV
 | some t=>.sl 26 (dg t.L) :: .sl 1 (aJ t.ys)::(t.p.cells++[.int .i64 t.high])
 | none=>[.bO,.bO,.int .i64 0,.int .i64 0,.int .i64 0,.int .i64 0,.int .i64 0,.bool false,.int .i64 0]
def cX:Option Fm→List RV
 | some f=>f.cells
 | none=>[.int .i64 0,.int .i64 0,.int .i64 0,.int .i64 0,.int .i64 0,.int .i64 0,.int .i64 0,.int .i64 0,.int .i64 0,.int .i64 0,.int .i64 0,.int .i64 0,.int .i64 0,.int .i64 0,.int .i64 0,.int .i64 0,.bool false,.int .i64 0,.int .i64 0,.int .i64 0,.int .i64 0,.int .i64 0,.int .i64 0,.bool false,.int .i64 0]
abbrev nk (r:Option (Fm×La)):U:=.aM [.agg ((cX (r.map (·.1))).map .rv),.agg ((cF (r.map (·.2))).map .rv),.rv (.bool r.isSome)]
def nG (e:Ed):Sz:=if e.high.auto=true then e.high else ⟨false,ug e.high.n e.least e.most⟩
def nF (e:Ed) (t:La):Int:=if e.high.auto=true then ug t.high e.least e.most else ug e.high.n e.least e.most
def uL (e:Ed) (x:Ao) (kids:Nat) (t:La):Fm:=
 ⟨x.l,0,x.w,nF e t,⟨aX e.bC.a 0,x.r,aX e.bC.c 0,x.l⟩,⟨e.pad.a.n,e.pad.b.n,e.pad.c.n,e.pad.d.n⟩,e.bR,!e.high.auto,ue e kids t.p (dy [dy (fS e),nF e t])⟩
def qb (e:Ed) (x:Ao) (kids:Nat) (r:Option La×Bool):Option (Fm×La):=if r.2=true then r.1.bind fun t=>if dx (fS e)=true∧dx [dy (fS e),nF e t]=true then some (uL e x kids t,t) else none else none
theorem Oe (l:List Nd) (hb:l.length≤8589934592) (n:Int) (e:Ed) (x:Ao) (r:Option La×Bool) (hr:r.2=true→r.1.isSome=true)
 (hI:aI Go.Proofs.Try.prog 28 [.rv (bM l),.rv (.int .i64 n),.rv (.int .i64 x.w),(nG e).sv,e.sv,.rv (.int .i64 (-1))] [] [] (.aM [.agg ((cF r.1).map .rv),.rv (.bool r.2)])) :
 aI Go.Proofs.Try.prog 47 [.rv (bM l),.rv (.int .i64 n),e.sv,.agg (x.cells.map .rv)] [] [] (nk (qb e x (bl l n).length r)):=by
 refine bH Kg [.rv (bM l),.rv (.int .i64 n),e.sv,.agg (x.cells.map .rv)] _ (by simp) (by simp [aP,bg,bu,aZ,bn,ai.sv,Ln.sv,Nd.sv]) (fun K hK=>?_)
 obtain ⟨o,ok⟩:=r
 have hc:=Dz e.high.n e.least e.most
 have hf:=Dt l n hb
 have hfl:=yG (bl l n)
 have o1:=gL e.bC.a 0
 have o2:=gL e.bC.c 0
 have ha:=NX e
 cases ok with
 | false=>
   have e1:qb e x (bl l n).length (o,false)=none:=rfl
   rw [e1] at hK
   obtain ⟨u,hu,lz⟩:∃ u,cF o=u∧u.length=9:=⟨_,rfl,by cases o <;> rfl⟩
   rw [hu] at hI
   have q1:(u.map U.rv).length=9:=by simp [lz]
   have q2:(u.map U.rv).drop 9=[]:=List.drop_of_length_le (by omega)
   have q3:(u.map U.rv).take 9=u.map U.rv:=List.take_of_length_le (by omega)
   simp -implicitDefEqProofs only [nG] at hI
   simp -implicitDefEqProofs only [Ed.sv,Ed.cells,Q4.eL,Q4.ints,Sz.sv,Sz.cells,List.map_cons,List.map_nil,List.cons_append,List.nil_append] at hI
   conv in fc _ _ _ _=>reduce
   simp -implicitDefEqProofs only [Ed.sv,Ed.cells,Q4.eL,Q4.ints,Ao.cells,go_sem,Int.reduceNegSucc]
   cases hh:e.high.auto <;> simp -implicitDefEqProofs only [hh,Bool.false_eq_true,if_true,if_false] at hI ⊢
   all_goals ((have bE:=hc;have y_2:=hI;repeat' (first | (simp -implicitDefEqProofs only [go_sem,Int.reduceNegSucc,lz,q2,q3,List.length_map,List.append_nil]) | (with_reducible refine aF ?_) | (with_reducible first | refine az bE ?_ | refine aA bE ?_) | (with_reducible first | refine az y_2 ?_ | refine aA y_2 ?_) | ((first | refine ak (fun hg=>?_) (fun hg=>?_) | refine aC (fun hg=>?_) (fun hg=>?_) | refine aD (fun hg=>?_) (fun hg=>?_)) <;> try simp -implicitDefEqProofs only [hg,Bool.not_true,Bool.not_false]) | ((with_reducible apply And.intro);focus (first | trivial | omega | decide | (simp -implicitDefEqProofs only [maxLen];omega) | (simp [maxLen,aq,av,ax,aE,aj,ay,aB] <;> omega))) | fail)))
   all_goals (refine (hK _ _ ?_).2;simp -implicitDefEqProofs only [go_sem,Int.reduceNegSucc,bk,bq,bA,bI,aQ,aO,aN,cX,cF,Option.map,Option.isSome])
 | true=>
   obtain ⟨t,rfl⟩:=Option.isSome_iff_exists.1 (hr rfl)
   have e1:qb e x (bl l n).length (some t,true)=if dx (fS e)=true∧dx [dy (fS e),nF e t]=true then some (uL e x (bl l n).length t,t) else none:=rfl
   rw [e1] at hK
   have s1:=fun id=>pH id [dy (fS e),nF e t] (by simp)
   have mM:=Dz t.high e.least e.most
   have uR:=Ob e (bl l n).length (.sl 1 (aJ t.ys)) t.p (dy [dy (fS e),nF e t])
   simp -implicitDefEqProofs only [uL] at hK
   generalize ue e (bl l n).length t.p (dy [dy (fS e),nF e t])=C at *
   generalize aX e.bC.a 0=O1 at *
   generalize aX e.bC.c 0=O2 at *
   generalize fS e=A at *
   simp -implicitDefEqProofs only [nG,nF] at hI s1 uR hK
   simp -implicitDefEqProofs only [gZ,cF,nS,Pl.cells,Ed.sv,Ed.cells,Q4.eL,Q4.ints,Sz.sv,Sz.cells,Ch.cells,List.map_cons,List.map_nil,List.cons_append,List.nil_append,List.length_cons,List.length_nil,Nat.reduceAdd] at hI uR ha o1 o2 s1
   conv in fc _ _ _ _=>reduce
   simp -implicitDefEqProofs only [Ed.sv,Ed.cells,Q4.eL,Q4.ints,Ao.cells,go_sem,Int.reduceNegSucc]
   cases hh:e.high.auto <;> simp -implicitDefEqProofs only [hh,Bool.false_eq_true,if_true,if_false] at hI ha s1 uR hK ⊢
   all_goals ((have bL:=hc;have bN:=mM;have cc:=hI;have cl:=ha;have cm:=s1;have cw:=o1;have cM:=o2;repeat' (first | (simp -implicitDefEqProofs only [go_sem,Int.reduceNegSucc]) | (with_reducible refine aF ?_) | (with_reducible first | refine az bL ?_ | refine aA bL ?_) | (with_reducible first | refine az bN ?_ | refine aA bN ?_) | (with_reducible first | refine az cc ?_ | refine aA cc ?_) | (with_reducible first | refine az cl ?_ | refine aA cl ?_) | ((first | refine ct (cm _) ?_ ?_ ?_ | refine cK (cm _) ?_ ?_ ?_ | fail);(focus (simp [aS,ag] <;> fail));(focus (simp [aW,aT] <;> fail))) | (with_reducible first | refine az cw ?_ | refine aA cw ?_) | (with_reducible first | refine az cM ?_ | refine aA cM ?_) | ((first | refine ak (fun hg=>?_) (fun hg=>?_) | refine aC (fun hg=>?_) (fun hg=>?_) | refine aD (fun hg=>?_) (fun hg=>?_)) <;> try simp -implicitDefEqProofs only [hg,Bool.not_true,Bool.not_false]) | ((with_reducible apply And.intro);focus (first | trivial | omega | decide | (simp -implicitDefEqProofs only [maxLen];omega) | (simp [maxLen,aq,av,ax,aE,aj,ay,aB] <;> omega))) | fail)))
   all_goals first | (refine qf 5 ?_;(have cT:=hf;have eA:=uR;repeat' (first | (simp -implicitDefEqProofs only [go_sem,Int.reduceNegSucc,qU,qV,qW,qX,qY,qZ,pQ,Int.reduceLT,decide_true,decide_false,Int.reduceToNat,Nat.reduceMul,hfl]) | (with_reducible refine aF ?_) | (with_reducible show G _ _ (It.l _ _::_) _ _ _;refine qe ?_) | (with_reducible first | refine az cT ?_ | refine aA cT ?_) | (with_reducible first | refine az eA ?_ | refine aA eA ?_) | ((first | refine ak (fun hg=>?_) (fun hg=>?_) | refine aC (fun hg=>?_) (fun hg=>?_) | refine aD (fun hg=>?_) (fun hg=>?_)) <;> try simp -implicitDefEqProofs only [hg,Bool.not_true,Bool.not_false]) | ((with_reducible apply And.intro);focus (first | trivial | omega | decide | (simp -implicitDefEqProofs only [maxLen];omega) | (simp [maxLen,aq,av,ax,aE,aj,ay,aB] <;> omega))) | fail))) | skip
   all_goals (refine (hK _ _ ?_).2;clear hK;simp -implicitDefEqProofs only [go_sem,Int.reduceNegSucc,bk,bq,bA,bI,aQ,aO,aN,cX,cF,Fm.cells,Q4.ints,Ch.cells,Pl.cells,Option.map,Option.isSome] <;>(try simp_all [-Int.not_lt,-Int.not_le,aQ,aO,aN,cz,cX,cF,Fm.cells,Q4.ints,Ch.cells,Pl.cells,Option.map,Option.isSome]) <;> try omega)
end Go.aG

namespace Go.aG
open Go
def ef (l:List Nd) (n:Int) (w:Int) (h:Sz):Ed:=ux (cq l n) w h (decide (n=0) || (cq l n).clip)
def okB (l:List Nd) (n:Int) (w:Int) (h:Sz):Bool:=uw (cq l n) w h && dx (mC (ef l n w h)) && dR (cq l n).width w true && dR (cq l n).eW w true && dR (cq l n).eV w true
def rm (l:List Nd) (n:Int) (w:Int) (h:Sz) (cn:Bool):Ai:=⟨w,(ef l n w h).bC.d,dw (cq l n).width w true,(ef l n w h).bC.b,dy (mC (ef l n w h)),cn,aX (dw (cq l n).eW w true) 0,aX (dw (cq l n).eV w true) 1125899906842624⟩
def rD (l:List Nd) (ins:Ed→Ao→Option La×Bool) (n:Int) (w:Int) (h:Sz) (cn:Bool):Option (Fm×La):=
 if okB l n w h=true then (oB (rm l n w h cn)).bind fun x=>qb (ef l n w h) x (bl l n).length (ins (ef l n w h) x) else none
theorem CE {x:Ln} {b d:Int} {has:Bool} (h:dR x b has=true) (hd:bP d=true):bP (aX (dw x b has) d)=true:=by
 unfold dw
 split
 ·simpa [aX] using hd
 ·split
  ·rename_i h1;simpa [aX] using h1.2
  ·split
   ·rename_i h1 h2 h3
    simp [h3] at h1
    simp [dR,h3,h1] at h
    simp -implicitDefEqProofs only [aX,Bool.false_eq_true,if_false,sW,h,if_true]
    unfold nQ at h;simp at h;exact h.2
   ·rfl
theorem Oa (l:List Nd) (hb:l.length≤8589934592) (n:Int) (w:Int) (h:Sz) (cn:Bool) (ins:Ed→Ao→Option La×Bool) (hr:∀ e x,(ins e x).2=true→(ins e x).1.isSome=true)
 (hI:∀ x:Ao,aI Go.Proofs.Try.prog 28 [.rv (bM l),.rv (.int .i64 n),.rv (.int .i64 x.w),(nG (ef l n w h)).sv,(ef l n w h).sv,.rv (.int .i64 (-1))] [] [] (.aM [.agg ((cF (ins (ef l n w h) x).1).map .rv),.rv (.bool (ins (ef l n w h) x).2)])) :
 aI Go.Proofs.Try.prog 26 [.rv (bM l),.rv (.int .i64 n),.rv (.int .i64 w),h.sv,.rv (.bool cn)] [] [] (nk (rD l ins n w h cn)):=by
 refine bH Kc [.rv (bM l),.rv (.int .i64 n),.rv (.int .i64 w),h.sv,.rv (.bool cn)] _ (by simp) (by simp [aP,bg,bu,aZ,bn,ai.sv,Ln.sv,Nd.sv]) (fun K hK=>?_)
 have hst:=Dw l n
 have h0:((n == 0):Bool)=decide (n=0):=by rw [Bool.eq_iff_iff];simp
 have he:=Od (cq l n) w h (decide (n=0) || (cq l n).clip)
 have ha:=NY (ef l n w h)
 have h1:=og (cq l n).width w true
 have h2:=DD (cq l n).eW w true
 have h3:=DE (cq l n).eV w true
 have nE:=fun x=>Oe l hb n (ef l n w h) x (ins (ef l n w h) x) (hr _ _) (hI x)
 have hac:=fun a b=>NW (rm l n w h cn) a b
 have f1:=fun hq=>CE (x:=(cq l n).eW) (b:=w) (has:=true) hq (d:=0) rfl
 have f2:=fun hq=>CE (x:=(cq l n).eV) (b:=w) (has:=true) hq (d:=1125899906842624) rfl
 clear hI
 rw [show ux (cq l n) w h (decide (n=0) || (cq l n).clip)=ef l n w h from rfl] at he
 unfold rm at hac
 unfold rD rm okB at hK
 generalize hee:ef l n w h=e at *
 generalize dw (cq l n).width w true=W at *
 generalize aX (dw (cq l n).eW w true) 0=L at *
 generalize aX (dw (cq l n).eV w true) 1125899906842624=X at *
 generalize cq l n=s at *
 have q1:(s.cells.map U.rv).length=48:=rfl
 generalize hA:dy (mC e)=A at *
 generalize Py:dx (mC e)=Em at *
 generalize uw s w h=b1 at *
 generalize dR s.width w true=b2 at *
 generalize dR s.eW w true=b3 at *
 generalize dR s.eV w true=b4 at *
 simp -implicitDefEqProofs only [Ed.sv,Ed.cells,Q4.eL,Q4.ints,Sz.sv,Sz.cells,Ai.sv,Ai.cells,List.map_cons,List.map_nil,List.cons_append,List.nil_append] at he ha h1 h2 h3 nE hac
 conv in fc _ _ _ _=>reduce
 simp -implicitDefEqProofs only [Sz.sv,Sz.cells,go_sem,Int.reduceNegSucc]
 cases hall:(b1 && Em && b2 && b3 && b4) with
 | true=>
   simp -implicitDefEqProofs only [Bool.and_eq_true] at hall
   obtain ⟨⟨⟨⟨rfl,rfl⟩,rfl⟩,rfl⟩,rfl⟩:=hall
   have hx:=hac (f1 rfl) (f2 rfl)
   simp -implicitDefEqProofs only [Bool.and_self,if_true] at hK
   generalize oB ⟨w,e.bC.d,W,e.bC.b,A,cn,L,X⟩=o at *
   cases o with
   | none=>
     simp -implicitDefEqProofs only [nO,Option.isSome,Ao.cells,List.map_cons,List.map_nil,Option.bind] at hx hK
     cases hn0:decide (n=0) <;> rw [hn0] at he h0 <;> simp -implicitDefEqProofs only [Bool.true_or,Bool.false_or] at he
     all_goals ((have bE:=hst;have y_2:=he;have bL:=ha;have bN:=h1;have cc:=h2;have cl:=h3;have cm:=hx;repeat' (first | (simp -implicitDefEqProofs only [go_sem,Int.reduceNegSucc,q1,iq,jB,ir,jC,iG,jN,iR,jY,jc,kz,jl,kK,jm,kL,jn,kM,jo,kN,jq,kO,iu,jD,iw,jE,iy,jF,iz,jG,iA,jH,iB,jI,iC,jJ,iD,jK,iE,jL,iF,jM,iH,jO,iI,jP,iJ,jQ,iK,jR,iL,jS,iM,jT,iN,jU,iO,jV,iP,jW,iQ,jX,iS,jZ,iT,ke,iU,kf,iV,kg,iW,ki,iX,kj,iY,kk,iZ,ko,ja,kr,jb,ku,jd,kC,je,kD,gP,kE,jf,kF,jg,kG,jh,kH,ji,kI,jk,kJ,jw,jr,js,jt,ju,jv,jx,jy,jz,jA,ij,gO,aq,h0]) | (with_reducible refine aF ?_) | (with_reducible first | refine az bE ?_ | refine aA bE ?_) | (with_reducible first | refine az y_2 ?_ | refine aA y_2 ?_) | (with_reducible first | refine az bL ?_ | refine aA bL ?_) | (with_reducible first | refine az bN ?_ | refine aA bN ?_) | (with_reducible first | refine az cc ?_ | refine aA cc ?_) | (with_reducible first | refine az cl ?_ | refine aA cl ?_) | (with_reducible first | refine az cm ?_ | refine aA cm ?_) | ((first | refine ak (fun hg=>?_) (fun hg=>?_) | refine aC (fun hg=>?_) (fun hg=>?_) | refine aD (fun hg=>?_) (fun hg=>?_)) <;> try simp -implicitDefEqProofs only [hg,Bool.not_true,Bool.not_false]) | ((with_reducible apply And.intro);focus (first | trivial | omega | decide | (simp -implicitDefEqProofs only [maxLen];omega) | (simp [maxLen,aq,av,ax,aE,aj,ay,aB] <;> omega))) | fail)))
     all_goals (refine (hK _ _ ?_).2;clear hK;simp -implicitDefEqProofs only [go_sem,Int.reduceNegSucc,bk,bq,bA,bI,aQ,aO,aN,cX,cF,Option.map,Option.isSome] <;>(try simp_all [-Int.not_lt,-Int.not_le,aQ,aO,aN,cz,cX,cF,Option.map,Option.isSome]) <;> try omega)
   | some x=>
     have hfl:=nE x
     simp -implicitDefEqProofs only [nO,Option.isSome,Ao.cells,List.map_cons,List.map_nil,Option.bind] at hx hK hfl
     generalize qb e x (bl l n).length (ins e x)=r at *
     obtain ⟨u,hu,lz⟩:∃ u,cX (r.map (·.1))=u∧u.length=25:=⟨_,rfl,by cases r <;> rfl⟩
     obtain ⟨v,hv,hvl⟩:∃ v,cF (r.map (·.2))=v∧v.length=9:=⟨_,rfl,by cases r <;> rfl⟩
     simp -implicitDefEqProofs only [nk] at hfl hK
     rw [hu,hv] at hfl hK
     have u1:(u.map U.rv).drop 25=[]:=List.drop_of_length_le (by simp [lz])
     have u2:(u.map U.rv).take 25=u.map U.rv:=List.take_of_length_le (by simp [lz])
     have v1:(v.map U.rv).drop 9=[]:=List.drop_of_length_le (by simp [hvl])
     have v2:(v.map U.rv).take 9=v.map U.rv:=List.take_of_length_le (by simp [hvl])
     cases hn0:decide (n=0) <;> rw [hn0] at he h0 <;> simp -implicitDefEqProofs only [Bool.true_or,Bool.false_or] at he
     all_goals ((have cw:=hst;have cM:=he;have cT:=ha;have eA:=h1;have gn:=h2;have gp:=h3;have gq:=hx;have gu:=hfl;repeat' (first | (simp -implicitDefEqProofs only [go_sem,Int.reduceNegSucc,q1,iq,jB,ir,jC,iG,jN,iR,jY,jc,kz,jl,kK,jm,kL,jn,kM,jo,kN,jq,kO,iu,jD,iw,jE,iy,jF,iz,jG,iA,jH,iB,jI,iC,jJ,iD,jK,iE,jL,iF,jM,iH,jO,iI,jP,iJ,jQ,iK,jR,iL,jS,iM,jT,iN,jU,iO,jV,iP,jW,iQ,jX,iS,jZ,iT,ke,iU,kf,iV,kg,iW,ki,iX,kj,iY,kk,iZ,ko,ja,kr,jb,ku,jd,kC,je,kD,gP,kE,jf,kF,jg,kG,jh,kH,ji,kI,jk,kJ,jw,jr,js,jt,ju,jv,jx,jy,jz,jA,ij,gO,aq,h0,lz,hvl,u1,u2,v1,v2,List.length_map,List.append_nil]) | (with_reducible refine aF ?_) | (with_reducible first | refine az cw ?_ | refine aA cw ?_) | (with_reducible first | refine az cM ?_ | refine aA cM ?_) | (with_reducible first | refine az cT ?_ | refine aA cT ?_) | (with_reducible first | refine az eA ?_ | refine aA eA ?_) | (with_reducible first | refine az gn ?_ | refine aA gn ?_) | (with_reducible first | refine az gp ?_ | refine aA gp ?_) | (with_reducible first | refine az gq ?_ | refine aA gq ?_) | (with_reducible first | refine az gu ?_ | refine aA gu ?_) | ((first | refine ak (fun hg=>?_) (fun hg=>?_) | refine aC (fun hg=>?_) (fun hg=>?_) | refine aD (fun hg=>?_) (fun hg=>?_)) <;> try simp -implicitDefEqProofs only [hg,Bool.not_true,Bool.not_false]) | ((with_reducible apply And.intro);focus (first | trivial | omega | decide | (simp -implicitDefEqProofs only [maxLen];omega) | (simp [maxLen,aq,av,ax,aE,aj,ay,aB] <;> omega))) | fail)))
     all_goals (refine (hK _ _ ?_).2;simp -implicitDefEqProofs only [go_sem,Int.reduceNegSucc,bk,bq,bA,bI,aQ,aO,aN,cG,lz,hvl,u2,v2,List.length_map,List.drop_zero])
 | false=>
   simp -implicitDefEqProofs only [hall,Bool.false_eq_true,if_false] at hK
   cases hn0:decide (n=0) <;> rw [hn0] at he h0 <;> simp -implicitDefEqProofs only [Bool.true_or,Bool.false_or] at he
   all_goals ((have gw:=hst;have gx:=he;have gz:=ha;have tv:=h1;have tw:=h2;have tC:=h3;repeat' (first | (simp -implicitDefEqProofs only [go_sem,Int.reduceNegSucc,q1,iq,jB,ir,jC,iG,jN,iR,jY,jc,kz,jl,kK,jm,kL,jn,kM,jo,kN,jq,kO,iu,jD,iw,jE,iy,jF,iz,jG,iA,jH,iB,jI,iC,jJ,iD,jK,iE,jL,iF,jM,iH,jO,iI,jP,iJ,jQ,iK,jR,iL,jS,iM,jT,iN,jU,iO,jV,iP,jW,iQ,jX,iS,jZ,iT,ke,iU,kf,iV,kg,iW,ki,iX,kj,iY,kk,iZ,ko,ja,kr,jb,ku,jd,kC,je,kD,gP,kE,jf,kF,jg,kG,jh,kH,ji,kI,jk,kJ,jw,jr,js,jt,ju,jv,jx,jy,jz,jA,ij,gO,aq,h0]) | (with_reducible refine aF ?_) | (with_reducible first | refine az gw ?_ | refine aA gw ?_) | (with_reducible first | refine az gx ?_ | refine aA gx ?_) | (with_reducible first | refine az gz ?_ | refine aA gz ?_) | (with_reducible first | refine az tv ?_ | refine aA tv ?_) | (with_reducible first | refine az tw ?_ | refine aA tw ?_) | (with_reducible first | refine az tC ?_ | refine aA tC ?_) | ((first | refine ak (fun hg=>?_) (fun hg=>?_) | refine aC (fun hg=>?_) (fun hg=>?_) | refine aD (fun hg=>?_) (fun hg=>?_)) <;> try simp -implicitDefEqProofs only [hg,Bool.not_true,Bool.not_false]) | ((with_reducible apply And.intro);focus (first | trivial | omega | decide | (simp -implicitDefEqProofs only [maxLen];omega) | (simp [maxLen,aq,av,ax,aE,aj,ay,aB] <;> omega))) | fail)))
   all_goals first | (exfalso;simp_all;done) | skip
   all_goals (refine (hK _ _ ?_).2;clear hK;simp -implicitDefEqProofs only [go_sem,Int.reduceNegSucc,bk,bq,bA,bI,aQ,aO,aN,cX,cF,Option.map,Option.isSome] <;>(try simp_all [-Int.not_lt,-Int.not_le,aQ,aO,aN,cz,cX,cF,Option.map,Option.isSome]) <;> try omega)
end Go.aG

namespace Go.aG
open Go
theorem Kh:aV Go.Proofs.Try.prog 28 160 (fc Go.Proofs.Try.prog 28 160 [(.c 12 9 true),(.t 13)]) [(.c 12 9 true),(.t 13)]:=bh (by kernel_rfl)
def lW (r:Nat×Fm×La):List (Nat×Fm):=(r.1,r.2.1)::r.2.2.L
def cg (rs:List (Nat×Fm×La)):List (Nat×Fm):=rs.flatMap lW
def fL (rs:List (Nat×Fm×La)):List Int:=(List.range rs.length).map fun i=>((cg (rs.take i)).length:Int)
def ep (rs:List (Nat×Fm×La)):List Ch:=rs.map fun r=>r.2.1.child
def ez:List (Nat×Fm×La)→List Int→List (Nat×Fm)
 | [],_=>[]
 | r::rs,[]=>lW r++ez rs []
 | r::rs,y::ys=>(r.1,{ r.2.1 with y:=y })::(r.2.2.L++ez rs ys)
def lM (bx:Nat→Option (Fm×La)):List Nat→Option (List (Nat×Fm×La))
 | []=>some []
 | m::ms=>match bx m with
   | some q=>(lM bx ms).map ((m,q) :: ·)
   | none=>none
def qx (rs:List (Nat×Fm×La)) (q:Pl×List Int) (ob:Bool):La:=
 ⟨ez rs q.2,q.1,q.2,if q.1.mD=true then 0 else (let a:=if ob=true then q.1.kY else IntKind.i64.wrap (q.1.kY+nc q.1.cur);if 0>a then 0 else a)⟩
def gd (bx:Nat→Option (Fm×La)) (kids:List Nat) (ok ot ob:Bool):Option La×Bool:=
 if ok=true then match lM bx kids with
  | some rs=>match lP (ep rs) ot with
    | some q=>if qT q.1.cur=true then (some (qx rs q ob),bP (qx rs q ob).high) else (none,false)
    | none=>(none,false)
  | none=>(none,false)
 else (none,false)
theorem Jj {bx:Nat→Option (Fm×La)} {kids:List Nat} {ok ot ob:Bool} (h:(gd bx kids ok ot ob).2=true):(gd bx kids ok ot ob).1.isSome=true:=by
 revert h
 unfold gd
 repeat' split
 all_goals simp
theorem En {rs:List (Nat×Fm×La)} {r:Nat×Fm×La}:cg (rs++[r])=cg rs++lW r:=by simp [cg]
theorem nR (a:List (Nat×Fm)):(dg a).length=a.length:=by simp [dg]
theorem yN {rs:List (Nat×Fm×La)}:(fL rs).length=rs.length:=by simp [fL]
theorem LZ {rs:List (Nat×Fm×La)} {r:Nat×Fm×La}:fL (rs++[r])=fL rs++[((cg rs).length:Int)]:=by
 simp -implicitDefEqProofs only [fL,List.length_append,List.length_cons,List.length_nil,Nat.zero_add,List.range_succ,List.map_append,List.map_cons,List.map_nil]
 congr 1
 ·refine List.map_congr_left (fun i hi=>?_)
  rw [List.take_append_of_le_length (by simp at hi;omega)]
 ·simp
theorem LY {rs:List (Nat×Fm×La)} {i:Nat} (h:i<rs.length):(aJ (fL rs))[i]?.getD []=[.int .i64 ((cg (rs.take i)).length:Int)]:=by simp [aJ,fL,h]
theorem yX:∀ (rs:List (Nat×Fm×La)),ez rs []=cg rs
 | []=>rfl
 | r::rs=>by rw [ez,yX rs];simp [cg]
theorem qH:∀ (rs:List (Nat×Fm×La)) (ys:List Int),(ez rs ys).length=(cg rs).length
 | [],_=>rfl
 | r::rs,[]=>by rw [yX]
 | r::rs,y::ys=>by rw [ez];simp [cg,lW,qH rs ys]
theorem vO:∀ (rs:List (Nat×Fm×La)) (ys:List Int) (i:Nat) (h:i<rs.length) (h2:i<ys.length),(ez rs (ys.take i))[(cg (rs.take i)).length]?=some ((rs[i]'h).1,(rs[i]'h).2.1)∧
 (ez rs (ys.take i)).set (cg (rs.take i)).length ((rs[i]'h).1,{ (rs[i]'h).2.1 with y:=ys[i]'h2 })=ez rs (ys.take (i+1))
 | [],_,i,h,_=>by simp at h
 | r::rs,[],i,_,h=>by simp at h
 | r::rs,y::ys,0,_,_=>by
   refine ⟨by simp [ez,cg,lW],?_⟩
   simp -implicitDefEqProofs only [List.take_zero,ez,cg,List.flatMap_nil,List.length_nil,lW,List.cons_append,List.set_cons_zero,List.getElem_cons_zero,Nat.zero_add,List.take_succ_cons]
 | r::rs,y::ys,i+1,h,h2=>by
   have ih:=vO rs ys i (by simpa using h) (by simpa using h2)
   have e:(cg ((r::rs).take (i+1))).length=(r.2.2.L.length+(cg (rs.take i)).length)+1:=by simp [cg,lW]
   rw [e]
   simp -implicitDefEqProofs only [List.take_succ_cons,ez,List.getElem?_cons_succ,List.set_cons_succ,List.getElem_cons_succ]
   refine ⟨?_,?_⟩
   ·rw [List.getElem?_append_right (by omega),Nat.add_sub_cancel_left];exact ih.1
   ·rw [List.set_append_right _ _ (by omega),Nat.add_sub_cancel_left,ih.2]
theorem Ms {rs:List (Nat×Fm×La)} {ys:List Int} {i:Nat} (h:i<rs.length) (h2:i<ys.length):(aH (dg (ez rs (ys.take i))))[(cg (rs.take i)).length]?.getD []=(eJ ((rs[i]'h).1,(rs[i]'h).2.1)).map U.rv:=by
 have:=(vO rs ys i h h2).1
 simp [aH,dg,this]
theorem Mt {rs:List (Nat×Fm×La)} {ys:List Int} {i:Nat} (h:i<rs.length) (h2:i<ys.length):(aH (dg (ez rs (ys.take i)))).set (cg (rs.take i)).length ((eJ ((rs[i]'h).1,{ (rs[i]'h).2.1 with y:=ys[i]'h2 })).map U.rv)=aH (dg (ez rs (ys.take (i+1)))):=by
 rw [← (vO rs ys i h h2).2]
 simp [aH,dg,List.map_set]
theorem OE (q:Nat×Fm) (y:Int):splice ((eJ q).map U.rv) 2 [.rv (.int .i64 y)]=(eJ (q.1,{ q.2 with y:=y })).map U.rv:=rfl
theorem Mq (q:Nat×Fm):(eJ q).length=26:=rfl
theorem xp (f:Fm):f.cells.length=25:=rfl
theorem Mr (L:List (Nat×Fm)):∀ x∈dg L,∀ r∈x,r.one=true:=by
 intro x hx r hr
 obtain ⟨q,_,rfl⟩:=List.mem_map.1 hx
 simp -implicitDefEqProofs only [eJ,Fm.cells,Q4.ints,Ch.cells,List.cons_append,List.nil_append,List.mem_cons,List.not_mem_nil,or_false] at hr
 rcases hr with h | h | h | h | h | h | h | h | h | h | h | h | h | h | h | h | h | h | h | h | h | h | h | h | h | h <;> rw [h] <;> rfl
theorem Fp {rs:List (Nat×Fm×La)} {r:Nat×Fm×La}:ep (rs++[r])=ep rs++[r.2.1.child]:=by simp [ep]
theorem zu:∀ {l:List Ch} {p:Pl} {ys:List Int} {q:Pl×List Int},pI l p ys=some q→q.2.length=ys.length+l.length
 | [],p,ys,q,h=>by cases h;rfl
 | c::l,p,ys,q,h=>by
   rw [pI] at h
   split at h
   ·have:=zu h;simp at this ⊢;omega
   ·cases h
end Go.aG

namespace Go.aG
open Go Go.Proofs Go.Shelf
theorem ql {b:Nat} {t:TypeId}:∀ (vs:List Value) (o:Nat) (w:World) (cur:Array Value),w.heap[b]?=some (.cells cur t (0,0))→o+vs.length≤cur.size→
 ∃ cur':Array Value,(w.setCells b o vs).heap[b]?=some (.cells cur' t (0,0))∧cur'.size=cur.size∧(∀ k,k<o∨o+vs.length≤k→cur'[k]?=cur[k]?)∧∀ (j:Nat) (u:Value),vs[j]?=some u→cur'[o+j]?=some u
 | [],o,w,cur,h,hl=>⟨cur,h,rfl,fun _ _=>rfl,fun j u hu=>by simp at hu⟩
 | v::r,o,w,cur,h,hl=>by
   have h1:(w.setCell ⟨b,o,none⟩ v).heap[b]?=some (.cells (cur.setIfInBounds o v) t (0,0)):=heap_setCell_same _ _ _ _ _ _ h
   obtain ⟨cur',g1,g2,g3,g4⟩:=ql r (o+1) _ _ h1 (by simp at hl ⊢;omega)
   refine ⟨cur',g1,by rw [g2];simp,fun k hk=>?_,fun j u hu=>?_⟩
   ·rw [g3 k (by simp at hk;omega),Array.getElem?_setIfInBounds]
    rw [if_neg (by simp at hk;omega)]
   ·cases j with
    | zero=>
      simp at hu;subst hu
      rw [Nat.add_zero,g3 o (by omega),Array.getElem?_setIfInBounds,if_pos rfl,if_pos (by simp at hl;omega)]
    | succ j=>
      simp at hu
      have:=g4 j u hu
      rwa [show o+1+j=o+(j+1) by omega] at this
theorem qm {b:Nat}:∀ (vs:List Value) (o:Nat) (w:World) (k:Nat),k≠b→(w.setCells b o vs).heap[k]?=w.heap[k]?
 | [],_,_,_,_=>rfl
 | v::r,o,w,k,h=>by rw [World.setCells,qm r (o+1) _ k h,heap_setCell_other _ _ _ _ h]
theorem qM {b:Nat}:∀ (vs:List Value) (o:Nat) (w:World),(w.setCells b o vs).os=w.os∧(w.setCells b o vs).tape=w.tape∧(w.setCells b o vs).output=w.output∧(w.setCells b o vs).heap.size=w.heap.size
 | [],_,_=>⟨rfl,rfl,rfl,rfl⟩
 | v::r,o,w=>by
   obtain ⟨h1,h2,h3,h4⟩:=qM r (o+1) (w.setCell ⟨b,o,none⟩ v)
   exact ⟨h1,h2,h3,by rw [World.setCells,h4,World.size_setCell]⟩
def pM (w w':World) (ob:Option Nat) (tg:List Value) (v:Value):Prop:=
 ∃ b cur t cap,v = .slice (some ⟨b,0,none⟩) tg.length cap∧w'.heap[b]?=some (.cells cur t (0,0))∧(∀ k,k<w.heap.size→k≠b→w'.heap[k]?=w.heap[k]?)∧w'.os=w.os∧w'.tape=w.tape∧w'.output=w.output∧w.heap.size≤w'.heap.size∧
  (∀ (j:Nat) (u:Value),tg[j]?=some u→cur[j]?=some u)∧tg.length≤cap∧cap≤maxLen∧cap≤cur.size∧(ob=some b∨w.heap.size≤b)
section
variable {P:Program} {ρ:Ren} (L:Lays2.n21 P ρ) {w:World} {ys:List Int} {i:Nat} {x:Int} {vb vc:Nat} {fq:Array Value} {vt:TypeId}
abbrev vI (l:List Int):List Value:=l.map fun y=>Value.int .i64 y
theorem Ef {l:List Int}:∀ v∈vI l,v.oneCell'=true:=by
 intro v hv
 obtain ⟨y,_,rfl⟩:=List.mem_map.1 hv
 rfl
theorem pS {b:Nat} {cur:Array Value} {t:TypeId} (h:w.heap[b]?=some (.cells cur t (0,0))) (o:Nat):w.cell? ⟨b,o,none⟩=cur[o]?:=mF h o
theorem zF (n:Nat):(Builtin.zeroCells (Value.int .i64 0).cells n).size=n:=by
 rw [size_zeroCells];show n*1=n;omega
theorem qS {l:List Int} {j:Nat} {u:Value} (h:(vI l)[j]?=some u):∃ y,l[j]?=some y∧u = .int .i64 y:=by
 rw [List.getElem?_map,Option.map_eq_some_iff] at h
 obtain ⟨y,h1,rfl⟩:=h
 exact ⟨y,h1,rfl⟩
theorem tu (hv:w.heap[vb]?=some (.cells fq vt (0,0))) (h0:fq[0]?=some (.int .i64 x)) (j:Nat) (v:Value) (hj:[Value.int .i64 x][j]?=some v):w.cell? ⟨vb,0+j,none⟩=some v:=by
 match j with
 | 0=>cases hj;rw [pS hv];simpa using h0
 | j+1=>simp at hj
theorem zM {A B:List Value} {Z:Array Value} {j:Nat} {u:Value} (h:(A++B)[j]?=some u):((A++B).toArray++Z)[j]?=some u:=by
 rw [Array.getElem?_append_left (by have:=(List.getElem?_eq_some_iff.1 h).1;simpa using this)]
 simpa using h
include L in
theorem Jh (hv:w.heap[vb]?=some (.cells fq vt (0,0))) (h0:fq[0]?=some (.int .i64 x)) :
 Calls P (ρ.f 21) #[.slice none 0 0,.int .i64 (0:Nat),.slice (some ⟨vb,0,none⟩) 1 vc] w fun e w'=>∃ v,e = .returned v∧pM w w' none (vI [x]) v:=by
 refine (Any2.slices_Insert_int_end_grow L none 0 0 vb 0 1 vc [] [.int .i64 x] w (by omega) (by omega) (by omega) (by omega) rfl rfl (fun _=>rfl) (fun a ha=>by cases ha) (tu hv h0) (by simp;rfl)).mono ?_
 rintro e w' ⟨rfl,rfl⟩
 have hg:=grownCap_ge w (0+1) 0 (ρ.t 3)
 have hm:=grownCap_le_maxLen w (0+1) 0 (ρ.t 3) (by decide)
 refine ⟨_,rfl,w.heap.size,_,ρ.t 3,_,rfl,heap_alloc_new w.drew _,fun k hk _=>heap_alloc_old w.drew _ hk,rfl,rfl,rfl,by simp,fun j u hu=>zM (by simpa using hu),by simpa using hg,hm,?_,.inr (Nat.le_refl _)⟩
 simp only [Array.size_append,zF,List.size_toArray,List.length_append,List.length_nil,List.length_cons]
 omega
include L in
theorem Je {b c:Nat} {cur:Array Value} {t:TypeId} (hb:w.heap[b]?=some (.cells cur t (0,0))) (hys:∀ (j:Nat) (y:Int),ys[j]?=some y→cur[j]?=some (.int .i64 y)) (hnc:ys.length≤c) (hc:c<ys.length+1) (hbig:ys.length≤1000000)
 (hv:w.heap[vb]?=some (.cells fq vt (0,0))) (h0:fq[0]?=some (.int .i64 x)) :
 Calls P (ρ.f 21) #[.slice (some ⟨b,0,none⟩) ys.length c,.int .i64 ys.length,.slice (some ⟨vb,0,none⟩) 1 vc] w fun e w'=>∃ v,e = .returned v∧pM w w' (some b) (vI (ys++[x])) v:=by
 refine (Any2.slices_Insert_int_end_grow L (some ⟨b,0,none⟩) ys.length c vb 0 1 vc (vI ys) [.int .i64 x] w (by omega) hnc hc (by omega) (by simp) rfl (fun h=>by cases h) (fun a ha j v hj=>by
  cases ha
  obtain ⟨y,hy,rfl⟩:=qS hj
  rw [add_lit,Nat.zero_add,pS hb];exact hys j y hy) (tu hv h0) (by simp;rfl)).mono ?_
 rintro e w' ⟨rfl,rfl⟩
 have hg:=grownCap_ge w (ys.length+1) c (ρ.t 3)
 have hm:=grownCap_le_maxLen w (ys.length+1) c (ρ.t 3) (by simp only [maxLen];omega)
 refine ⟨_,rfl,w.heap.size,_,ρ.t 3,_,by simp,heap_alloc_new w.drew _,fun k hk _=>heap_alloc_old w.drew _ hk,rfl,rfl,rfl,by simp,fun j u hu=>zM (by simpa using hu),by simpa using hg,hm,?_,.inr (Nat.le_refl _)⟩
 simp only [Array.size_append,zF,List.size_toArray,List.length_append,List.length_map,List.length_nil,List.length_cons]
 omega
include L in
theorem Jf {b c:Nat} {cur:Array Value} {t:TypeId} (hb:w.heap[b]?=some (.cells cur t (0,0))) (hys:∀ (j:Nat) (y:Int),ys[j]?=some y→cur[j]?=some (.int .i64 y)) (hc:ys.length+1≤c) (lp:c≤maxLen) (hcs:c≤cur.size)
 (hv:w.heap[vb]?=some (.cells fq vt (0,0))) (h0:fq[0]?=some (.int .i64 x)) :
 Calls P (ρ.f 21) #[.slice (some ⟨b,0,none⟩) ys.length c,.int .i64 ys.length,.slice (some ⟨vb,0,none⟩) 1 vc] w fun e w'=>∃ v,e = .returned v∧pM w w' (some b) (vI (ys++[x])) v:=by
 refine (Any2.slices_Insert_int_end_room L b 0 ys.length c vb 0 1 vc [.int .i64 x] w (by omega) hc (by simp only [maxLen] at lp;omega) rfl (fun j hj=>?_) (fun j hj=>frozen_of_row _ _ _ _ _ hb) (tu hv h0) (by simp;rfl)).mono ?_
 ·rw [pS hb]
  rw [Array.getElem?_eq_getElem (by omega)];rfl
 rintro e w' ⟨rfl,rfl⟩
 obtain ⟨cur',g1,g2,g3,g4⟩:=ql [.int .i64 x] (0+ys.length) w cur hb (by simp;omega)
 obtain ⟨r1,r2,r3,r4⟩:=qM (b:=b) [.int .i64 x] (0+ys.length) w
 refine ⟨_,rfl,b,cur',t,c,by simp,g1,fun k hk hne=>qm _ _ _ k hne,r1,r2,r3,by rw [r4];exact Nat.le_refl _,fun j u hu=>?_,by simpa using hc,lp,by omega,.inl rfl⟩
 obtain ⟨y,hy,rfl⟩:=qS hu
 rcases Nat.lt_or_ge j ys.length with hj | hj
 ·rw [g3 j (by omega)]
  rw [List.getElem?_append_left hj] at hy
  exact hys j y hy
 ·rw [List.getElem?_append_right hj] at hy
  have xM:j - ys.length=0:=by have:=(List.getElem?_eq_some_iff.1 hy).1;simpa using this
  rw [xM] at hy
  simp at hy;subst hy
  have:=g4 0 _ rfl
  rw [show 0+ys.length+0=j by omega] at this
  exact this
abbrev eT (ys:List Int) (i:Nat) (x:Int):List Int:=ys.take i++x::ys.drop i
theorem BQ {ys:List Int} {i:Nat} {x:Int} (hi:i≤ys.length) {j:Nat} {y:Int} (h:(eT ys i x)[j]?=some y):(j<i∧ys[j]?=some y)∨(j=i∧y=x)∨(i<j∧ys[j - 1]?=some y):=by
 have hl:(ys.take i).length=i:=by simp;omega
 rcases Nat.lt_trichotomy j i with hj | hj | hj
 ·rw [List.getElem?_append_left (by omega),List.getElem?_take_of_lt hj] at h
  exact .inl ⟨hj,h⟩
 ·rw [List.getElem?_append_right (by omega),hl,hj,Nat.sub_self] at h
  simp at h
  exact .inr (.inl ⟨hj,h.symm⟩)
 ·rw [List.getElem?_append_right (by omega),hl,show j - i=(j - i - 1)+1 by omega,List.getElem?_cons_succ,List.getElem?_drop,show i+(j - i - 1)=j - 1 by omega] at h
  exact .inr (.inr ⟨hj,h⟩)
theorem sC (ys:List Int) (i:Nat) (x:Int) (hi:i≤ys.length):(eT ys i x).length=ys.length+1:=by simp;omega
include L in
theorem Ji {b c:Nat} {cur:Array Value} {t:TypeId} (hi:i<ys.length) (hb:w.heap[b]?=some (.cells cur t (0,0))) (hys:∀ (j:Nat) (y:Int),ys[j]?=some y→cur[j]?=some (.int .i64 y)) (hc:ys.length+1≤c) (lp:c≤maxLen) (hcs:c≤cur.size)
 (hv:w.heap[vb]?=some (.cells fq vt (0,0))) (h0:fq[0]?=some (.int .i64 x)) (hne:vb≠b) :
 Calls P (ρ.f 21) #[.slice (some ⟨b,0,none⟩) ys.length c,.int .i64 i,.slice (some ⟨vb,0,none⟩) 1 vc] w fun e w'=>∃ v,e = .returned v∧pM w w' (some b) (vI (eT ys i x)) v:=by
 refine (Any2.slices_Insert_int_shift L b 0 ys.length c i vb 0 1 vc (vI ys) [.int .i64 x] w hi (by omega) hc (by simp only [maxLen] at lp;omega) hne (by simp) rfl (fun j v hj=>by
  obtain ⟨y,hy,rfl⟩:=qS hj
  rw [Nat.zero_add,pS hb];exact hys j y hy) (fun j hj=>?_) (fun j hj=>frozen_of_row _ _ _ _ _ hb) (tu hv h0) Ef (by simp;rfl) vt t fq.size cur.size ?_ ?_ (by omega) (frozen_of_row _ _ _ _ _ hv) (frozen_of_row _ _ _ _ _ hv)).mono ?_
 ·rw [pS hb]
  rw [Array.getElem?_eq_getElem (by omega)];rfl
 ·simp [World.shape?,hv]
 ·simp [World.shape?,hb]
 rintro e w' ⟨rfl,rfl⟩
 have hb':w.drew.heap[b]?=some (.cells cur t (0,0)):=hb
 have hdl:((vI ys).drop i).length=ys.length - i:=by simp
 obtain ⟨uq,g1,g2,g3,g4⟩:=ql ((vI ys).drop i) (0+(i+1)) w.drew cur hb' (by rw [hdl];omega)
 obtain ⟨r1,r2,r3,r4⟩:=qM (b:=b) ((vI ys).drop i) (0+(i+1)) w.drew
 obtain ⟨wX,k1,k2,k3,k4⟩:=ql [.int .i64 x] (0+i) _ uq g1 (by simp;omega)
 obtain ⟨s1,s2,s3,s4⟩:=qM (b:=b) [.int .i64 x] (0+i) (w.drew.setCells b (0+(i+1)) ((vI ys).drop i))
 refine ⟨_,rfl,b,wX,t,c,by rw [List.length_map,sC _ _ _ (by omega)],k1,fun k hk hne=>by rw [qm _ _ _ k hne,qm _ _ _ k hne];rfl,s1.trans r1,s2.trans r2,s3.trans r3,by rw [s4,r4];exact Nat.le_refl _,fun j u hu=>?_,by rw [List.length_map,sC _ _ _ (by omega)];exact hc,lp,by omega,.inl rfl⟩
 obtain ⟨y,hy,rfl⟩:=qS hu
 rcases BQ (by omega) hy with ⟨hj,bY⟩ | ⟨rfl,rfl⟩ | ⟨hj,bY⟩
 ·rw [k3 j (by simp;omega),g3 j (by omega)]
  exact hys j y bY
 ·have:=k4 0 _ rfl
  rwa [show 0+j+0=j by omega] at this
 ·rw [k3 j (by simp;omega)]
  have:=g4 (j - 1 - i) (.int .i64 y) (by rw [List.getElem?_drop,List.getElem?_map,show i+(j - 1 - i)=j - 1 by omega,bY];rfl)
  rwa [show 0+(i+1)+(j - 1 - i)=j by omega] at this
include L in
theorem Jg {b c:Nat} {cur:Array Value} {t:TypeId} (hi:i<ys.length) (hb:w.heap[b]?=some (.cells cur t (0,0))) (hys:∀ (j:Nat) (y:Int),ys[j]?=some y→cur[j]?=some (.int .i64 y)) (hnc:ys.length≤c) (hc:c<ys.length+1) (hbig:ys.length≤1000000)
 (hv:w.heap[vb]?=some (.cells fq vt (0,0))) (h0:fq[0]?=some (.int .i64 x)) :
 Calls P (ρ.f 21) #[.slice (some ⟨b,0,none⟩) ys.length c,.int .i64 i,.slice (some ⟨vb,0,none⟩) 1 vc] w fun e w'=>∃ v,e = .returned v∧pM w w' (some b) (vI (eT ys i x)) v:=by
 refine (Any2.slices_Insert_int_grow L b 0 ys.length c i vb 0 1 vc (vI ys) [.int .i64 x] w hi (by omega) hnc hc (by omega) (by simp) rfl (fun j v hj=>by
  obtain ⟨y,hy,rfl⟩:=qS hj
  rw [Nat.zero_add,pS hb];exact hys j y hy) (tu hv h0) Ef (by simp;rfl)).mono ?_
 rintro e w' ⟨rfl,rfl⟩
 have hg:=grownCap_ge w (ys.length+1) c (ρ.t 3)
 have hm:=grownCap_le_maxLen w (ys.length+1) c (ρ.t 3) (by simp only [maxLen];omega)
 generalize hG:grownCap w (ys.length+1) c (ρ.t 3)=G at *
 generalize hA:((vI ys).take i).toArray++Builtin.zeroCells (Value.int .i64 0).cells (ys.length+1 - i)++Builtin.zeroCells (Value.int .i64 0).cells (G - (ys.length+1))=A at *
 have Pz:A.size=G:=by
  rw [← hA]
  simp only [Array.size_append,zF,List.size_toArray,List.length_take,List.length_map]
  omega
 have Hz:∀ (j:Nat) (y:Int),j<i→ys[j]?=some y→A[j]?=some (.int .i64 y):=fun j y hj hy=>by
  have hjl:j<ys.length:=by omega
  rw [← hA,Array.getElem?_append_left (by simp;omega),Array.getElem?_append_left (by simp;omega)]
  simp [List.getElem?_take_of_lt hj,hy]
 have hb1:(w.alloc (.cells A (ρ.t 3))).drew.heap[w.heap.size]?=some (.cells A (ρ.t 3) (0,0)):=heap_alloc_new w _
 obtain ⟨uq,g1,g2,g3,g4⟩:=ql [.int .i64 x] i _ A hb1 (by simp;omega)
 obtain ⟨r1,r2,r3,r4⟩:=qM (b:=w.heap.size) [.int .i64 x] i (w.alloc (.cells A (ρ.t 3))).drew
 have hb2:(((w.alloc (.cells A (ρ.t 3))).drew.setCells w.heap.size i [.int .i64 x]).drew).heap[w.heap.size]?=some (.cells uq (ρ.t 3) (0,0)):=g1
 have hdl:((vI ys).drop i).length=ys.length - i:=by simp
 obtain ⟨wX,k1,k2,k3,k4⟩:=ql ((vI ys).drop i) (i+1) _ uq hb2 (by rw [hdl];omega)
 obtain ⟨s1,s2,s3,s4⟩:=qM (b:=w.heap.size) ((vI ys).drop i) (i+1) ((w.alloc (.cells A (ρ.t 3))).drew.setCells w.heap.size i [.int .i64 x]).drew
 refine ⟨_,rfl,w.heap.size,wX,ρ.t 3,G,by rw [List.length_map,sC _ _ _ (by omega)],k1,fun k hk hne=>?_,s1.trans r1,s2.trans r2,s3.trans r3,?_,fun j u hu=>?_,by rw [List.length_map,sC _ _ _ (by omega)];exact hg,hm,by omega,.inr (Nat.le_refl _)⟩
 ·rw [qm _ _ _ k hne]
  show (((w.alloc (.cells A (ρ.t 3))).drew.setCells w.heap.size i [.int .i64 x])).heap[k]?=_
  rw [qm _ _ _ k hne]
  exact heap_alloc_old w _ hk
 ·rw [s4]
  show w.heap.size≤(((w.alloc (.cells A (ρ.t 3))).drew.setCells w.heap.size i [.int .i64 x])).heap.size
  rw [r4]
  simp
 obtain ⟨y,hy,rfl⟩:=qS hu
 rcases BQ (by omega) hy with ⟨hj,bY⟩ | ⟨rfl,rfl⟩ | ⟨hj,bY⟩
 ·rw [k3 j (by omega),g3 j (by omega)]
  exact Hz j y hj bY
 ·rw [k3 j (by omega)]
  have:=g4 0 _ rfl
  rwa [Nat.add_zero] at this
 ·have:=k4 (j - 1 - i) (.int .i64 y) (by rw [List.getElem?_drop,List.getElem?_map,show i+(j - 1 - i)=j - 1 by omega,bY];rfl)
  rwa [show i+1+(j - 1 - i)=j by omega] at this
end
abbrev lB (l:List Int):List (List U):=l.map fun y=>[U.rv (.int .i64 y)]
theorem CZ {w:World} {ok:Nat→Prop} {aa:Nat→Option Nat} {hp:Hp} {cur:Array Value} {v:Nat} {l:List Int} (h:eB w ok aa hp cur (.row 1 v (lB l))):∀ (j:Nat) (y:Int),l[j]?=some y→cur[j]?=some (.int .i64 y):=by
 intro j y hy
 obtain ⟨_,_,h3⟩:=h
 obtain ⟨u,h4,_,h5⟩:=h3 j [.rv (.int .i64 y)] (by simp [hy]) 0 (.rv (.int .i64 y)) rfl
 rw [show j*1+0=j by omega] at h4
 cases h5 with
 | rv _ _ h6=>cases h6;exact h4
theorem Ff {P:Program} {ρ:Ren} (L:Lays2.n21 P ρ) (hcb:pP P (ρ.f 21)=true) (j j2 v v2 i n:Nat) (x:Int) (xs:List Int) (hj:j≠j2) (hn:n≤xs.length) (hi:i≤n) (hbig:n≤1000000) :
 aI P (ρ.f 21) [.row j v n,.rv (.int .i64 i),.row j2 v2 1] [(j,.row 1 v (lB xs)),(j2,.row 1 v2 (lB [x]))] [(j,.row 1 (v+1) (lB (eT (xs.take n) i x)))] (.row j (v+1) (n+1)):=by
 refine ⟨hcb,fun C hp w aa vs hpre hnew R hl hvs=>?_⟩
 have dP:=hpre (j,.row 1 v (lB xs)) (.head _)
 have hpk:=hpre (j2,.row 1 v2 (lB [x])) (.tail _ (.head _))
 obtain ⟨a0,a1,a2,rfl⟩:∃ a b c,vs=[a,b,c]:=by
  match vs,hl with
  | [a,b,c],_=>exact ⟨a,b,c,rfl⟩
 have h0:=hvs 0 _ rfl
 have h1:=hvs 1 _ rfl
 have h2:=hvs 2 _ rfl
 simp only [List.getD_cons_zero,List.getD_cons_succ] at h0 h1 h2
 obtain rfl:a1 = .int .i64 i:=by
  cases h1 with
  | rv _ _ h=>cases h;rfl
 obtain ⟨vb,vc,fq,vt,rfl,hv,sx,IC⟩:∃ vb vc fq vt,a2 = .slice (some ⟨vb,0,none⟩) 1 vc∧w.heap[vb]?=some (.cells fq vt (0,0))∧fq[0]?=some (.int .i64 x)∧aa j2=some vb:=by
  cases h2 with
  | row _ _ _ _ g1 g0 gv gh=>
    rcases gh 1 _ hpk with ⟨_,_,h⟩ | ⟨b,cap,cur,t,e1,e2,e3,_⟩
    ·cases h
    ·rcases R.heap j2 _ hpk with ⟨hn,_⟩ | ⟨b',cur',t',f1,f2,f3⟩
     ·rw [hn] at e1;cases e1
     ·rw [e1] at f1;cases f1
      rw [e3] at f2;cases f2
      exact ⟨b,cap,cur,t,e2,e3,CZ f3 0 x rfl,e1⟩
 have hys:∀ (k:Nat) (y:Int),(xs.take n)[k]?=some y→xs[k]?=some y:=fun k y hy=>by
  rw [List.getElem?_take] at hy
  split at hy
  ·exact hy
  ·cases hy
 have mR:(xs.take n).length=n:=by simp;omega
 have rY:∀ (ob:Option Nat) (tg:List Int) (w':World) (u:Value),tg=eT (xs.take n) i x→pM w w' ob (vI tg) u→(∀ b,ob=some b→aa j=some b)→∃ v' au,Ending.returned u=Ending.returned v'∧Step C hp (bf hp [(j,.row 1 (v+1) (lB (eT (xs.take n) i x)))]) w w' aa au∧Rp w' (an C au (bf hp [(j,.row 1 (v+1) (lB (eT (xs.take n) i x)))])) au (bf hp [(j,.row 1 (v+1) (lB (eT (xs.take n) i x)))]) (.row j (v+1) (n+1)) v':=by
  rintro ob tg w' u rfl ⟨b,cur,t,cap,rfl,e1,e2,e3,e4,e5,e6,e7,e8,e9,Pt,FE⟩ mQ
  have hlen:(eT (xs.take n) i x).length=n+1:=by rw [sC _ _ _ (by omega),mR]
  have htl:(vI (eT (xs.take n) i x)).length=n+1:=by rw [List.length_map,hlen]
  rw [htl] at e8
  have S:Step C hp (up hp j (some (.row 1 (v+1) (lB (eT (xs.take n) i x))))) w w' aa (up aa j (some b)):=by
   refine R.replace j _ b cur t e3 e4 e5 e6 e1 e2 ?_ (fun hb hq=>?_) (fun hq=>?_) ⟨fun z hz=>?_,?_,fun k z hz=>?_⟩
   ·rcases FE with h | h
    ·exact .inl ⟨by rw [dP];rfl,mQ _ h⟩
    ·exact .inr h
   ·rw [dP] at hq;cases hq
    exact ⟨by omega,fun h=>by omega⟩
   ·rw [dP] at hq;cases hq
   ·obtain ⟨y,_,rfl⟩:=List.mem_map.1 hz;rfl
   ·rw [List.length_map,hlen];omega
   ·rw [List.getElem?_map,Option.map_eq_some_iff] at hz
    obtain ⟨y,hy,rfl⟩:=hz
    intro q z hq
    match q with
    | 0=>
      cases hq
      refine ⟨.int .i64 y,?_,rfl,.rv _ _ (.int _ _)⟩
      have:=e7 k (.int .i64 y) (by rw [List.getElem?_map,hy];rfl)
      rwa [show k*1+0=k by omega]
    | q+1=>simp at hq
  refine ⟨_,up aa j (some b),rfl,S,.row j (v+1) (n+1) _ rfl (by simp [bf]) (fun e cr cH h=>?_) (fun e cH h=>.inr ⟨b,cap,cur,t,bJ _ _ _,by rw [htl],e1,e8,e9,?_⟩)⟩
  ·simp only [bf,bJ] at h;cases h;exact Nat.le_refl _
  ·simp only [bf,bJ] at h;cases h;omega
 cases h0 with
 | row _ _ _ _ g1 g0 gv gh=>
   rcases gh 1 _ dP with ⟨_,rfl,hn0⟩ | ⟨b,cap,cur,t,e1,rfl,e3,e4,e5,e6⟩
   ·subst hn0
    obtain rfl:i=0:=by omega
    refine (Jh L hv sx).mono ?_
    rintro e w' ⟨u,rfl,hu⟩
    exact rY none [x] w' u rfl hu (fun b h=>by cases h)
   ·have hf:∀ (k:Nat) (y:Int),(xs.take n)[k]?=some y→cur[k]?=some (.int .i64 y):=by
     rcases R.heap j _ dP with ⟨hn,_⟩ | ⟨b',cur',t',f1,f2,f3⟩
     ·rw [hn] at e1;cases e1
     ·rw [e1] at f1;cases f1
      rw [e3] at f2;cases f2
      exact fun k y hy=>CZ f3 k y (hys k y hy)
    have hne:vb≠b:=fun h=>by
     subst h
     exact hj (R.inj j j2 vb (by rw [dP];rfl) (by rw [hpk];rfl) e1 IC)
    have mQ:∀ b',some b=some b'→aa j=some b':=fun b' h=>by cases h;exact e1
    rw [Nat.mul_one] at e6
    have uW:=fun tg w' u=>rY (some b) tg w' u
    rcases Nat.lt_or_ge i n with hin | hin
    ·rcases Nat.lt_or_ge cap (n+1) with hc | hc
     ·have:=Jg L (ys:=xs.take n) (i:=i) (x:=x) (vc:=vc) (c:=cap) (by omega) e3 hf (by omega) (by omega) (by omega) hv sx
      rw [mR] at this
      refine this.mono ?_
      rintro e w' ⟨u,rfl,hu⟩
      exact uW _ w' u rfl hu mQ
     ·have:=Ji L (ys:=xs.take n) (i:=i) (x:=x) (vc:=vc) (c:=cap) (by omega) e3 hf (by omega) e5 e6 hv sx hne
      rw [mR] at this
      refine this.mono ?_
      rintro e w' ⟨u,rfl,hu⟩
      exact uW _ w' u rfl hu mQ
    ·obtain rfl:i=n:=by omega
     have Br:eT (xs.take i) i x=xs.take i++[x]:=by
      unfold eT
      rw [List.take_of_length_le (by omega),List.drop_of_length_le (by omega)]
     rcases Nat.lt_or_ge cap (i+1) with hc | hc
     ·have:=Je L (ys:=xs.take i) (x:=x) (vc:=vc) (c:=cap) e3 hf (by omega) (by omega) (by omega) hv sx
      rw [mR] at this
      refine this.mono ?_
      rintro e w' ⟨u,rfl,hu⟩
      exact uW _ w' u Br.symm hu mQ
     ·have:=Jf L (ys:=xs.take i) (x:=x) (vc:=vc) (c:=cap) e3 hf (by omega) e5 e6 hv sx
      rw [mR] at this
      refine this.mono ?_
      rintro e w' ⟨u,rfl,hu⟩
      exact uW _ w' u Br.symm hu mQ
theorem Pb {p X:Prop} (h1:X→p) (h2:X):p:=h1 h2
theorem FP {n0:Nat} {env env':List (Nat×U)} {h' C:List (Option HB)} {n j e af len:Nat} {xs:List (List RV)} (hn:n0≤h'.length) (hC:gB (lS h'.length) h') (hr:lk env n = .row j af len) (hj:h'.length≤j)
 (hg:ag (h'++C) j=some (.row e af (aH xs))) (hl:len≤xs.length) (h1:∀ x∈xs,∀ r∈x,r.one=true) (he:fP h'.length env env'):cA n0 ⟨env,h'++C⟩ ⟨(n,.rv (.sl e (xs.take len)))::env',h'⟩:=by
 refine xg (cI h'.length) hn (fun j i hj=>?_) (fun j hj=>?_) (fun j=>?_) (sL (fun x=>.dead x) (fun p hp=>?_))
 ·unfold cI at hj;split at hj <;> cases hj;rfl
 ·unfold cI at hj;split at hj
  ·cases hj
  ·omega
 ·by_cases hj:j<h'.length
  ·obtain ⟨hb,g1,g2⟩:=hC.get j hj
   exact .inl ⟨hb,hb,by simp [cI,hj],mb.2 (by rw [List.getElem?_append_left hj];exact g1),mb.2 g1,g2.rn⟩
  ·refine .inr ⟨?_,.inl (by simp [cI,hj])⟩
   unfold ag
   rw [List.getElem?_eq_none (by omega)]
 ·rcases List.mem_cons.1 hp with rfl | hp
  ·dsimp only
   rw [hr]
   exact .fz _ _ (mK hg (by simp [cI];omega) hl h1)
  ·rcases he.get p hp with h | ⟨h1,h2⟩
   ·rw [h];exact .dead _
   ·rw [h1];exact h2.rn
theorem FQ {n0:Nat} {env env':List (Nat×U)} {h' C:List (Option HB)} {n j e af len:Nat} {xs ys:List (List RV)} (hys:xs.take len=ys) (hn:n0≤h'.length) (hC:gB (lS h'.length) h') (hr:lk env n = .row j af len) (hj:h'.length≤j)
 (hg:ag (h'++C) j=some (.row e af (aH xs))) (hl:len≤xs.length) (h1:∀ x∈xs,∀ r∈x,r.one=true) (he:fP h'.length env env'):cA n0 ⟨env,h'++C⟩ ⟨(n,.rv (.sl e ys))::env',h'⟩:=by
 rw [← hys];exact FP hn hC hr hj hg hl h1 he
end Go.aG

namespace Go.aG
open Go Go.Proofs Go.Shelf
theorem JR:aV Go.Proofs.Try.prog 90 6 (fc Go.Proofs.Try.prog 90 6 [(.t 2)]) [(.t 2)]:=bh (by kernel_rfl)
theorem JQ:aV Go.Proofs.Try.prog 73 17 (fc Go.Proofs.Try.prog 73 17 [(.t 4)]) [(.t 4)]:=bh (by kernel_rfl)
theorem KK:aV Go.Proofs.Try.prog 74 6 (fc Go.Proofs.Try.prog 74 6 [(.t 2)]) [(.t 2)]:=bh (by kernel_rfl)
theorem KC:aV Go.Proofs.Try.prog 49 54 (fc Go.Proofs.Try.prog 49 54 [(.t 4),(.t 5)]) [(.t 4),(.t 5)]:=bh (by kernel_rfl)
def MS:Ren:=⟨fun x=>if x=21 then 50 else if x=27 then 75 else if x=28 then 76 else if x=35 then 91 else if x=39 then 93 else x,
 fun t=>if t=3 then 3 else if t=4 then 4 else if t=22 then 32 else t,fun x=>x⟩
theorem Lj:Lays2.n21 Go.Proofs.Try.prog MS where
 mixed:=by kernel_rfl
 f21:=by kernel_rfl
 f27:=by kernel_rfl
 f28:=by kernel_rfl
 f35:=by kernel_rfl
 f39:=by kernel_rfl
 t0:=Try.underlying0
 a0:=Try.isAgg0
 z0:=fun w=>by rw [dY (n:=1) (by kernel_rfl)]
 v0:=Try.zeroValue0
 t3:=Try.underlying3
 a3:=Try.isAgg3
 z3:=Try.sizeOf3
 v3:=Try.zeroValue3
 t4:=Try.underlying4
 a4:=Try.isAgg4
 z4:=Try.sizeOf4
 v4:=Try.zeroValue4
 t22:=Try.underlying32
 a22:=Try.isAgg32
 z22:=Try.sizeOf32
 v22:=Try.zeroValue32
 i3:=by kernel_rfl
theorem BO (xs:List Int):lB xs=aH (aJ xs):=by simp [aH,aJ]
theorem NL (j j2 v v2 i n:Nat) (x:Int) (xs:List Int) (hj:j≠j2) (hn:n≤xs.length) (hi:i≤n) (hbig:n≤1000000) :
 aI Go.Proofs.Try.prog 50 [.row j v n,.rv (.int .i64 i),.row j2 v2 1] [(j,.row 1 v (aH (aJ xs))),(j2,.row 1 v2 [[.rv (.int .i64 x)]])] [(j,.row 1 (v+1) (aH (aJ (eT (xs.take n) i x))))] (.row j (v+1) (n+1)):=by
 have:=Ff (P:=Go.Proofs.Try.prog) Lj (by kernel_rfl) j j2 v v2 i n x xs hj hn hi hbig
 rw [BO xs,BO (eT (xs.take n) i x)] at this
 exact this
theorem Ol (a:Int):aI Go.Proofs.Try.prog 90 [.rv (.int .i64 a)] [] [] (.rv (.bool false)):=by
 refine bH JR [.rv (.int .i64 a)] _ (by simp) (by simp [aP,bg,bu,aZ,bn,ai.sv,Ln.sv,Nd.sv]) (fun K hK=>?_)
 have h:(a != a)=false:=by simp
 conv in fc _ _ _ _=>reduce
 simp -implicitDefEqProofs only [go_sem,Int.reduceNegSucc]
 repeat' (first | (simp -implicitDefEqProofs only [go_sem,Int.reduceNegSucc,h]) | (with_reducible refine aF ?_) | ((first | refine ak (fun hg=>?_) (fun hg=>?_) | refine aC (fun hg=>?_) (fun hg=>?_) | refine aD (fun hg=>?_) (fun hg=>?_)) <;> try simp -implicitDefEqProofs only [hg,Bool.not_true,Bool.not_false]) | ((with_reducible apply And.intro);focus (first | trivial | omega | decide | (simp -implicitDefEqProofs only [maxLen];omega) | (simp [maxLen,aq,av,ax,aE,aj,ay,aB] <;> omega))) | fail)
 exact (hK _ _ (cC rfl)).2
theorem Oc (a b:Int):aI Go.Proofs.Try.prog 73 [.rv (.int .i64 a),.rv (.int .i64 b)] [] [] (.rv (.bool (decide (a<b)))):=by
 refine bH JQ [.rv (.int .i64 a),.rv (.int .i64 b)] _ (by simp) (by simp [aP,bg,bu,aZ,bn,ai.sv,Ln.sv,Nd.sv]) (fun K hK=>?_)
 conv in fc _ _ _ _=>reduce
 simp -implicitDefEqProofs only [go_sem,Int.reduceNegSucc]
 have bE:=Ol a;repeat' (first | (simp -implicitDefEqProofs only [go_sem,Int.reduceNegSucc]) | (with_reducible refine aF ?_) | (with_reducible first | refine az bE ?_ | refine aA bE ?_) | ((first | refine ak (fun hg=>?_) (fun hg=>?_) | refine aC (fun hg=>?_) (fun hg=>?_) | refine aD (fun hg=>?_) (fun hg=>?_)) <;> try simp -implicitDefEqProofs only [hg,Bool.not_true,Bool.not_false]) | ((with_reducible apply And.intro);focus (first | trivial | omega | decide | (simp -implicitDefEqProofs only [maxLen];omega) | (simp [maxLen,aq,av,ax,aE,aj,ay,aB] <;> omega))) | fail)
 exact (hK _ _ (cC rfl)).2
theorem Om (a:Int):aI Go.Proofs.Try.prog 74 [.rv (.int .i64 a)] [] [] (.rv (.bool false)):=by
 refine bH KK [.rv (.int .i64 a)] _ (by simp) (by simp [aP,bg,bu,aZ,bn,ai.sv,Ln.sv,Nd.sv]) (fun K hK=>?_)
 have h:(a != a)=false:=by simp
 conv in fc _ _ _ _=>reduce
 simp -implicitDefEqProofs only [go_sem,Int.reduceNegSucc]
 repeat' (first | (simp -implicitDefEqProofs only [go_sem,Int.reduceNegSucc,h]) | (with_reducible refine aF ?_) | ((first | refine ak (fun hg=>?_) (fun hg=>?_) | refine aC (fun hg=>?_) (fun hg=>?_) | refine aD (fun hg=>?_) (fun hg=>?_)) <;> try simp -implicitDefEqProofs only [hg,Bool.not_true,Bool.not_false]) | ((with_reducible apply And.intro);focus (first | trivial | omega | decide | (simp -implicitDefEqProofs only [maxLen];omega) | (simp [maxLen,aq,av,ax,aE,aj,ay,aB] <;> omega))) | fail)
 exact (hK _ _ (cC rfl)).2
def gT (ks:List Nat) (x:Nat):Nat:=(ks.filter fun y=>decide (y<x)).length
def uK (ks:List Nat) (x:Nat):Bool:=if h:gT ks x<ks.length then ((ks[gT ks x]'h:Nat):Int) ==(x:Int) else false
theorem Af (ks:List Nat) (x:Nat):gT ks x≤ks.length:=List.length_filter_le _ _
theorem Fw {ks:List Nat} {x i:Nat} (hi:i≤ks.length) (h1:∀ j (h:j<ks.length),j<i→ks[j]<x) (h2:∀ j (h:j<ks.length),i≤j→x≤ks[j]):gT ks x=i:=by
 unfold gT
 have e1:(ks.take i).filter (fun y=>decide (y<x))=ks.take i:=List.filter_eq_self.2 fun a ha=>by
  obtain ⟨j,hj,rfl⟩:=List.getElem_of_mem ha
  simp -implicitDefEqProofs only [List.length_take] at hj
  rw [List.getElem_take]
  exact decide_eq_true (h1 j (by omega) (by omega))
 have e2:(ks.drop i).filter (fun y=>decide (y<x))=[]:=List.filter_eq_nil_iff.2 fun a ha=>by
  obtain ⟨j,hj,rfl⟩:=List.getElem_of_mem ha
  simp -implicitDefEqProofs only [List.length_drop] at hj
  rw [List.getElem_drop]
  have:=h2 (i+j) (by omega) (by omega)
  simp;omega
 have e3:=List.take_append_drop i ks
 rw [← e3,List.filter_append,e1,e2,List.append_nil,List.length_take]
 omega
theorem Bb (a:Int):a.fdiv (2 ^ min 1 64)=a / 2:=by
 rw [Int.fdiv_eq_ediv_of_nonneg _ (by decide)];rfl
theorem Pe {n:Int} (h1:0≤n) (h2:n<18446744073709551616):IntKind.u64.wrap n=n:=by
 have:IntKind.u64.wrap n=n % 18446744073709551616:=by rfl
 rw [this];omega
theorem Nx (ks:List Nat) (x:Nat) (hb:ks.length≤1000000) (hp:ks.Pairwise (·< ·)):aI Go.Proofs.Try.prog 49 [.rv (.sl 1 (aJ (aY ks))),.rv (.int .i64 x)] [] [] (.aM [.rv (.int .i64 (gT ks x)),.rv (.bool (uK ks x))]):=by
 refine bH KC [.rv (.sl 1 (aJ (aY ks))),.rv (.int .i64 x)] _ (by simp) (by simp [aP,bg,bu,aZ,bn,ai.sv,Ln.sv,Nd.sv]) (fun K hK=>?_)
 have hl:=yG ks
 conv in fc _ _ _ _=>reduce
 simp -implicitDefEqProofs only [go_sem,Int.reduceNegSucc]
 repeat' (first | (simp -implicitDefEqProofs only [go_sem,Int.reduceNegSucc,hl]) | (with_reducible refine aF ?_) | ((first | refine ak (fun hg=>?_) (fun hg=>?_) | refine aC (fun hg=>?_) (fun hg=>?_) | refine aD (fun hg=>?_) (fun hg=>?_)) <;> try simp -implicitDefEqProofs only [hg,Bool.not_true,Bool.not_false]) | ((with_reducible apply And.intro);focus (first | trivial | omega | decide | (simp -implicitDefEqProofs only [maxLen];omega) | (simp [maxLen,aq,av,ax,aE,aj,ay,aB] <;> omega))) | fail)
 refine dN (ι:=Nat×Nat) (fun q=>[(7,.rv (.int .i64 q.1)),(8,.rv (.int .i64 q.2)),(6,.rv (.int .i64 ks.length)),(0,.rv (.sl 1 (aJ (aY ks)))),(1,.rv (.int .i64 x))]) (fun _=>[])
  (fun q=>q.1≤q.2∧q.2≤ks.length∧(∀ j (h:j<ks.length),j<q.1→ks[j]<x)∧∀ j (h:j<ks.length),q.2≤j→x≤ks[j]) (fun q=>q.2 - q.1) (0,ks.length) ⟨Nat.zero_le _,Nat.le_refl _,fun j h h2=>absurd h2 (by simp),fun j h h2=>absurd h2 (by simp;omega)⟩ (bV (by simp [lk])) (fun q hq K' hN hX hR=>?_)
 obtain ⟨i,j⟩:=q
 obtain ⟨h1,h2,h3,h4⟩:=hq
 dsimp at h1 h2 h3 h4 ⊢
 simp -implicitDefEqProofs only [go_sem,Int.reduceNegSucc]
 refine ak (fun hg=>?_) (fun hg=>?_)
 ·have hij:i<j:=by simp at hg;omega
  have w1:IntKind.i64.wrap ((i:Int)+j)=(i:Int)+j:=wrap_i64 (by omega) (by omega)
  have w2:IntKind.u64.wrap ((i:Int)+j)=(i:Int)+j:=Pe (by omega) (by omega)
  obtain ⟨m,hm⟩:∃ m:Nat,m=(i+j) / 2:=⟨_,rfl⟩
  have w3:((i:Int)+j) / 2=(m:Int):=by omega
  have w4:IntKind.i64.wrap (m:Int)=m:=wrap_i64 (by omega) (by omega)
  have w5:=cQ (k:=m) (by omega)
  have hml:m<ks.length:=by omega
  have hx:(aJ (aY ks))[m]?.getD []=[.int .i64 (ks[m]:Nat)]:=by simp [aJ,aY,hml]
  have hc:=Oc (ks[m]:Nat) x
  have hlt:∀ a b (ha:a<ks.length) (hb:b<ks.length),a<b→ks[a]<ks[b]:=fun a b ha hb hab=>List.pairwise_iff_getElem.1 hp a b ha hb hab
  by_cases lp:ks[m]<x
  ·have e:decide (((ks[m]:Nat):Int)<(x:Int))=true:=decide_eq_true (by omega)
   rw [e] at hc
   have y_2:=hc;repeat' (first | (simp -implicitDefEqProofs only [go_sem,Int.reduceNegSucc,hl,w1,w2,Bb,w3,w4,w5,hx]) | (with_reducible refine aF ?_) | (with_reducible first | refine az y_2 ?_ | refine aA y_2 ?_) | ((first | refine ak (fun hg=>?_) (fun hg=>?_) | refine aC (fun hg=>?_) (fun hg=>?_) | refine aD (fun hg=>?_) (fun hg=>?_)) <;> try simp -implicitDefEqProofs only [hg,Bool.not_true,Bool.not_false]) | ((with_reducible apply And.intro);focus (first | trivial | omega | decide | (simp -implicitDefEqProofs only [maxLen];omega) | (simp [maxLen,aq,av,ax,aE,aj,ay,aB] <;> omega) | (omega;done))) | fail)
   refine hN (m+1,j) _ _ ⟨by dsimp;omega,h2,fun a ha xO=>?_,h4⟩ (by dsimp;omega) (bV (by simp [lk]))
   dsimp at xO
   rcases Nat.lt_or_ge a m with h | h
   ·have:=hlt a m ha hml h;omega
   ·obtain rfl:a=m:=by omega
    exact lp
  ·have e:decide (((ks[m]:Nat):Int)<(x:Int))=false:=decide_eq_false (by omega)
   rw [e] at hc
   have bL:=hc;repeat' (first | (simp -implicitDefEqProofs only [go_sem,Int.reduceNegSucc,hl,w1,w2,Bb,w3,w4,w5,hx]) | (with_reducible refine aF ?_) | (with_reducible first | refine az bL ?_ | refine aA bL ?_) | ((first | refine ak (fun hg=>?_) (fun hg=>?_) | refine aC (fun hg=>?_) (fun hg=>?_) | refine aD (fun hg=>?_) (fun hg=>?_)) <;> try simp -implicitDefEqProofs only [hg,Bool.not_true,Bool.not_false]) | ((with_reducible apply And.intro);focus (first | trivial | omega | decide | (simp -implicitDefEqProofs only [maxLen];omega) | (simp [maxLen,aq,av,ax,aE,aj,ay,aB] <;> omega) | (omega;done))) | fail)
   refine hN (i,m) _ _ ⟨by dsimp;omega,by dsimp;omega,h3,fun a ha xO=>?_⟩ (by dsimp;omega) (bV (by simp [lk]))
   dsimp at xO
   rcases Nat.lt_or_ge m a with h | h
   ·have:=hlt m a hml ha h;omega
   ·obtain rfl:a=m:=by omega
    omega
 ·have hij:i=j:=by simp at hg;omega
  subst hij
  simp -implicitDefEqProofs only [go_sem,Int.reduceNegSucc]
  refine hX _ _ _ ?_
  clear hN hX hR
  have rW:=Fw h2 h3 h4
  have lq:uK ks x=if h:i<ks.length then ((ks[i]'h:Nat):Int) ==(x:Int) else false:=by unfold uK;simp -implicitDefEqProofs only [rW]
  rw [rW,lq] at hK
  by_cases eS:i<ks.length
  ·have e:decide ((i:Int)<(ks.length:Int))=true:=decide_eq_true (by omega)
   have hx:(aJ (aY ks))[i]?.getD []=[.int .i64 (ks[i]:Nat)]:=by simp [aJ,aY,eS]
   rw [dif_pos eS] at hK
   have hn:=Om (ks[i]:Nat)
   cases hq:(((ks[i]:Nat):Int) ==(x:Int)) with
   | true=>
     rw [hq] at hK
     have bN:=hn;repeat' (first | (simp -implicitDefEqProofs only [go_sem,Int.reduceNegSucc,hl,e,hx,hq]) | (with_reducible refine aF ?_) | (with_reducible first | refine az bN ?_ | refine aA bN ?_) | ((first | refine ak (fun hg=>?_) (fun hg=>?_) | refine aC (fun hg=>?_) (fun hg=>?_) | refine aD (fun hg=>?_) (fun hg=>?_)) <;> try simp -implicitDefEqProofs only [hg,Bool.not_true,Bool.not_false]) | ((with_reducible apply And.intro);focus (first | trivial | omega | decide | (simp -implicitDefEqProofs only [maxLen];omega) | (simp [maxLen,aq,av,ax,aE,aj,ay,aB] <;> omega))) | fail)
     refine (hK _ _ (eK ?_ ?_)).2 <;> rfl
   | false=>
     rw [hq] at hK
     have cc:=hn;repeat' (first | (simp -implicitDefEqProofs only [go_sem,Int.reduceNegSucc,hl,e,hx,hq]) | (with_reducible refine aF ?_) | (with_reducible first | refine az cc ?_ | refine aA cc ?_) | ((first | refine ak (fun hg=>?_) (fun hg=>?_) | refine aC (fun hg=>?_) (fun hg=>?_) | refine aD (fun hg=>?_) (fun hg=>?_)) <;> try simp -implicitDefEqProofs only [hg,Bool.not_true,Bool.not_false]) | ((with_reducible apply And.intro);focus (first | trivial | omega | decide | (simp -implicitDefEqProofs only [maxLen];omega) | (simp [maxLen,aq,av,ax,aE,aj,ay,aB] <;> omega))) | fail)
     refine (hK _ _ (eK ?_ ?_)).2 <;> rfl
  ·have e:decide ((i:Int)<(ks.length:Int))=false:=decide_eq_false (by omega)
   rw [dif_neg eS] at hK
   repeat' (first | (simp -implicitDefEqProofs only [go_sem,Int.reduceNegSucc,hl,e]) | (with_reducible refine aF ?_) | ((first | refine ak (fun hg=>?_) (fun hg=>?_) | refine aC (fun hg=>?_) (fun hg=>?_) | refine aD (fun hg=>?_) (fun hg=>?_)) <;> try simp -implicitDefEqProofs only [hg,Bool.not_true,Bool.not_false]) | ((with_reducible apply And.intro);focus (first | trivial | omega | decide | (simp -implicitDefEqProofs only [maxLen];omega) | (simp [maxLen,aq,av,ax,aE,aj,ay,aB] <;> omega))) | fail)
   refine (hK _ _ (eK ?_ ?_)).2 <;> rfl
def gH (ks:List Nat) (x:Nat):List Nat:=ks.take (gT ks x)++x::ks.drop (gT ks x)
theorem ym (ks:List Nat) (x:Nat):(gH ks x).length=ks.length+1:=by
 have:=Af ks x
 simp [gH];omega
theorem BP {ks:List Nat} {x m:Nat}:m∈gH ks x↔m=x∨m∈ks:=by
 unfold gH
 rw [List.mem_append,List.mem_cons]
 conv=>rhs;rw [← List.take_append_drop (gT ks x) ks,List.mem_append]
 constructor
 ·rintro (h | h | h)
  ·exact .inr (.inl h)
  ·exact .inl h
  ·exact .inr (.inr h)
 ·rintro (h | h | h)
  ·exact .inr (.inl h)
  ·exact .inl h
  ·exact .inr (.inr h)
theorem Jd (ks:List Nat) (x:Nat):eT (aY ks) (gT ks x) x=aY (gH ks x):=by simp [eT,aY,gH]
theorem Ft (ks:List Int) (p:Int→Bool):(fU ks p).take (cR ks p).length=cR ks p:=by
 unfold fU;rw [List.take_left]
section
variable (l:List Nd) (n:Int)
def nv:List Int:=fU (aY (dr l n)) fun m=>!fD l m
theorem wU:(nv l n).take (bl l n).length=aY (bl l n):=by
 have hfl:(cR (aY (dr l n)) fun m=>!fD l m)=aY (bl l n):=by
  unfold cR bl aY
  rw [List.filter_map]
  simp [Function.comp_def]
 have vf:(bl l n).length=(cR (aY (dr l n)) fun m=>!fD l m).length:=by rw [hfl];simp [aY]
 rw [vf,nv,Ft,hfl]
theorem Ae:(bl l n).length≤(nv l n).length:=by
 have:=congrArg List.length (wU l n)
 rw [CC,List.length_take] at this
 omega
theorem Ny (hb:(bl l n).length≤1000000) (hp:(bl l n).Pairwise (·< ·)) (j v x:Nat):aI Go.Proofs.Try.prog 49 [.row j v (bl l n).length,.rv (.int .i64 x)] [(j,.row 1 v (aH (aJ (nv l n))))] [] (.aM [.rv (.int .i64 (gT (bl l n) x)),.rv (.bool (uK (bl l n) x))]):=by
 refine wO (dV:=[.rv (.sl 1 (aJ (aY (bl l n)))),.rv (.int .i64 x)]) (Nx (bl l n) x hb hp) rfl (fun hp hpre k y r hy hr=>?_) (.aM _ fun k y hy=>?_) (by simp)
 ·match k with
  | 0=>
    cases hy;cases hr
    have:=mK (h:=hp) (τ:=fun _=>none) (j:=j) (e:=1) (af:=v) (len:=(bl l n).length) (xs:=aJ (nv l n)) (hpre _ (.head _)) rfl (by rw [aj];exact Ae l n) (mo _)
    rw [show (aJ (nv l n)).take (bl l n).length=aJ (aY (bl l n)) by rw [← wU];simp [aJ,List.map_take]] at this
    exact .fz _ _ this
  | 1=>cases hy;cases hr;exact aO.2 rfl
  | k+2=>simp at hy
 ·match k with
  | 0=>cases hy;exact .rv _ (.int _ _)
  | 1=>cases hy;exact .rv _ (.bool _)
  | k+2=>simp at hy
end
end Go.aG
