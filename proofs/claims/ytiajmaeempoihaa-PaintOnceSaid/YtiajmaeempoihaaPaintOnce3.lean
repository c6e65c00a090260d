/- Part 3 of the proof: K4, K5, K6, K7, K8, K9, K10, K11, K12, U1, H1, C2, C3, L1, L2, K9R, K13, L3, L4, RT, R1, R2, R3, V1, V2, EngZe, EngZf, V3, V4, V5, Q1, Q2, Q3. -/
import Derived.Test.YtiajmaeempoihaaPaintOnce2
import Derived.KernelRfl
set_option linter.unusedSimpArgs false
set_option linter.unusedVariables false
set_option maxRecDepth 100000
set_option maxHeartbeats 16000000
namespace Go.ay
open Go
theorem OQ:bC Go.Proofs.Try.prog 69 31 (fc Go.Proofs.Try.prog 69 31 [(.t 2)]) [(.t 2)]:=bP (by kernel_rfl)
theorem OP:bC Go.Proofs.Try.prog 32 110 (fc Go.Proofs.Try.prog 32 110 [(.t 2)]) [(.t 2)]:=bP (by kernel_rfl)
theorem OR:bC Go.Proofs.Try.prog 33 89 (fc Go.Proofs.Try.prog 33 89 [(.t 2)]) [(.t 2)]:=bP (by kernel_rfl)
theorem PZ (l:List Ln):∀ x∈iT l,∀ r∈x,r.one=true:=by
 intro x hx r hr
 obtain ⟨n,_,rfl⟩:=List.mem_map.1 hx
 simp [Ln.cells] at hr
 rcases hr with rfl | rfl <;> rfl
theorem IG (s:au):aP Go.Proofs.Try.prog 69 [s.sv] [] [] (.rv (.sl 2 (iT (cM s)))):=by
 refine dK OQ [s.sv] _ (by simp) (by simp [aW,bS,dA,bD,bU,au.sv,Ln.sv,Nd.sv]) (fun K hK=>?_)
 conv in fc _ _ _ _=>reduce
 simp -implicitDefEqProofs only [au.sv,go_sem,Int.reduceNegSucc]
 repeat' (first | (simp -implicitDefEqProofs only [go_sem,Int.reduceNegSucc,aj]) | (with_reducible refine aC ?_) | ((first | refine ak (fun hg=>?_) (fun hg=>?_) | refine aI (fun hg=>?_) (fun hg=>?_) | refine aJ (fun hg=>?_) (fun hg=>?_)) <;> try simp -implicitDefEqProofs only [hg,Bool.not_true,Bool.not_false]) | ((with_reducible apply And.intro);focus (first | trivial | omega | decide | (simp -implicitDefEqProofs only [maxLen];omega) | (simp [maxLen,aj,aq,ax,aG,av,aF,aE] <;> omega))) | fail)
 exact (hK _ _ ⟨trivial,Cs (xs:=iT (cM s)) rfl rfl rfl (PZ _)⟩).2
def dN (k:Nat) (x:Ln):Bool:=!(decide (x.kind<0) || decide (x.kind>2) || (decide (x.kind=0) && !decide (x.n=0))) && !((decide (x.n<0) && ((decide (4≤k) && decide (k<10)) || decide (14≤k))) || (decide (14≤k) && decide (x.kind=0)))
def qc (s:au) (k:Nat):Bool:=(List.range k).all fun j=>dN j ((cM s).getD j default)
theorem QA {s:au} {k:Nat} (h:k<18):qc s (k+1)=(qc s k && dN k ((cM s)[k]'h)):=by
 have:(cM s).getD k default=(cM s)[k]'h:=by rw [List.getD_eq_getElem?_getD,List.getElem?_eq_getElem h];rfl
 simp -implicitDefEqProofs only [qc,List.range_succ,List.all_append,List.all_cons,List.all_nil,Bool.and_true,this]
theorem Qz {s:au} {k:Nat} (h:k<18) (hf:dN k ((cM s)[k]'h)=false):qc s 18=false:=by
 have:(cM s).getD k default=(cM s)[k]'h:=by rw [List.getD_eq_getElem?_getD,List.getElem?_eq_getElem h];rfl
 rw [Bool.eq_false_iff]
 intro ht
 have:=List.all_eq_true.1 ht k (by simp;omega)
 simp_all
theorem CN (s:au):gq s=(qc s 18 && (s.aK.list.all fun n=>!decide (n<0)) && ue s):=by
 have:qc s 18=(dN 0 s.off.a && dN 1 s.off.b && dN 2 s.off.c && dN 3 s.off.d && dN 4 s.width && dN 5 s.height && dN 6 s.jN && dN 7 s.jL && dN 8 s.jM && dN 9 s.jK && dN 10 s.dF.a && dN 11 s.dF.b && dN 12 s.dF.c && dN 13 s.dF.d && dN 14 s.pad.a && dN 15 s.pad.b && dN 16 s.pad.c && dN 17 s.pad.d):=by
  simp [qc,List.range_succ,cM,Q4.list,Bool.and_assoc]
 rw [this]
 have e1:∀ k x,(k<4∨(10≤k∧k<14))→dN k x=lD x:=fun k x hk=>by
  have h1:decide (14≤k)=false:=decide_eq_false (by omega)
  have h2:(decide (4≤k) && decide (k<10))=false:=by simp;omega
  simp -implicitDefEqProofs only [dN,lD,h1,h2]
  rw [Bool.eq_iff_iff];simp;omega
 have e2:∀ k x,(4≤k∧k<10)→dN k x=(lD x && decide (0≤x.n)):=fun k x hk=>by
  have h1:decide (14≤k)=false:=decide_eq_false (by omega)
  have h2:(decide (4≤k) && decide (k<10))=true:=by simp;omega
  simp -implicitDefEqProofs only [dN,lD,h1,h2]
  rw [Bool.eq_iff_iff];simp;omega
 have e3:∀ k x,14≤k→dN k x=(lD x && !(decide (x.kind=0) || decide (x.n<0))):=fun k x hk=>by
  have h1:decide (14≤k)=true:=decide_eq_true (by omega)
  simp -implicitDefEqProofs only [dN,lD,h1]
  rw [Bool.eq_iff_iff];simp;omega
 rw [e1 0 _ (by omega),e1 1 _ (by omega),e1 2 _ (by omega),e1 3 _ (by omega),e2 4 _ (by omega),e2 5 _ (by omega),e2 6 _ (by omega),e2 7 _ (by omega),e2 8 _ (by omega),e2 9 _ (by omega),e1 10 _ (by omega),e1 11 _ (by omega),e1 12 _ (by omega),e1 13 _ (by omega),e3 14 _ (by omega),e3 15 _ (by omega),e3 16 _ (by omega),e3 17 _ (by omega)]
 rw [Bool.eq_iff_iff]
 simp -implicitDefEqProofs only [gq,cM,Q4.list,iW,List.all_append,List.all_cons,List.all_nil,Bool.and_true,Bool.and_eq_true,Bool.not_eq_true',Bool.or_eq_false_iff,decide_eq_true_eq,decide_eq_false_iff_not]
 constructor <;>(intro h;simp -implicitDefEqProofs only [h,not_false_eq_true,and_self])
theorem SL (s:au):aP Go.Proofs.Try.prog 32 [s.sv] [] [] (.rv (.bool (gq s))):=by
 refine dK OP [s.sv] _ (by simp) (by simp [aW,bS,dA,bD,bU,au.sv,Ln.sv,Nd.sv]) (fun K hK=>?_)
 have bad:∀ e h,lk e 2 = .rv (.bool false)→gq s=false→K .ret ⟨e,h⟩:=fun e h l2 hf=>(hK _ _ (cm (by rw [l2,hf]))).2
 conv in fc _ _ _ _=>reduce
 simp -implicitDefEqProofs only [au.sv,go_sem,Int.reduceNegSucc]
 have bY:=IG s;repeat' (first | (simp -implicitDefEqProofs only [go_sem,Int.reduceNegSucc,lM,nc,jR,ng,lX,ny,mq,nK,mH,nV,mM,oe,mN,og,mO,oh,mP,om,mQ,oo,lN,nh,lO,ni,lP,nj,lQ,nk,lR,nq,lS,nr,lT,nt,lU,nu,lV,nv,lW,nw,lY,nA,lZ,nB,mb,nC,mc,nD,me,nE,mg,nF,mh,nG,mj,nH,mm,nI,mo,nJ,mu,nL,mw,nM,mz,nN,mA,nO,mB,nP,mC,nQ,mD,nR,mE,nS,mF,nT,mG,nU,mI,nW,mJ,nX,mK,nY,kL,nZ,kM,oa,mL,ob,jS,oc,jT,od,mW,mR,mS,mT,mU,mV,mX,mY,mZ,jU,lK,kK,aj,aG,aE]) | (with_reducible refine aC ?_) | (with_reducible first | refine aM bY ?_ | refine aN bY ?_) | ((first | refine ak (fun hg=>?_) (fun hg=>?_) | refine aI (fun hg=>?_) (fun hg=>?_) | refine aJ (fun hg=>?_) (fun hg=>?_)) <;> try simp -implicitDefEqProofs only [hg,Bool.not_true,Bool.not_false]) | ((with_reducible apply And.intro);focus (first | trivial | omega | decide | (simp -implicitDefEqProofs only [maxLen];omega) | (simp [maxLen,aj,aq,ax,aG,av,aF,aE] <;> omega))) | fail)
 refine dm (ι:=Nat) (fun k=>[(10,.rv (.int .i64 k)),(9,.rv (.int .i64 18)),(3,.rv (.sl 2 (iT (cM s)))),(1,.ptr 0 0)]) (fun k=>[some (.var (s.cells.map .rv))]) (fun k=>k≤18∧qc s k=true) (fun k=>18 - k) 0 (by simp [qc]) (bB (by simp [lk])) (fun k hk K' hN hX hR=>?_)
 obtain ⟨dn,hk2⟩:=hk
 simp -implicitDefEqProofs only [go_sem,Int.reduceNegSucc]
 refine ak (fun hg=>?_) (fun hg=>?_)
 ·have aA:k<18:=by simp at hg;omega
  have hx:=BI (l:=cM s) aA
  have gW:∀ e h,lk e 2 = .rv (.bool false)→dN k ((cM s)[k]'aA)=false→K .ret ⟨e,h⟩:=fun e h l2 hf=>bad e h l2 (by rw [CN,Qz aA hf];rfl)
  have nx:∀ e h,dN k ((cM s)[k]'aA)=true→cV 0 ⟨e,h⟩ ⟨[(10,.rv (.int .i64 (k+1:Nat))),(9,.rv (.int .i64 18)),(3,.rv (.sl 2 (iT (cM s)))),(1,.ptr 0 0)],[some (.var (s.cells.map .rv))]⟩→K' .normal ⟨e,h⟩:=fun e h hf he=>hN (k+1) _ _ ⟨by omega,by rw [QA aA,hk2,hf];rfl⟩ (by omega) he
  have wu:=dr (k:=k) (by omega)
  have rW:(iT (cM s)).length=18:=rfl
  clear hN hX hK bad
  generalize NB:(cM s)[k]'aA=x at *
  repeat' (first | (simp -implicitDefEqProofs only [go_sem,Int.reduceNegSucc,hx,rW,Ln.cells,wu]) | (with_reducible refine aC ?_) | ((first | refine ak (fun hg=>?_) (fun hg=>?_) | refine aI (fun hg=>?_) (fun hg=>?_) | refine aJ (fun hg=>?_) (fun hg=>?_)) <;> try simp -implicitDefEqProofs only [hg,Bool.not_true,Bool.not_false]) | ((with_reducible apply And.intro);focus (first | trivial | omega | decide | (simp -implicitDefEqProofs only [maxLen];omega) | (simp [maxLen,aj,aq,ax,aG,av,aF,aE] <;> omega))) | fail)
  all_goals first
   | (refine hR _ _ (gW _ _ rfl ?_);clear hR gW nx;simp_all [dN,gz];done)
   | (refine nx _ _ ?_ (bB (by simp [lk]));clear hR gW nx;simp_all [dN,gz];done)
   | (refine hR _ _ (gW _ _ rfl ?_);clear hR gW nx;simp_all [dN,gz];omega)
   | (refine nx _ _ ?_ (bB (by simp [lk]));clear hR gW nx;simp_all [dN,gz];omega)
 ·have aA:k=18:=by simp at hg;omega
  subst aA
  simp -implicitDefEqProofs only [go_sem,Int.reduceNegSucc]
  refine hX _ _ _ ?_
  repeat' (first | (simp -implicitDefEqProofs only [go_sem,Int.reduceNegSucc,lM,nc,jR,ng,lX,ny,mq,nK,mH,nV,mM,oe,mN,og,mO,oh,mP,om,mQ,oo,lN,nh,lO,ni,lP,nj,lQ,nk,lR,nq,lS,nr,lT,nt,lU,nu,lV,nv,lW,nw,lY,nA,lZ,nB,mb,nC,mc,nD,me,nE,mg,nF,mh,nG,mj,nH,mm,nI,mo,nJ,mu,nL,mw,nM,mz,nN,mA,nO,mB,nP,mC,nQ,mD,nR,mE,nS,mF,nT,mG,nU,mI,nW,mJ,nX,mK,nY,kL,nZ,kM,oa,mL,ob,jS,oc,jT,od,mW,mR,mS,mT,mU,mV,mX,mY,mZ,jU,lK,kK,aj]) | (with_reducible refine aC ?_) | ((first | refine ak (fun hg=>?_) (fun hg=>?_) | refine aI (fun hg=>?_) (fun hg=>?_) | refine aJ (fun hg=>?_) (fun hg=>?_)) <;> try simp -implicitDefEqProofs only [hg,Bool.not_true,Bool.not_false]) | ((with_reducible apply And.intro);focus (first | trivial | omega | decide | (simp -implicitDefEqProofs only [maxLen];omega) | (simp [maxLen,aj,aq,ax,aG,av,aF,aE] <;> omega))) | fail)
  refine dm (ι:=Nat) (fun k=>[(74,.rv (.int .i64 k)),(1,.ptr 0 0)]) (fun k=>[some (.var (s.cells.map .rv))]) (fun k=>k≤4∧(s.aK.list.drop k).all (fun n=>!decide (n<0))=s.aK.list.all (fun n=>!decide (n<0))) (fun k=>4 - k) 0 (by simp) (bB (by simp [lk])) (fun k hk K' hN hX hR=>?_)
  obtain ⟨dn,eV⟩:=hk
  simp -implicitDefEqProofs only [go_sem,Int.reduceNegSucc]
  refine ak (fun hg=>?_) (fun hg=>?_)
  ·have aA:k<4:=by simp at hg;omega
   have hx:(s.cells.map U.rv)[38+k*1]?=some (.rv (.int .i64 (s.aK.list[k]'aA))):=by
    have:k=0∨k=1∨k=2∨k=3:=by omega
    rcases this with rfl | rfl | rfl | rfl <;> rfl
   repeat' (first | (simp -implicitDefEqProofs only [go_sem,Int.reduceNegSucc,hx,aj]) | (with_reducible refine aC ?_) | ((first | refine ak (fun hg=>?_) (fun hg=>?_) | refine aI (fun hg=>?_) (fun hg=>?_) | refine aJ (fun hg=>?_) (fun hg=>?_)) <;> try simp -implicitDefEqProofs only [hg,Bool.not_true,Bool.not_false]) | ((with_reducible apply And.intro);focus (first | trivial | omega | decide | (simp -implicitDefEqProofs only [maxLen];omega) | (simp [maxLen,aj,aq,ax,aG,av,aF,aE] <;> omega))) | fail)
   ·refine hR _ _ (bad _ _ rfl ?_)
    rw [CN,oz (l:=s.aK.list) aA eV (by simp at hg ⊢;omega)]
    simp
   ·rw [dr (by omega)]
    exact hN (k+1) _ _ ⟨by omega,oA (l:=s.aK.list) aA eV (by simp at hg ⊢;omega)⟩ (by omega) (bB (by simp [lk]))
  ·have aA:k=4:=by simp at hg;omega
   subst aA
   have hb:=oy (l:=s.aK.list) (by simp [Q4.list]) eV
   simp -implicitDefEqProofs only [go_sem,Int.reduceNegSucc]
   refine hX _ _ _ ?_
   have fin:∀ e h,lk e 2 = .rv (.bool (ue s))→K .ret ⟨e,h⟩:=fun e h l2=>(hK _ _ (cm (by rw [l2,CN,hk2,hb];rfl))).2
   clear hK hN hX hR bad
   repeat' (first | (simp -implicitDefEqProofs only [go_sem,Int.reduceNegSucc,lM,nc,jR,ng,lX,ny,mq,nK,mH,nV,mM,oe,mN,og,mO,oh,mP,om,mQ,oo,lN,nh,lO,ni,lP,nj,lQ,nk,lR,nq,lS,nr,lT,nt,lU,nu,lV,nv,lW,nw,lY,nA,lZ,nB,mb,nC,mc,nD,me,nE,mg,nF,mh,nG,mj,nH,mm,nI,mo,nJ,mu,nL,mw,nM,mz,nN,mA,nO,mB,nP,mC,nQ,mD,nR,mE,nS,mF,nT,mG,nU,mI,nW,mJ,nX,mK,nY,kL,nZ,kM,oa,mL,ob,jS,oc,jT,od,mW,mR,mS,mT,mU,mV,mX,mY,mZ,jU,lK,kK,aj]) | (with_reducible refine aC ?_) | ((first | refine ak (fun hg=>?_) (fun hg=>?_) | refine aI (fun hg=>?_) (fun hg=>?_) | refine aJ (fun hg=>?_) (fun hg=>?_)) <;> try simp -implicitDefEqProofs only [hg,Bool.not_true,Bool.not_false]) | ((with_reducible apply And.intro);focus (first | trivial | omega | decide | (simp -implicitDefEqProofs only [maxLen];omega) | (simp [maxLen,aj,aq,ax,aG,av,aF,aE] <;> omega))) | fail)
   all_goals (refine fin _ _ ?_;(simp_all [lk,ue,gz]) <;>(try (intros;omega)))
def kC (x:Ln):Bool:=!(((!decide (x.kind=0) && decide (x.kind<3)) && decide (x.kind>0)) && (decide (x.n>if x.kind=2 then 1000000 else 1099511627776) || decide (x.n < - if x.kind=2 then 1000000 else 1099511627776)))
theorem PY (x:Ln):oS x=kC x:=by
 rw [Bool.eq_iff_iff]
 unfold oS kC qD
 by_cases h2:x.kind=2
 ·simp [h2];omega
 ·by_cases h1:x.kind=1
  ·simp [h1];omega
  ·simp [h1,h2];omega
theorem IS (s:au):iz s=((cM s).all kC && (s.aK.list.all fun n=>decide (n≤1099511627776)) && (decide (s.z≤1073741824) && decide (s.z≥-1073741824) && decide (s.back≤16777216) && decide (s.line≤16777216))):=by
 unfold iz
 rw [show oS=kC from funext PY]
 rw [Bool.eq_iff_iff]
 simp [qD];omega
theorem SM (s:au):aP Go.Proofs.Try.prog 33 [s.sv] [] [] (.rv (.bool (iz s))):=by
 refine dK OR [s.sv] _ (by simp) (by simp [aW,bS,dA,bD,bU,au.sv,Ln.sv,Nd.sv]) (fun K hK=>?_)
 have bad:∀ e h,lk e 2 = .rv (.bool false)→iz s=false→K .ret ⟨e,h⟩:=fun e h l2 hf=>(hK _ _ (cm (by rw [l2,hf]))).2
 conv in fc _ _ _ _=>reduce
 simp -implicitDefEqProofs only [au.sv,go_sem,Int.reduceNegSucc]
 have y_2:=IG s;repeat' (first | (simp -implicitDefEqProofs only [go_sem,Int.reduceNegSucc,lM,nc,jR,ng,lX,ny,mq,nK,mH,nV,mM,oe,mN,og,mO,oh,mP,om,mQ,oo,lN,nh,lO,ni,lP,nj,lQ,nk,lR,nq,lS,nr,lT,nt,lU,nu,lV,nv,lW,nw,lY,nA,lZ,nB,mb,nC,mc,nD,me,nE,mg,nF,mh,nG,mj,nH,mm,nI,mo,nJ,mu,nL,mw,nM,mz,nN,mA,nO,mB,nP,mC,nQ,mD,nR,mE,nS,mF,nT,mG,nU,mI,nW,mJ,nX,mK,nY,kL,nZ,kM,oa,mL,ob,jS,oc,jT,od,mW,mR,mS,mT,mU,mV,mX,mY,mZ,jU,lK,kK,aj,aG,aE]) | (with_reducible refine aC ?_) | (with_reducible first | refine aM y_2 ?_ | refine aN y_2 ?_) | ((first | refine ak (fun hg=>?_) (fun hg=>?_) | refine aI (fun hg=>?_) (fun hg=>?_) | refine aJ (fun hg=>?_) (fun hg=>?_)) <;> try simp -implicitDefEqProofs only [hg,Bool.not_true,Bool.not_false]) | ((with_reducible apply And.intro);focus (first | trivial | omega | decide | (simp -implicitDefEqProofs only [maxLen];omega) | (simp [maxLen,aj,aq,ax,aG,av,aF,aE] <;> omega))) | fail)
 refine dm (ι:=Nat) (fun k=>[(11,.rv (.int .i64 k)),(10,.rv (.int .i64 18)),(3,.rv (.sl 2 (iT (cM s)))),(1,.ptr 0 0)]) (fun k=>[some (.var (s.cells.map .rv))]) (fun k=>k≤18∧((cM s).drop k).all kC=(cM s).all kC) (fun k=>18 - k) 0 (by simp) (bB (by simp [lk])) (fun k hk K' hN hX hR=>?_)
 obtain ⟨dn,hk2⟩:=hk
 simp -implicitDefEqProofs only [go_sem,Int.reduceNegSucc]
 refine ak (fun hg=>?_) (fun hg=>?_)
 ·have aA:k<18:=by simp at hg;omega
  have hx:=BI (l:=cM s) aA
  have gW:∀ e h,lk e 2 = .rv (.bool false)→kC ((cM s)[k]'aA)=false→K .ret ⟨e,h⟩:=fun e h l2 hf=>bad e h l2 (by rw [IS,oz aA hk2 hf];rfl)
  have nx:∀ e h,kC ((cM s)[k]'aA)=true→cV 0 ⟨e,h⟩ ⟨[(11,.rv (.int .i64 (k+1:Nat))),(10,.rv (.int .i64 18)),(3,.rv (.sl 2 (iT (cM s)))),(1,.ptr 0 0)],[some (.var (s.cells.map .rv))]⟩→K' .normal ⟨e,h⟩:=fun e h hf he=>hN (k+1) _ _ ⟨by omega,oA aA hk2 hf⟩ (by omega) he
  have wu:=dr (k:=k) (by omega)
  have rW:(iT (cM s)).length=18:=rfl
  have w1:=Jn (m:=1000000) (by decide) (by decide)
  have w2:=Jn (m:=1099511627776) (by decide) (by decide)
  clear hN hX hK bad
  generalize NB:(cM s)[k]'aA=x at *
  repeat' (first | (simp -implicitDefEqProofs only [go_sem,Int.reduceNegSucc,hx,rW,Ln.cells,wu,w1,w2]) | (with_reducible refine aC ?_) | ((first | refine ak (fun hg=>?_) (fun hg=>?_) | refine aI (fun hg=>?_) (fun hg=>?_) | refine aJ (fun hg=>?_) (fun hg=>?_)) <;> try simp -implicitDefEqProofs only [hg,Bool.not_true,Bool.not_false]) | ((with_reducible apply And.intro);focus (first | trivial | omega | decide | (simp -implicitDefEqProofs only [maxLen];omega) | (simp [maxLen,aj,aq,ax,aG,av,aF,aE] <;> omega))) | fail)
  all_goals first
   | (refine hR _ _ (gW _ _ rfl ?_);clear hR gW nx;simp_all [kC,gz];done)
   | (refine nx _ _ ?_ (bB (by simp [lk]));clear hR gW nx;simp_all [kC,gz];done)
   | (refine hR _ _ (gW _ _ rfl ?_);clear hR gW nx;simp_all [kC,gz];omega)
   | (refine nx _ _ ?_ (bB (by simp [lk]));clear hR gW nx;simp_all [kC,gz];omega)
 ·have aA:k=18:=by simp at hg;omega
  subst aA
  have hall:=oy (by rw [aE];omega) hk2
  simp -implicitDefEqProofs only [go_sem,Int.reduceNegSucc]
  refine hX _ _ _ ?_
  repeat' (first | (simp -implicitDefEqProofs only [go_sem,Int.reduceNegSucc,lM,nc,jR,ng,lX,ny,mq,nK,mH,nV,mM,oe,mN,og,mO,oh,mP,om,mQ,oo,lN,nh,lO,ni,lP,nj,lQ,nk,lR,nq,lS,nr,lT,nt,lU,nu,lV,nv,lW,nw,lY,nA,lZ,nB,mb,nC,mc,nD,me,nE,mg,nF,mh,nG,mj,nH,mm,nI,mo,nJ,mu,nL,mw,nM,mz,nN,mA,nO,mB,nP,mC,nQ,mD,nR,mE,nS,mF,nT,mG,nU,mI,nW,mJ,nX,mK,nY,kL,nZ,kM,oa,mL,ob,jS,oc,jT,od,mW,mR,mS,mT,mU,mV,mX,mY,mZ,jU,lK,kK,aj]) | (with_reducible refine aC ?_) | ((first | refine ak (fun hg=>?_) (fun hg=>?_) | refine aI (fun hg=>?_) (fun hg=>?_) | refine aJ (fun hg=>?_) (fun hg=>?_)) <;> try simp -implicitDefEqProofs only [hg,Bool.not_true,Bool.not_false]) | ((with_reducible apply And.intro);focus (first | trivial | omega | decide | (simp -implicitDefEqProofs only [maxLen];omega) | (simp [maxLen,aj,aq,ax,aG,av,aF,aE] <;> omega))) | fail)
  refine dm (ι:=Nat) (fun k=>[(62,.rv (.int .i64 k)),(1,.ptr 0 0)]) (fun k=>[some (.var (s.cells.map .rv))]) (fun k=>k≤4∧(s.aK.list.drop k).all (fun n=>decide (n≤1099511627776))=s.aK.list.all (fun n=>decide (n≤1099511627776))) (fun k=>4 - k) 0 (by simp) (bB (by simp [lk])) (fun k hk K' hN hX hR=>?_)
  obtain ⟨dn,eV⟩:=hk
  simp -implicitDefEqProofs only [go_sem,Int.reduceNegSucc]
  refine ak (fun hg=>?_) (fun hg=>?_)
  ·have aA:k<4:=by simp at hg;omega
   have hx:(s.cells.map U.rv)[38+k*1]?=some (.rv (.int .i64 (s.aK.list[k]'aA))):=by
    have:k=0∨k=1∨k=2∨k=3:=by omega
    rcases this with rfl | rfl | rfl | rfl <;> rfl
   repeat' (first | (simp -implicitDefEqProofs only [go_sem,Int.reduceNegSucc,hx,aj]) | (with_reducible refine aC ?_) | ((first | refine ak (fun hg=>?_) (fun hg=>?_) | refine aI (fun hg=>?_) (fun hg=>?_) | refine aJ (fun hg=>?_) (fun hg=>?_)) <;> try simp -implicitDefEqProofs only [hg,Bool.not_true,Bool.not_false]) | ((with_reducible apply And.intro);focus (first | trivial | omega | decide | (simp -implicitDefEqProofs only [maxLen];omega) | (simp [maxLen,aj,aq,ax,aG,av,aF,aE] <;> omega))) | fail)
   ·refine hR _ _ (bad _ _ rfl ?_)
    simp -implicitDefEqProofs only [iz]
    rw [oz (l:=s.aK.list) aA eV (by simp at hg ⊢;omega)]
    simp
   ·rw [dr (by omega)]
    exact hN (k+1) _ _ ⟨by omega,oA (l:=s.aK.list) aA eV (by simp at hg ⊢;omega)⟩ (by omega) (bB (by simp [lk]))
  ·have aA:k=4:=by simp at hg;omega
   subst aA
   have hb:=oy (l:=s.aK.list) (by simp [Q4.list]) eV
   simp -implicitDefEqProofs only [go_sem,Int.reduceNegSucc]
   refine hX _ _ _ ?_
   have fin:∀ e h,lk e 2 = .rv (.bool (decide (s.z≤1073741824) && decide (s.z≥-1073741824) && decide (s.back≤16777216) && decide (s.line≤16777216)))→K .ret ⟨e,h⟩:=fun e h l2=>(hK _ _ (cm (by rw [l2,IS,hall,hb];rfl))).2
   clear hK hN hX hR bad
   repeat' (first | (simp -implicitDefEqProofs only [go_sem,Int.reduceNegSucc,lM,nc,jR,ng,lX,ny,mq,nK,mH,nV,mM,oe,mN,og,mO,oh,mP,om,mQ,oo,lN,nh,lO,ni,lP,nj,lQ,nk,lR,nq,lS,nr,lT,nt,lU,nu,lV,nv,lW,nw,lY,nA,lZ,nB,mb,nC,mc,nD,me,nE,mg,nF,mh,nG,mj,nH,mm,nI,mo,nJ,mu,nL,mw,nM,mz,nN,mA,nO,mB,nP,mC,nQ,mD,nR,mE,nS,mF,nT,mG,nU,mI,nW,mJ,nX,mK,nY,kL,nZ,kM,oa,mL,ob,jS,oc,jT,od,mW,mR,mS,mT,mU,mV,mX,mY,mZ,jU,lK,kK,aj]) | (with_reducible refine aC ?_) | ((first | refine ak (fun hg=>?_) (fun hg=>?_) | refine aI (fun hg=>?_) (fun hg=>?_) | refine aJ (fun hg=>?_) (fun hg=>?_)) <;> try simp -implicitDefEqProofs only [hg,Bool.not_true,Bool.not_false]) | ((with_reducible apply And.intro);focus (first | trivial | omega | decide | (simp -implicitDefEqProofs only [maxLen];omega) | (simp [maxLen,aj,aq,ax,aG,av,aF,aE] <;> omega))) | fail)
   all_goals (refine fin _ _ ?_;(simp_all [lk,gz]) <;>(try (intros;omega)))
end Go.ay

namespace Go.ay
open Go
theorem PE:bC Go.Proofs.Try.prog 90 27 (fc Go.Proofs.Try.prog 90 27 [(.t 4),(.t 5)]) [(.t 4),(.t 5)]:=bP (by kernel_rfl)
theorem PC:bC Go.Proofs.Try.prog 67 39 (fc Go.Proofs.Try.prog 67 39 [(.t 2)]) [(.t 2)]:=bP (by kernel_rfl)
theorem kE (x:Nd):(x.cells.drop 48)[0]?=some (.int .i64 x.parent):=rfl
theorem vT (x:Nd):(x.cells.take 48).map U.rv=x.s.cells.map U.rv:=rfl
theorem SZ (l:List Nd) (k:Nat) (h0:0<k) (hk:k<l.length) (hw:WF l k) (hb:l.length≤8589934592) :
 aP Go.Proofs.Try.prog 90 [.rv (.sl 49 (bk l)),.rv (.int .i64 k)] [] [] (.aR [.rv (.int .i64 ((jV l k).getD 0:Nat)),.rv (.bool (jV l k).isSome)]):=by
 refine dK PE [.rv (.sl 49 (bk l)),.rv (.int .i64 k)] _ (by simp) (by simp [aW,bS,dA,bD,bU,au.sv,Ln.sv,Nd.sv]) (fun K hK=>?_)
 have wd:=uj h0 (by omega)
 have jI:=gR hk
 have hlen:=ax l
 have hpk:=kH hk
 conv in fc _ _ _ _=>reduce
 simp -implicitDefEqProofs only [wd,go_sem,Int.reduceNegSucc]
 refine dm (ι:=Nat) (fun i=>[(7,.rv (.int .i64 (gL (aL l (k - 1)) i))),(6,.rv (.int .i64 i)),(0,.rv (.sl 49 (bk l))),(1,.rv (.int .i64 k))]) (fun _=>[]) (fun i=>i≤(aL l (k - 1)).length∧∀ j,(h:j<(aL l (k - 1)).length)→j<i→(((aL l (k - 1))[j]'h:Nat):Int)≠aU l k) (fun i=>(aL l (k - 1)).length - i) 0 (by simp) (by rw [uv];exact bB (by simp [lk])) (fun i hi K' hN hX hR=>?_)
 obtain ⟨hi1,hi2⟩:=hi
 have eE:=tT (l:=l) (k - 1)
 simp -implicitDefEqProofs only [go_sem,Int.reduceNegSucc]
 refine ak (fun hg=>?_) (fun hg=>?_)
 ·have ek:i<(aL l (k - 1)).length:=qk.1 (by simpa using hg)
  have rP:=uu ek
  have hlt:(aL l (k - 1))[i]<k:=tU (by omega) ek
  have hx:=gR (l:=l) (i:=(aL l (k - 1))[i]) (by omega)
  have hpar:=kH (l:=l) (n:=(aL l (k - 1))[i]) (by omega)
  have jn:=yI hw (k - 1) (by omega) i ek
  repeat' (first | (simp -implicitDefEqProofs only [go_sem,Int.reduceNegSucc,jI,hlen,aq,kE,hpk,rP,hx,hpar,jn]) | (with_reducible refine aC ?_) | ((first | refine ak (fun hg=>?_) (fun hg=>?_) | refine aI (fun hg=>?_) (fun hg=>?_) | refine aJ (fun hg=>?_) (fun hg=>?_)) <;> try simp -implicitDefEqProofs only [hg,Bool.not_true,Bool.not_false]) | ((with_reducible apply And.intro);focus (first | trivial | omega | decide | (simp -implicitDefEqProofs only [maxLen];omega) | (simp [maxLen,aj,aq,ax,aG,av,aF,aE] <;> omega))) | fail)
  ·refine hR _ _ (hK _ _ ?_).2
   rw [Tt ek (by simpa using hg) hi2]
   exact HO rfl rfl
  ·rw [dr (by omega)]
   refine hN (i+1) _ _ ⟨by omega,fun j hj hji=>?_⟩ (by omega) (bB (by simp [lk]))
   rcases Nat.lt_or_ge j i with h | h
   ·exact hi2 j hj h
   ·obtain rfl:j=i:=by omega
    simpa using hg
 ·simp -implicitDefEqProofs only [go_sem,Int.reduceNegSucc]
  refine hX _ _ _ ?_
  repeat' (first | (simp -implicitDefEqProofs only [go_sem,Int.reduceNegSucc]) | (with_reducible refine aC ?_) | ((first | refine ak (fun hg=>?_) (fun hg=>?_) | refine aI (fun hg=>?_) (fun hg=>?_) | refine aJ (fun hg=>?_) (fun hg=>?_)) <;> try simp -implicitDefEqProofs only [hg,Bool.not_true,Bool.not_false]) | ((with_reducible apply And.intro);focus (first | trivial | omega | decide | (simp -implicitDefEqProofs only [maxLen];omega) | (simp [maxLen,aj,aq,ax,aG,av,aF,aE] <;> omega))) | fail)
  refine (hK _ _ ?_).2
  have ek:¬ i<(aL l (k - 1)).length:=fun h=>by have:=qk.2 h;simp at hg;omega
  rw [Tu fun j hj=>hi2 j hj (by omega)]
  exact HO rfl rfl
theorem IK (l:List Nd) (hb:l.length≤8589934592):aP Go.Proofs.Try.prog 67 [.rv (.sl 49 (bk l))] [] [] (.rv (.bool (ew l))):=by
 refine dK PC [.rv (.sl 49 (bk l))] _ (by simp) (by simp [aW,bS,dA,bD,bU,au.sv,Ln.sv,Nd.sv]) (fun K hK=>?_)
 have bad:∀ e h,lk e 2 = .rv (.bool false)→ew l=false→K .ret ⟨e,h⟩:=fun e h l2 hf=>(hK _ _ (cm (by rw [l2,hf]))).2
 have hlen:=ax l
 conv in fc _ _ _ _=>reduce
 simp -implicitDefEqProofs only [hlen,go_sem,Int.reduceNegSucc]
 by_cases oM:l.length=0
 ·have e0:(((l.length:Nat):Int) == 0)=true:=by simp [oM]
  repeat' (first | (simp -implicitDefEqProofs only [go_sem,Int.reduceNegSucc,e0,hlen]) | (with_reducible refine aC ?_) | ((first | refine ak (fun hg=>?_) (fun hg=>?_) | refine aI (fun hg=>?_) (fun hg=>?_) | refine aJ (fun hg=>?_) (fun hg=>?_)) <;> try simp -implicitDefEqProofs only [hg,Bool.not_true,Bool.not_false]) | ((with_reducible apply And.intro);focus (first | trivial | omega | decide | (simp -implicitDefEqProofs only [maxLen];omega) | (simp [maxLen,aj,aq,ax,aG,av,aF,aE] <;> omega))) | fail)
  exact bad _ _ rfl (by simp [ew,iw,oM])
 ·have e0:(((l.length:Nat):Int) == 0)=false:=by simp [oM]
  have hx0:=gR (l:=l) (i:=0) (by omega)
  have gl:=kH (l:=l) (n:=0) (by omega)
  repeat' (first | (simp -implicitDefEqProofs only [go_sem,Int.reduceNegSucc,e0,hlen,hx0,aq,kE,gl]) | (with_reducible refine aC ?_) | ((first | refine ak (fun hg=>?_) (fun hg=>?_) | refine aI (fun hg=>?_) (fun hg=>?_) | refine aJ (fun hg=>?_) (fun hg=>?_)) <;> try simp -implicitDefEqProofs only [hg,Bool.not_true,Bool.not_false]) | ((with_reducible apply And.intro);focus (first | trivial | omega | decide | (simp -implicitDefEqProofs only [maxLen];omega) | (simp [maxLen,aj,aq,ax,aG,av,aF,aE] <;> omega))) | fail)
  ·exact bad _ _ rfl (by simp [ew,iw];intro _ h;simp at hg;exact absurd h hg)
  ·have vp:aU l 0 = -1:=by simpa using hg
   refine dm (ι:=Nat) (fun k=>[(18,.rv (.int .i64 k)),(17,.rv (.int .i64 l.length)),(0,.rv (.sl 49 (bk l)))]) (fun _=>[]) (fun k=>k≤l.length∧(∀ j,j<k→fU l j=true)∧((l.drop k).all fun x=>gq x.s)=l.all fun x=>gq x.s) (fun k=>l.length - k) 0 (by simp) (bB (by simp [lk])) (fun k hk K' hN hX hR=>?_)
   obtain ⟨dn,hk2,eV⟩:=hk
   have hw:=Jl vp hk2
   simp -implicitDefEqProofs only [go_sem,Int.reduceNegSucc]
   refine ak (fun hg=>?_) (fun hg=>?_)
   ·have aA:k<l.length:=by simp at hg;omega
    have hx:=gR aA
    have h48:(l[k]'aA).cells.drop 0=(l[k]'aA).cells:=rfl
    have ux:fU l k=false→ew l=false:=fun h=>by
     simp -implicitDefEqProofs only [ew,Bool.and_eq_false_iff]
     left
     rw [Bool.eq_false_iff]
     intro ht
     simp -implicitDefEqProofs only [iw,Bool.and_eq_true,List.all_eq_true,List.mem_range] at ht
     have:=ht.2 k aA
     rw [h] at this;cases this
    have Ds:gq (l[k]'aA).s=false→ew l=false:=fun h=>by
     have:(l.all fun x=>gq x.s)=false:=oz aA eV h
     simp -implicitDefEqProofs only [ew,this,Bool.and_false]
    have nx:∀ e h,fU l k=true→gq (l[k]'aA).s=true→cV 0 ⟨e,h⟩ ⟨[(18,.rv (.int .i64 (k+1:Nat))),(17,.rv (.int .i64 l.length)),(0,.rv (.sl 49 (bk l)))],[]⟩→K' .normal ⟨e,h⟩:=fun e h h1 h2 he=>hN (k+1) _ _ ⟨by omega,fun j hj=>by
     rcases Nat.lt_or_ge j k with h | h
     ·exact hk2 j h
     ·obtain rfl:j=k:=by omega
      exact h1,oA aA eV h2⟩ (by omega) he
    have wu:=dr (k:=k) (by omega)
    clear hN hX hK
    by_cases dw:0<k
    ·have hn:fU l k=(jV l k).isSome:=by simp [fU];intro h;omega
     have hgt:decide ((k:Int)>0)=true:=decide_eq_true (by omega)
     have bY:=SZ l k dw aA hw hb;have y_2:=II (l[k]'aA).s;repeat' (first | (simp -implicitDefEqProofs only [go_sem,Int.reduceNegSucc,hgt,hlen,hx,aq,kE,vT,wu]) | (with_reducible refine aC ?_) | (with_reducible first | refine aM bY ?_ | refine aN bY ?_) | (with_reducible first | refine aM y_2 ?_ | refine aN y_2 ?_) | ((first | refine ak (fun hg=>?_) (fun hg=>?_) | refine aI (fun hg=>?_) (fun hg=>?_) | refine aJ (fun hg=>?_) (fun hg=>?_)) <;> try simp -implicitDefEqProofs only [hg,Bool.not_true,Bool.not_false]) | ((with_reducible apply And.intro);focus (first | trivial | omega | decide | (simp -implicitDefEqProofs only [maxLen];omega) | (simp [maxLen,aj,aq,ax,aG,av,aF,aE] <;> omega))) | fail)
     all_goals first
      | (refine hR _ _ (bad _ _ rfl (ux ?_));rw [hn];simpa using hg;done)
      | (refine hR _ _ (bad _ _ rfl (Ds ?_));simpa using hg;done)
      | (refine nx _ _ ?_ ?_ (bB (by simp [lk])) <;> simp_all;done)
    ·obtain rfl:k=0:=by omega
     have hn:fU l 0=true:=by simp [fU]
     have hgt:decide (((0:Nat):Int)>0)=false:=rfl
     have di:=II (l[0]'aA).s;repeat' (first | (simp -implicitDefEqProofs only [go_sem,Int.reduceNegSucc,hgt,hlen,hx,aq,kE,vT,wu]) | (with_reducible refine aC ?_) | (with_reducible first | refine aM di ?_ | refine aN di ?_) | ((first | refine ak (fun hg=>?_) (fun hg=>?_) | refine aI (fun hg=>?_) (fun hg=>?_) | refine aJ (fun hg=>?_) (fun hg=>?_)) <;> try simp -implicitDefEqProofs only [hg,Bool.not_true,Bool.not_false]) | ((with_reducible apply And.intro);focus (first | trivial | omega | decide | (simp -implicitDefEqProofs only [maxLen];omega) | (simp [maxLen,aj,aq,ax,aG,av,aF,aE] <;> omega))) | fail)
     all_goals first
      | (refine hR _ _ (bad _ _ rfl (Ds ?_));simpa using hg;done)
      | (refine nx _ _ hn ?_ (bB (by simp [lk]));simpa using hg)
   ·have aA:k=l.length:=by simp at hg;omega
    subst aA
    have hall:=oy (Nat.le_refl _) eV
    have hs:iw l=true:=by
     simp -implicitDefEqProofs only [iw,Bool.and_eq_true,decide_eq_true_eq,List.all_eq_true,List.mem_range]
     exact ⟨⟨by omega,vp⟩,hk2⟩
    simp -implicitDefEqProofs only [go_sem,Int.reduceNegSucc]
    refine hX _ _ _ ?_
    repeat' (first | (simp -implicitDefEqProofs only [go_sem,Int.reduceNegSucc]) | (with_reducible refine aC ?_) | ((first | refine ak (fun hg=>?_) (fun hg=>?_) | refine aI (fun hg=>?_) (fun hg=>?_) | refine aJ (fun hg=>?_) (fun hg=>?_)) <;> try simp -implicitDefEqProofs only [hg,Bool.not_true,Bool.not_false]) | ((with_reducible apply And.intro);focus (first | trivial | omega | decide | (simp -implicitDefEqProofs only [maxLen];omega) | (simp [maxLen,aj,aq,ax,aG,av,aF,aE] <;> omega))) | fail)
    exact (hK _ _ (cm (by rw [ew,hs,hall];rfl))).2
end Go.ay

namespace Go.ay
open Go
theorem Pt:bC Go.Proofs.Try.prog 104 25 (fc Go.Proofs.Try.prog 104 25 [(.t 2)]) [(.t 2)]:=bP (by kernel_rfl)
theorem PD:bC Go.Proofs.Try.prog 75 33 (fc Go.Proofs.Try.prog 75 33 [(.t 2)]) [(.t 2)]:=bP (by kernel_rfl)
theorem PB:bC Go.Proofs.Try.prog 77 7 (fc Go.Proofs.Try.prog 77 7 [(.t 2)]) [(.t 2)]:=bP (by kernel_rfl)
theorem Pr:bC Go.Proofs.Try.prog 105 19 (fc Go.Proofs.Try.prog 105 19 [(.t 4)]) [(.t 4)]:=bP (by kernel_rfl)
theorem Pq:bC Go.Proofs.Try.prog 76 9 (fc Go.Proofs.Try.prog 76 9 [(.t 4)]) [(.t 4)]:=bP (by kernel_rfl)
theorem PA:bC Go.Proofs.Try.prog 46 18 (fc Go.Proofs.Try.prog 46 18 [(.t 2)]) [(.t 2)]:=bP (by kernel_rfl)
def lE (ys:List Int) (m:Int) (k:Nat):Int:=(ys.drop k).foldl (fun a b=>if b>a then b else a) m
theorem Qo {ys:List Int} {m:Int} {k:Nat} (h:k<ys.length):lE ys m k=lE ys (if ys[k]'h>m then ys[k]'h else m) (k+1):=by
 unfold lE;rw [List.drop_eq_getElem_cons h];rfl
theorem Qm {ys:List Int} {m:Int} {k:Nat} (h:ys.length≤k):lE ys m k=m:=by
 unfold lE;rw [List.drop_of_length_le h];rfl
theorem Sl (ys:List Int) (h0:0<ys.length) (hb:ys.length≤8589934592):aP Go.Proofs.Try.prog 104 [.rv (.sl 1 (aS ys))] [] [] (.rv (.int .i64 (lE ys (ys[0]'h0) 1))):=by
 refine dK Pt [.rv (.sl 1 (aS ys))] _ (by simp) (by simp [aW,bS,dA,bD,bU,au.sv,Ln.sv,Nd.sv]) (fun K hK=>?_)
 have hlen:=av ys
 have e0:decide (((ys.length:Nat):Int)<1)=false:=decide_eq_false (by omega)
 have hx0:=FW h0
 conv in fc _ _ _ _=>reduce
 simp -implicitDefEqProofs only [go_sem,Int.reduceNegSucc]
 repeat' (first | (simp -implicitDefEqProofs only [go_sem,Int.reduceNegSucc,hlen,e0,hx0]) | (with_reducible refine aC ?_) | ((first | refine ak (fun hg=>?_) (fun hg=>?_) | refine aI (fun hg=>?_) (fun hg=>?_) | refine aJ (fun hg=>?_) (fun hg=>?_)) <;> try simp -implicitDefEqProofs only [hg,Bool.not_true,Bool.not_false]) | ((with_reducible apply And.intro);focus (first | trivial | omega | decide | (simp -implicitDefEqProofs only [maxLen];omega) | (simp [maxLen,aj,aq,ax,aG,av,aF,aE] <;> omega))) | fail)
 refine dm (ι:=Nat×Int) (fun i=>[(4,.rv (.int .i64 i.1)),(3,.rv (.int .i64 i.2)),(0,.rv (.sl 1 (aS ys)))]) (fun _=>[]) (fun i=>i.1≤ys.length∧lE ys i.2 i.1=lE ys (ys[0]'h0) 1) (fun i=>ys.length - i.1) (1,ys[0]'h0) ⟨by dsimp only;omega,rfl⟩ (bB (by simp [lk])) (fun i hi K' hN hX hR=>?_)
 obtain ⟨k,m⟩:=i
 obtain ⟨dn,hk2⟩:=hi
 dsimp only at dn hk2 ⊢
 simp -implicitDefEqProofs only [hlen,go_sem,Int.reduceNegSucc]
 refine ak (fun hg=>?_) (fun hg=>?_)
 ·have aA:k<ys.length:=by simp at hg;omega
  have hx:=FW aA
  repeat' (first | (simp -implicitDefEqProofs only [go_sem,Int.reduceNegSucc,hlen,hx]) | (with_reducible refine aC ?_) | ((first | refine ak (fun hg=>?_) (fun hg=>?_) | refine aI (fun hg=>?_) (fun hg=>?_) | refine aJ (fun hg=>?_) (fun hg=>?_)) <;> try simp -implicitDefEqProofs only [hg,Bool.not_true,Bool.not_false]) | ((with_reducible apply And.intro);focus (first | trivial | omega | decide | (simp -implicitDefEqProofs only [maxLen];omega) | (simp [maxLen,aj,aq,ax,aG,av,aF,aE] <;> omega))) | fail)
  rw [dr (by omega)]
  exact hN (k+1,if ys[k]'aA>m then ys[k]'aA else m) _ _ ⟨by dsimp only;omega,by rw [← hk2];exact (Qo aA).symm⟩ (by dsimp only;omega) (bB (by simp [lk]))
 ·simp -implicitDefEqProofs only [go_sem,Int.reduceNegSucc]
  refine hX _ _ _ ?_
  repeat' (first | (simp -implicitDefEqProofs only [go_sem,Int.reduceNegSucc]) | (with_reducible refine aC ?_) | ((first | refine ak (fun hg=>?_) (fun hg=>?_) | refine aI (fun hg=>?_) (fun hg=>?_) | refine aJ (fun hg=>?_) (fun hg=>?_)) <;> try simp -implicitDefEqProofs only [hg,Bool.not_true,Bool.not_false]) | ((with_reducible apply And.intro);focus (first | trivial | omega | decide | (simp -implicitDefEqProofs only [maxLen];omega) | (simp [maxLen,aj,aq,ax,aG,av,aF,aE] <;> omega))) | fail)
  refine (hK _ _ (cm ?_)).2
  rw [← hk2,Qm (by simp at hg;omega)];rfl
def bM (l:List Nd) (k:Nat):List Int:=(List.range l.length).map fun j=>if j<k then (depth l j:Int) else 0
theorem sX (l:List Nd) (k:Nat):(bM l k).length=l.length:=by simp [bM]
theorem xd {l:List Nd} {k:Nat} (hk:k<l.length):(bM l k).set k (depth l k)=bM l (k+1):=by
 refine List.ext_getElem (by simp [bM]) (fun i h1 h2=>?_)
 simp -implicitDefEqProofs only [List.getElem_set,bM,List.getElem_map,List.getElem_range]
 by_cases h:k=i
 ·subst h;simp
 ·rw [if_neg h]
  by_cases hi:i<k
  ·rw [if_pos hi,if_pos (by omega)]
  ·rw [if_neg hi,if_neg (by omega)]
theorem Af (l:List Nd):bM l 0=List.replicate l.length 0:=by
 refine List.ext_getElem (by simp [bM]) (fun i h1 h2=>?_)
 simp [bM]
theorem Ad {l:List Nd} {k j:Nat} (hj:j<k) (hl:j<l.length):((bM l k).set k 1).getD j 0=depth l j:=by
 rw [List.getD_eq_getElem?_getD,List.getElem?_set_ne (by omega)]
 simp [bM,hl,hj]
theorem Ae {l:List Nd} {k:Nat} (hk:k<l.length):((bM l k).set k 1).set k (depth l k)=bM l (k+1):=by
 rw [List.set_set,xd hk]
def uI (l:List Nd):Int:=lE (bM l l.length) ((bM l l.length).getD 0 0) 1
theorem SY (l:List Nd) (h0:0<l.length) (hw:WF l l.length) (hb:l.length≤8589934592):aP Go.Proofs.Try.prog 75 [.rv (.sl 49 (bk l))] [] [] (.rv (.int .i64 (uI l))):=by
 refine dK PD [.rv (.sl 49 (bk l))] _ (by simp) (by simp [aW,bS,dA,bD,bU,au.sv,Ln.sv,Nd.sv]) (fun K hK=>?_)
 have hlen:=ax l
 conv in fc _ _ _ _=>reduce
 simp -implicitDefEqProofs only [go_sem,Int.reduceNegSucc]
 repeat' (first | (simp -implicitDefEqProofs only [go_sem,Int.reduceNegSucc,hlen,yU]) | (with_reducible refine aC ?_) | ((first | refine ak (fun hg=>?_) (fun hg=>?_) | refine aI (fun hg=>?_) (fun hg=>?_) | refine aJ (fun hg=>?_) (fun hg=>?_)) <;> try simp -implicitDefEqProofs only [hg,Bool.not_true,Bool.not_false]) | ((with_reducible apply And.intro);focus (first | trivial | omega | decide | (simp -implicitDefEqProofs only [maxLen];omega) | (simp [maxLen,aj,aq,ax,aG,av,aF,aE] <;> omega))) | fail)
 refine dm (ι:=Nat) (fun k=>[(11,.rv (.int .i64 k)),(10,.rv (.int .i64 l.length)),(9,.rv (.sl 49 (bk l))),(3,.row 0 0 l.length)]) (fun k=>[some (.row 1 0 (ah (aS (bM l k))))]) (fun k=>k≤l.length) (fun k=>l.length - k) 0 (by simp) (by rw [Af];exact bB (by simp [lk])) (fun k hk K' hN hX hR=>?_)
 simp -implicitDefEqProofs only [go_sem,Int.reduceNegSucc]
 refine ak (fun hg=>?_) (fun hg=>?_)
 ·have aA:k<l.length:=by simp at hg;omega
  have hx:=gR aA
  have iI:=sX l k
  have oH:=ff (l:=bM l k) (i:=k) (by omega)
  have iH:=av (bM l k)
  have kr:((bM l k).set k 1).length=l.length:=by simp [iI]
  have hpk:=kH aA
  have wu:=dr (k:=k) (by omega)
  have nx:∀ e,cV 0 ⟨e,[some (.row 1 0 (ah (aS (bM l (k+1))))),some (.var ((l[k]'aA).cells.map .rv))]⟩ ⟨[(11,.rv (.int .i64 (k+1:Nat))),(10,.rv (.int .i64 l.length)),(9,.rv (.sl 49 (bk l))),(3,.row 0 0 l.length)],[some (.row 1 0 (ah (aS (bM l (k+1)))))]⟩→K' .normal ⟨e,_⟩:=fun e he=>hN (k+1) _ _ (by omega) (by omega) he
  have hds:=xd aA
  have rS:=Ae aA
  by_cases dw:0<k
  ·have hgt:decide ((k:Int)>0)=true:=decide_eq_true (by omega)
   obtain ⟨p1,p2⟩:=hw.2 k dw aA
   obtain ⟨p,hp⟩:∃ p:Nat,aU l k=p:=⟨(aU l k).toNat,by omega⟩
   have oI:=ff (l:=(bM l k).set k 1) (i:=p) (by omega)
   have rR:=ff (l:=(bM l k).set k 1) (i:=k) (by omega)
   rw [Ad (by omega) (by omega)] at oI
   have rU:=av ((bM l k).set k 1)
   have qz:=Ag hw dw aA
   rw [hp,Int.toNat_natCast] at qz
   have wd:=dr (k:=depth l p) (by have:=tT (l:=l) p;unfold depth;omega)
   rw [← qz] at wd
   repeat' (first | (simp -implicitDefEqProofs only [go_sem,Int.reduceNegSucc,hgt,hlen,hx,aq,tK,qb,wu,oH,iI,iH,iu,hpk,hp,oI,rR,kr,rU,wd,rS]) | (with_reducible refine aC ?_) | ((first | refine ak (fun hg=>?_) (fun hg=>?_) | refine aI (fun hg=>?_) (fun hg=>?_) | refine aJ (fun hg=>?_) (fun hg=>?_)) <;> try simp -implicitDefEqProofs only [hg,Bool.not_true,Bool.not_false]) | ((with_reducible apply And.intro);focus (first | trivial | omega | decide | (simp -implicitDefEqProofs only [maxLen];omega) | (simp [maxLen,aj,aq,ax,aG,av,aF,aE] <;> omega))) | fail)
   exact nx _ (sZ _ (by simp) (by simp [pW,ag,bV,cC]) (by simp [lk,bh,bT,eF]))
  ·obtain rfl:k=0:=by omega
   have hgt:decide (((0:Nat):Int)>0)=false:=rfl
   rw [Ah] at hds
   repeat' (first | (simp -implicitDefEqProofs only [go_sem,Int.reduceNegSucc,hgt,hlen,hx,aq,tK,qb,wu,oH,iI,iH,iu]) | (with_reducible refine aC ?_) | ((first | refine ak (fun hg=>?_) (fun hg=>?_) | refine aI (fun hg=>?_) (fun hg=>?_) | refine aJ (fun hg=>?_) (fun hg=>?_)) <;> try simp -implicitDefEqProofs only [hg,Bool.not_true,Bool.not_false]) | ((with_reducible apply And.intro);focus (first | trivial | omega | decide | (simp -implicitDefEqProofs only [maxLen];omega) | (simp [maxLen,aj,aq,ax,aG,av,aF,aE] <;> omega))) | fail)
   rw [show (1:Int)=((1:Nat):Int) from rfl,hds]
   exact nx _ (sZ _ (by simp) (by simp [pW,ag,bV,cC]) (by simp [lk,bh,bT,eF]))
 ·have aA:k=l.length:=by simp at hg;omega
  subst aA
  have hpos:0<(bM l l.length).length:=by rw [sX];exact h0
  have hm:=Sl (bM l l.length) hpos (by rw [sX];exact hb)
  have hml:=GH (id:=0) (v:=0) (n:=l.length) (bs:=[]) hm (.int _ _) (by simp [aS,bM]) (qG _)
  simp -implicitDefEqProofs only [go_sem,Int.reduceNegSucc]
  refine hX _ _ _ ?_
  have bY:=hml;repeat' (first | (simp -implicitDefEqProofs only [go_sem,Int.reduceNegSucc]) | (with_reducible refine aC ?_) | (refine ck bY (by simp [aV,ag];done) (by simp [bf,aY];done) ?_) | (refine dY bY (by simp [aV,ag];done) (by simp [bf,aY];done) ?_) | ((first | refine ak (fun hg=>?_) (fun hg=>?_) | refine aI (fun hg=>?_) (fun hg=>?_) | refine aJ (fun hg=>?_) (fun hg=>?_)) <;> try simp -implicitDefEqProofs only [hg,Bool.not_true,Bool.not_false]) | ((with_reducible apply And.intro);focus (first | trivial | omega | decide | (simp -implicitDefEqProofs only [maxLen];omega) | (simp [maxLen,aj,aq,ax,aG,av,aF,aE] <;> omega))) | fail)
  refine (hK _ _ (cm ?_)).2
  rw [uI,List.getD_eq_getElem?_getD,List.getElem?_eq_getElem hpos];rfl
theorem Qn {ys:List Int} {m b:Int} {k:Nat}:lE ys m k≤b↔m≤b∧∀ x∈ys.drop k,x≤b:=by
 unfold lE
 induction ys.drop k generalizing m with
 | nil=>simp
 | cons a r ih=>
   rw [List.foldl_cons,ih]
   by_cases h:a>m
   ·rw [if_pos h];simp;intro _;omega
   ·rw [if_neg h];simp;intro _ _;omega
theorem KL (l:List Nd) (h0:0<l.length):decide (uI l>256)=(List.range l.length).any (fun k=>decide (depth l k>256)):=by
 have hg:∀ k,k<l.length→(bM l l.length)[k]?=some (depth l k:Int):=fun k hk=>by simp [bM,hk]
 have:uI l≤256↔∀ k,k<l.length→depth l k≤256:=by
  rw [uI,Qn]
  constructor
  ·rintro ⟨h1,h2⟩ k hk
   rcases Nat.eq_zero_or_pos k with rfl | dw
   ·rw [List.getD_eq_getElem?_getD,hg 0 hk] at h1;simp at h1;omega
   ·have:=h2 (depth l k) (List.mem_iff_getElem?.2 ⟨k - 1,by rw [List.getElem?_drop,show 1+(k - 1)=k by omega,hg k hk]⟩)
    omega
  ·intro h
   refine ⟨by rw [List.getD_eq_getElem?_getD,hg 0 h0];have:=h 0 h0;simp;omega,fun x hx=>?_⟩
   obtain ⟨i,hi⟩:=List.mem_iff_getElem?.1 hx
   rw [List.getElem?_drop] at hi
   have hlt:1+i<l.length:=by have:=(List.getElem?_eq_some_iff.1 hi).1;rwa [sX] at this
   rw [hg _ hlt] at hi
   have:=h _ hlt
   simp at hi;omega
 rw [Bool.eq_iff_iff]
 simp -implicitDefEqProofs only [decide_eq_true_eq,List.any_eq_true,List.mem_range]
 constructor
 ·intro h
  apply Classical.byContradiction
  intro hn
  have:=this.2 (fun k hk=>by apply Classical.byContradiction;intro h2;exact hn ⟨k,hk,by omega⟩)
  omega
 ·rintro ⟨k,hk,h⟩
  apply Classical.byContradiction
  intro hn
  have:=this.1 (by omega) k hk
  omega
theorem SX (x:Nd):aP Go.Proofs.Try.prog 77 [x.sv] [] [] (.rv (.bool (!iz x.s))):=by
 refine dK PB [x.sv] _ (by simp) (by simp [aW,bS,dA,bD,bU,au.sv,Ln.sv,Nd.sv]) (fun K hK=>?_)
 conv in fc _ _ _ _=>reduce
 simp -implicitDefEqProofs only [go_sem,Int.reduceNegSucc]
 have h48:(x.cells.map U.rv).take 48=x.s.cells.map U.rv:=rfl
 have y_2:=SU x.s;repeat' (first | (simp -implicitDefEqProofs only [go_sem,Int.reduceNegSucc,aq,h48]) | (with_reducible refine aC ?_) | (with_reducible first | refine aM y_2 ?_ | refine aN y_2 ?_) | ((first | refine ak (fun hg=>?_) (fun hg=>?_) | refine aI (fun hg=>?_) (fun hg=>?_) | refine aJ (fun hg=>?_) (fun hg=>?_)) <;> try simp -implicitDefEqProofs only [hg,Bool.not_true,Bool.not_false]) | ((with_reducible apply And.intro);focus (first | trivial | omega | decide | (simp -implicitDefEqProofs only [maxLen];omega) | (simp [maxLen,aj,aq,ax,aG,av,aF,aE] <;> omega))) | fail)
 exact (hK _ _ (cm rfl)).2
theorem Sk (l:List Nd) (f:Nat) (p:Nd→Bool) (hf:∀ x:Nd,aP Go.Proofs.Try.prog f [x.sv] [] [] (.rv (.bool (p x)))) (hb:l.length≤8589934592) :
 aP Go.Proofs.Try.prog 105 [.rv (.sl 49 (bk l)),.fn f []] [] [] (.rv (.int .i64 (match l.findIdx? p with | some i=>((i:Nat):Int) | none=>-1))):=by
 refine dK Pr [.rv (.sl 49 (bk l)),.fn f []] _ (by simp) (by simp [aW,bS,dA,bD,bU,au.sv,Ln.sv,Nd.sv]) (fun K hK=>?_)
 have hlen:=ax l
 conv in fc _ _ _ _=>reduce
 simp -implicitDefEqProofs only [hlen,go_sem,Int.reduceNegSucc]
 refine dm (ι:=Nat) (fun k=>[(8,.rv (.int .i64 k)),(7,.rv (.int .i64 l.length)),(0,.rv (.sl 49 (bk l))),(1,.fn f [])]) (fun _=>[]) (fun k=>k≤l.length∧∀ j,(h:j<l.length)→j<k→p (l[j]'h)=false) (fun k=>l.length - k) 0 (by simp) (bB (by simp [lk])) (fun k hk K' hN hX hR=>?_)
 obtain ⟨dn,hk2⟩:=hk
 simp -implicitDefEqProofs only [go_sem,Int.reduceNegSucc]
 refine ak (fun hg=>?_) (fun hg=>?_)
 ·have aA:k<l.length:=by simp at hg;omega
  have hx:=gR aA
  have di:=hf (l[k]'aA);repeat' (first | (simp -implicitDefEqProofs only [go_sem,Int.reduceNegSucc,hlen,hx,aq,qb]) | (with_reducible refine aC ?_) | (with_reducible first | refine aM di ?_ | refine aN di ?_) | ((first | refine ak (fun hg=>?_) (fun hg=>?_) | refine aI (fun hg=>?_) (fun hg=>?_) | refine aJ (fun hg=>?_) (fun hg=>?_)) <;> try simp -implicitDefEqProofs only [hg,Bool.not_true,Bool.not_false]) | ((with_reducible apply And.intro);focus (first | trivial | omega | decide | (simp -implicitDefEqProofs only [maxLen];omega) | (simp [maxLen,aj,aq,ax,aG,av,aF,aE] <;> omega))) | fail)
  ·refine hR _ _ (hK _ _ (cm ?_)).2
   have:l.findIdx? p=some k:=by
    rw [List.findIdx?_eq_some_iff_getElem]
    exact ⟨aA,by simpa using hg,fun j hj=>by rw [hk2 j (by omega) hj];simp⟩
   rw [this];rfl
  ·rw [dr (by omega)]
   refine hN (k+1) _ _ ⟨by omega,fun j hj hji=>?_⟩ (by omega) (bB (by simp [lk]))
   rcases Nat.lt_or_ge j k with h | h
   ·exact hk2 j hj h
   ·obtain rfl:j=k:=by omega
    simpa using hg
 ·have aA:k=l.length:=by simp at hg;omega
  subst aA
  simp -implicitDefEqProofs only [go_sem,Int.reduceNegSucc]
  refine hX _ _ _ ?_
  repeat' (first | (simp -implicitDefEqProofs only [go_sem,Int.reduceNegSucc]) | (with_reducible refine aC ?_) | ((first | refine ak (fun hg=>?_) (fun hg=>?_) | refine aI (fun hg=>?_) (fun hg=>?_) | refine aJ (fun hg=>?_) (fun hg=>?_)) <;> try simp -implicitDefEqProofs only [hg,Bool.not_true,Bool.not_false]) | ((with_reducible apply And.intro);focus (first | trivial | omega | decide | (simp -implicitDefEqProofs only [maxLen];omega) | (simp [maxLen,aj,aq,ax,aG,av,aF,aE] <;> omega))) | fail)
  refine (hK _ _ (cm ?_)).2
  have:l.findIdx? p=none:=by
   rw [List.findIdx?_eq_none_iff]
   intro x hx
   obtain ⟨j,hj,rfl⟩:=List.getElem_of_mem hx
   exact hk2 j hj hj
  rw [this];rfl
theorem Sj (l:List Nd) (f:Nat) (p:Nd→Bool) (hf:∀ x:Nd,aP Go.Proofs.Try.prog f [x.sv] [] [] (.rv (.bool (p x)))) (hb:l.length≤8589934592) :
 aP Go.Proofs.Try.prog 76 [.rv (.sl 49 (bk l)),.fn f []] [] [] (.rv (.bool (l.any p))):=by
 refine dK Pq [.rv (.sl 49 (bk l)),.fn f []] _ (by simp) (by simp [aW,bS,dA,bD,bU,au.sv,Ln.sv,Nd.sv]) (fun K hK=>?_)
 conv in fc _ _ _ _=>reduce
 simp -implicitDefEqProofs only [go_sem,Int.reduceNegSucc]
 have dH:=Sk l f p hf hb;repeat' (first | (simp -implicitDefEqProofs only [go_sem,Int.reduceNegSucc]) | (with_reducible refine aC ?_) | (with_reducible first | refine aM dH ?_ | refine aN dH ?_) | ((first | refine ak (fun hg=>?_) (fun hg=>?_) | refine aI (fun hg=>?_) (fun hg=>?_) | refine aJ (fun hg=>?_) (fun hg=>?_)) <;> try simp -implicitDefEqProofs only [hg,Bool.not_true,Bool.not_false]) | ((with_reducible apply And.intro);focus (first | trivial | omega | decide | (simp -implicitDefEqProofs only [maxLen];omega) | (simp [maxLen,aj,aq,ax,aG,av,aF,aE] <;> omega))) | fail)
 refine (hK _ _ (cm ?_)).2
 have:(l.findIdx? p).isSome=l.any p:=List.findIdx?_isSome
 rw [← this]
 cases l.findIdx? p <;> simp [lk]
theorem IJ (l:List Nd) (hb:l.length≤8589934592):aP Go.Proofs.Try.prog 46 [.rv (.sl 49 (bk l))] [] [] (.rv (.int .i64 (gX l))):=by
 refine dK PA [.rv (.sl 49 (bk l))] _ (by simp) (by simp [aW,bS,dA,bD,bU,au.sv,Ln.sv,Nd.sv]) (fun K hK=>?_)
 have hlen:=ax l
 conv in fc _ _ _ _=>reduce
 simp -implicitDefEqProofs only [go_sem,Int.reduceNegSucc]
 cases ht:ew l with
 | false=>
   have hc:=IK l hb
   rw [ht] at hc
   have dX:=hc;repeat' (first | (simp -implicitDefEqProofs only [go_sem,Int.reduceNegSucc]) | (with_reducible refine aC ?_) | (with_reducible first | refine aM dX ?_ | refine aN dX ?_) | ((first | refine ak (fun hg=>?_) (fun hg=>?_) | refine aI (fun hg=>?_) (fun hg=>?_) | refine aJ (fun hg=>?_) (fun hg=>?_)) <;> try simp -implicitDefEqProofs only [hg,Bool.not_true,Bool.not_false]) | ((with_reducible apply And.intro);focus (first | trivial | omega | decide | (simp -implicitDefEqProofs only [maxLen];omega) | (simp [maxLen,aj,aq,ax,aG,av,aF,aE] <;> omega))) | fail)
   exact (hK _ _ (cm (by simp [gX,ht,lk]))).2
 | true=>
   have hc:=IK l hb
   rw [ht] at hc
   have hs:cP l:=vZ.1 (by unfold ew at ht;simp -implicitDefEqProofs only [Bool.and_eq_true] at ht;exact ht.1)
   have hd:=KL l hs.pos
   have eS:=hc;have fB:=SY l hs.pos hs.wf hb;have gu:=Sj l 77 (fun x=>!iz x.s) SX hb;repeat' (first | (simp -implicitDefEqProofs only [go_sem,Int.reduceNegSucc,hlen]) | (with_reducible refine aC ?_) | (with_reducible first | refine aM eS ?_ | refine aN eS ?_) | (with_reducible first | refine aM fB ?_ | refine aN fB ?_) | (with_reducible first | refine aM gu ?_ | refine aN gu ?_) | ((first | refine ak (fun hg=>?_) (fun hg=>?_) | refine aI (fun hg=>?_) (fun hg=>?_) | refine aJ (fun hg=>?_) (fun hg=>?_)) <;> try simp -implicitDefEqProofs only [hg,Bool.not_true,Bool.not_false]) | ((with_reducible apply And.intro);focus (first | trivial | omega | decide | (simp -implicitDefEqProofs only [maxLen];omega) | (simp [maxLen,aj,aq,ax,aG,av,aF,aE] <;> omega))) | fail)
   all_goals (refine (hK _ _ (cm ?_)).2;clear hK;(simp_all [gX,lk]) <;>(try (intros;omega)))
end Go.ay

namespace Go.ay
open Go
theorem OS:bC Go.Proofs.Try.prog 89 17 (fc Go.Proofs.Try.prog 89 17 [(.t 6)]) [(.t 6)]:=bP (by kernel_rfl)
theorem OW:bC Go.Proofs.Try.prog 66 41 (fc Go.Proofs.Try.prog 66 41 [(.t 2)]) [(.t 2)]:=bP (by kernel_rfl)
theorem OV:bC Go.Proofs.Try.prog 29 20 (fc Go.Proofs.Try.prog 29 20 [(.t 2)]) [(.t 2)]:=bP (by kernel_rfl)
theorem OU:bC Go.Proofs.Try.prog 45 16 (fc Go.Proofs.Try.prog 45 16 [(.t 4)]) [(.t 4)]:=bP (by kernel_rfl)
theorem OT:bC Go.Proofs.Try.prog 16 29 (fc Go.Proofs.Try.prog 16 29 [(.t 2)]) [(.t 2)]:=bP (by kernel_rfl)
def pg (l:List Nd) (a:Int) (n:Nat):Bool:=(aL l n).any fun (j:Nat)=>decide ((j:Int)=a)
theorem Jw {l:List Nd} {a:Int} {n i:Nat} (h:i<(aL l n).length) (hp:(((aL l n)[i]'h:Nat):Int)=a):pg l a n=true:=by
 unfold pg;rw [List.any_eq_true];exact ⟨_,List.getElem_mem h,by simpa using hp⟩
theorem Jx {l:List Nd} {a:Int} {n:Nat} (hn:∀ j,(h:j<(aL l n).length)→(((aL l n)[j]'h:Nat):Int)≠a):pg l a n=false:=by
 unfold pg;rw [List.any_eq_false]
 intro x hx
 obtain ⟨j,hj,rfl⟩:=List.getElem_of_mem hx
 simpa using hn j hj
theorem SN (l:List Nd) (a:Int) (n:Nat) (hw:WF l (n+1)) (hn:n<l.length) (hb:l.length≤8589934592) :
 aP Go.Proofs.Try.prog 89 [.rv (.sl 49 (bk l)),.rv (.int .i64 a),.rv (.int .i64 n)] [] [] (.rv (.bool (pg l a n))):=by
 refine dK OS [.rv (.sl 49 (bk l)),.rv (.int .i64 a),.rv (.int .i64 n)] _ (by simp) (by simp [aW,bS,dA,bD,bU,au.sv,Ln.sv,Nd.sv]) (fun K hK=>?_)
 have hlen:=ax l
 conv in fc _ _ _ _=>reduce
 simp -implicitDefEqProofs only [go_sem,Int.reduceNegSucc]
 refine dm (ι:=Nat) (fun i=>[(2,.rv (.int .i64 (gL (aL l n) i))),(0,.rv (.sl 49 (bk l))),(1,.rv (.int .i64 a))]) (fun _=>[]) (fun i=>i≤(aL l n).length∧∀ j,(h:j<(aL l n).length)→j<i→(((aL l n)[j]'h:Nat):Int)≠a) (fun i=>(aL l n).length - i) 0 (by simp) (by rw [uv];exact bB (by simp [lk])) (fun i hi K' hN hX hR=>?_)
 obtain ⟨hi1,hi2⟩:=hi
 have eE:=tT (l:=l) n
 simp -implicitDefEqProofs only [go_sem,Int.reduceNegSucc]
 refine ak (fun hg=>?_) (fun hg=>?_)
 ·have ek:i<(aL l n).length:=qk.1 (by simpa using hg)
  have rP:=uu ek
  have hlt:(aL l n)[i]<n+1:=tU (by omega) ek
  have hx:=gR (l:=l) (i:=(aL l n)[i]) (by omega)
  have hpar:=kH (l:=l) (n:=(aL l n)[i]) (by omega)
  have jn:=yI hw n (by omega) i ek
  repeat' (first | (simp -implicitDefEqProofs only [go_sem,Int.reduceNegSucc,hlen,aq,kE,rP,hx,hpar,jn]) | (with_reducible refine aC ?_) | ((first | refine ak (fun hg=>?_) (fun hg=>?_) | refine aI (fun hg=>?_) (fun hg=>?_) | refine aJ (fun hg=>?_) (fun hg=>?_)) <;> try simp -implicitDefEqProofs only [hg,Bool.not_true,Bool.not_false]) | ((with_reducible apply And.intro);focus (first | trivial | omega | decide | (simp -implicitDefEqProofs only [maxLen];omega) | (simp [maxLen,aj,aq,ax,aG,av,aF,aE] <;> omega))) | fail)
  ·exact hR _ _ (hK _ _ (cm (by rw [Jw ek (by simpa using hg)];rfl))).2
  ·refine hN (i+1) _ _ ⟨by omega,fun j hj hji=>?_⟩ (by omega) (bB (by simp [lk]))
   rcases Nat.lt_or_ge j i with h | h
   ·exact hi2 j hj h
   ·obtain rfl:j=i:=by omega
    simpa using hg
 ·have ek:¬ i<(aL l n).length:=fun h=>by have:=qk.2 h;simp at hg;omega
  simp -implicitDefEqProofs only [go_sem,Int.reduceNegSucc]
  refine hX _ _ _ ?_
  repeat' (first | (simp -implicitDefEqProofs only [go_sem,Int.reduceNegSucc]) | (with_reducible refine aC ?_) | ((first | refine ak (fun hg=>?_) (fun hg=>?_) | refine aI (fun hg=>?_) (fun hg=>?_) | refine aJ (fun hg=>?_) (fun hg=>?_)) <;> try simp -implicitDefEqProofs only [hg,Bool.not_true,Bool.not_false]) | ((with_reducible apply And.intro);focus (first | trivial | omega | decide | (simp -implicitDefEqProofs only [maxLen];omega) | (simp [maxLen,aj,aq,ax,aG,av,aF,aE] <;> omega))) | fail)
  exact (hK _ _ (cm (by rw [Jx fun j hj=>hi2 j hj (by omega)];rfl))).2
theorem Qx {l:List Nd} {k:Nat} (hk:0<k):fU l k=(!(decide (aU l k<0) || decide (aU l k≥k) || !pg l (aU l k) (k - 1))):=by
 have h1:fU l k=pg l (aU l k) (k - 1):=by
  have:decide (k=0)=false:=decide_eq_false (by omega)
  simp -implicitDefEqProofs only [fU,this,Bool.false_or,jV,pg,List.findIdx?_isSome]
 rw [h1]
 cases h:pg l (aU l k) (k - 1) with
 | false=>simp
 | true=>
   rw [← h1] at h
   have dw:¬ k=0:=by omega
   simp [fU,dw] at h
   obtain ⟨a,b,_⟩:=Da h
   simp;omega
theorem SR (l:List Nd) (hb:l.length≤8589934592):aP Go.Proofs.Try.prog 66 [.rv (.sl 49 (bk l))] [] [] (.rv (.bool (iw l))):=by
 refine dK OW [.rv (.sl 49 (bk l))] _ (by simp) (by simp [aW,bS,dA,bD,bU,au.sv,Ln.sv,Nd.sv]) (fun K hK=>?_)
 have bad:∀ e h,lk e 2 = .rv (.bool false)→iw l=false→K .ret ⟨e,h⟩:=fun e h l2 hf=>(hK _ _ (cm (by rw [l2,hf]))).2
 have hlen:=ax l
 conv in fc _ _ _ _=>reduce
 simp -implicitDefEqProofs only [hlen,go_sem,Int.reduceNegSucc]
 by_cases oM:l.length=0
 ·have e0:(((l.length:Nat):Int) == 0)=true:=by simp [oM]
  repeat' (first | (simp -implicitDefEqProofs only [go_sem,Int.reduceNegSucc,e0,hlen]) | (with_reducible refine aC ?_) | ((first | refine ak (fun hg=>?_) (fun hg=>?_) | refine aI (fun hg=>?_) (fun hg=>?_) | refine aJ (fun hg=>?_) (fun hg=>?_)) <;> try simp -implicitDefEqProofs only [hg,Bool.not_true,Bool.not_false]) | ((with_reducible apply And.intro);focus (first | trivial | omega | decide | (simp -implicitDefEqProofs only [maxLen];omega) | (simp [maxLen,aj,aq,ax,aG,av,aF,aE] <;> omega))) | fail)
  exact bad _ _ rfl (by simp [iw,oM])
 ·have e0:(((l.length:Nat):Int) == 0)=false:=by simp [oM]
  have hx0:=gR (l:=l) (i:=0) (by omega)
  have gl:=kH (l:=l) (n:=0) (by omega)
  repeat' (first | (simp -implicitDefEqProofs only [go_sem,Int.reduceNegSucc,e0,hlen,hx0,aq,kE,gl]) | (with_reducible refine aC ?_) | ((first | refine ak (fun hg=>?_) (fun hg=>?_) | refine aI (fun hg=>?_) (fun hg=>?_) | refine aJ (fun hg=>?_) (fun hg=>?_)) <;> try simp -implicitDefEqProofs only [hg,Bool.not_true,Bool.not_false]) | ((with_reducible apply And.intro);focus (first | trivial | omega | decide | (simp -implicitDefEqProofs only [maxLen];omega) | (simp [maxLen,aj,aq,ax,aG,av,aF,aE] <;> omega))) | fail)
  ·exact bad _ _ rfl (by simp [iw];intro _ h;simp at hg;exact absurd h hg)
  ·have vp:aU l 0 = -1:=by simpa using hg
   refine dm (ι:=Nat) (fun k=>[(3,.rv (.int .i64 k)),(0,.rv (.sl 49 (bk l)))]) (fun _=>[]) (fun k=>0<k∧k≤l.length∧(∀ j,j<k→fU l j=true)) (fun k=>l.length - k) 1 ⟨by omega,by omega,fun j hj=>by simp [fU];omega⟩ (bB (by simp [lk])) (fun k hk K' hN hX hR=>?_)
   obtain ⟨dw,dn,hk2⟩:=hk
   have hw:=Jl vp hk2
   simp -implicitDefEqProofs only [hlen,go_sem,Int.reduceNegSucc]
   refine ak (fun hg=>?_) (fun hg=>?_)
   ·have aA:k<l.length:=by simp at hg;omega
    have hx:=gR aA
    have hpk:=kH aA
    have wd:=uj dw (by omega)
    have wu:=dr (k:=k) (by omega)
    have xT:=Qx (l:=l) dw
    have ux:fU l k=false→iw l=false:=fun h=>by
     rw [Bool.eq_false_iff]
     intro ht
     simp -implicitDefEqProofs only [iw,Bool.and_eq_true,List.all_eq_true,List.mem_range] at ht
     have:=ht.2 k aA
     rw [h] at this;cases this
    have nx:∀ e h,fU l k=true→cV 0 ⟨e,h⟩ ⟨[(3,.rv (.int .i64 (k+1:Nat))),(0,.rv (.sl 49 (bk l)))],[]⟩→K' .normal ⟨e,h⟩:=fun e h h1 he=>hN (k+1) _ _ ⟨by omega,by omega,fun j hj=>by
     rcases Nat.lt_or_ge j k with h | h
     ·exact hk2 j h
     ·obtain rfl:j=k:=by omega
      exact h1⟩ (by omega) he
    have hwk:WF l (k - 1+1):=by rw [show k - 1+1=k by omega];exact hw
    have bY:=SN l (aU l k) (k - 1) hwk (by omega) hb;repeat' (first | (simp -implicitDefEqProofs only [go_sem,Int.reduceNegSucc,hlen,hx,hpk,aq,kE,wd,wu]) | (with_reducible refine aC ?_) | (with_reducible first | refine aM bY ?_ | refine aN bY ?_) | ((first | refine ak (fun hg=>?_) (fun hg=>?_) | refine aI (fun hg=>?_) (fun hg=>?_) | refine aJ (fun hg=>?_) (fun hg=>?_)) <;> try simp -implicitDefEqProofs only [hg,Bool.not_true,Bool.not_false]) | ((with_reducible apply And.intro);focus (first | trivial | omega | decide | (simp -implicitDefEqProofs only [maxLen];omega) | (simp [maxLen,aj,aq,ax,aG,av,aF,aE] <;> omega))) | fail)
    all_goals first
     | (refine hR _ _ (bad _ _ rfl (ux ?_));rw [xT];clear xT ux nx hK hN hX hR bad;simp_all;done)
     | (refine nx _ _ ?_ (bB (by simp [lk]));rw [xT];clear xT ux nx hK hN hX hR bad;(simp_all) <;> omega)
   ·have aA:k=l.length:=by simp at hg;omega
    subst aA
    simp -implicitDefEqProofs only [go_sem,Int.reduceNegSucc]
    refine hX _ _ _ ?_
    repeat' (first | (simp -implicitDefEqProofs only [go_sem,Int.reduceNegSucc]) | (with_reducible refine aC ?_) | ((first | refine ak (fun hg=>?_) (fun hg=>?_) | refine aI (fun hg=>?_) (fun hg=>?_) | refine aJ (fun hg=>?_) (fun hg=>?_)) <;> try simp -implicitDefEqProofs only [hg,Bool.not_true,Bool.not_false]) | ((with_reducible apply And.intro);focus (first | trivial | omega | decide | (simp -implicitDefEqProofs only [maxLen];omega) | (simp [maxLen,aj,aq,ax,aG,av,aF,aE] <;> omega))) | fail)
    refine (hK _ _ (cm ?_)).2
    have hs:iw l=true:=by
     simp -implicitDefEqProofs only [iw,Bool.and_eq_true,decide_eq_true_eq,List.all_eq_true,List.mem_range]
     exact ⟨⟨by omega,vp⟩,hk2⟩
    rw [hs];rfl
theorem SQ (l:List Nd) (hb:l.length≤8589934592):aP Go.Proofs.Try.prog 29 [.rv (.sl 49 (bk l))] [] [] (.rv (.bool (ew l))):=by
 refine dK OV [.rv (.sl 49 (bk l))] _ (by simp) (by simp [aW,bS,dA,bD,bU,au.sv,Ln.sv,Nd.sv]) (fun K hK=>?_)
 have bad:∀ e h,lk e 2 = .rv (.bool false)→ew l=false→K .ret ⟨e,h⟩:=fun e h l2 hf=>(hK _ _ (cm (by rw [l2,hf]))).2
 have hlen:=ax l
 conv in fc _ _ _ _=>reduce
 simp -implicitDefEqProofs only [go_sem,Int.reduceNegSucc]
 have y_2:=SR l hb;repeat' (first | (simp -implicitDefEqProofs only [go_sem,Int.reduceNegSucc]) | (with_reducible refine aC ?_) | (with_reducible first | refine aM y_2 ?_ | refine aN y_2 ?_) | ((first | refine ak (fun hg=>?_) (fun hg=>?_) | refine aI (fun hg=>?_) (fun hg=>?_) | refine aJ (fun hg=>?_) (fun hg=>?_)) <;> try simp -implicitDefEqProofs only [hg,Bool.not_true,Bool.not_false]) | ((with_reducible apply And.intro);focus (first | trivial | omega | decide | (simp -implicitDefEqProofs only [maxLen];omega) | (simp [maxLen,aj,aq,ax,aG,av,aF,aE] <;> omega))) | fail)
 ·exact bad _ _ rfl (by simp at hg;simp [ew,hg])
 ·have hs:iw l=true:=by simpa using hg
  simp -implicitDefEqProofs only [hlen,go_sem,Int.reduceNegSucc]
  refine dm (ι:=Nat) (fun k=>[(9,.rv (.int .i64 k)),(8,.rv (.int .i64 l.length)),(0,.rv (.sl 49 (bk l)))]) (fun _=>[]) (fun k=>k≤l.length∧((l.drop k).all fun x=>gq x.s)=l.all fun x=>gq x.s) (fun k=>l.length - k) 0 (by simp) (bB (by simp [lk])) (fun k hk K' hN hX hR=>?_)
  obtain ⟨dn,eV⟩:=hk
  simp -implicitDefEqProofs only [go_sem,Int.reduceNegSucc]
  refine ak (fun hg=>?_) (fun hg=>?_)
  ·have aA:k<l.length:=by simp at hg;omega
   have hx:=gR aA
   have wu:=dr (k:=k) (by omega)
   have di:=SL (l[k]'aA).s;repeat' (first | (simp -implicitDefEqProofs only [go_sem,Int.reduceNegSucc,hlen,hx,aq,kE,vT,wu]) | (with_reducible refine aC ?_) | (with_reducible first | refine aM di ?_ | refine aN di ?_) | ((first | refine ak (fun hg=>?_) (fun hg=>?_) | refine aI (fun hg=>?_) (fun hg=>?_) | refine aJ (fun hg=>?_) (fun hg=>?_)) <;> try simp -implicitDefEqProofs only [hg,Bool.not_true,Bool.not_false]) | ((with_reducible apply And.intro);focus (first | trivial | omega | decide | (simp -implicitDefEqProofs only [maxLen];omega) | (simp [maxLen,aj,aq,ax,aG,av,aF,aE] <;> omega))) | fail)
   ·refine hR _ _ (bad _ _ rfl ?_)
    have:(l.all fun x=>gq x.s)=false:=oz aA eV (by simpa using hg)
    simp -implicitDefEqProofs only [ew,this,Bool.and_false]
   ·exact hN (k+1) _ _ ⟨by omega,oA aA eV (by simpa using hg)⟩ (by omega) (bB (by simp [lk]))
  ·have aA:k=l.length:=by simp at hg;omega
   subst aA
   have hall:=oy (Nat.le_refl _) eV
   simp -implicitDefEqProofs only [go_sem,Int.reduceNegSucc]
   refine hX _ _ _ ?_
   repeat' (first | (simp -implicitDefEqProofs only [go_sem,Int.reduceNegSucc]) | (with_reducible refine aC ?_) | ((first | refine ak (fun hg=>?_) (fun hg=>?_) | refine aI (fun hg=>?_) (fun hg=>?_) | refine aJ (fun hg=>?_) (fun hg=>?_)) <;> try simp -implicitDefEqProofs only [hg,Bool.not_true,Bool.not_false]) | ((with_reducible apply And.intro);focus (first | trivial | omega | decide | (simp -implicitDefEqProofs only [maxLen];omega) | (simp [maxLen,aj,aq,ax,aG,av,aF,aE] <;> omega))) | fail)
   exact (hK _ _ (cm (by rw [ew,hs,hall];rfl))).2
theorem SP (l:List Nd) (n:Nat) (hw:WF l (n+1)) (hn:n<l.length) (hb:l.length≤8589934592) :
 aP Go.Proofs.Try.prog 45 [.rv (.sl 49 (bk l)),.rv (.int .i64 n)] [] [] (.rv (.int .i64 (depth l n))):=by
 refine dK OU [.rv (.sl 49 (bk l)),.rv (.int .i64 n)] _ (by simp) (by simp [aW,bS,dA,bD,bU,au.sv,Ln.sv,Nd.sv]) (fun K hK=>?_)
 have hlen:=ax l
 conv in fc _ _ _ _=>reduce
 simp -implicitDefEqProofs only [go_sem,Int.reduceNegSucc]
 refine dm (ι:=Nat) (fun i=>[(1,.rv (.int .i64 (gL (aL l n) i))),(0,.rv (.sl 49 (bk l))),(5,.rv (.int .i64 i))]) (fun _=>[]) (fun i=>i≤(aL l n).length) (fun i=>(aL l n).length - i) 0 (by simp) (by rw [uv];exact bB (by simp [lk])) (fun i hi1 K' hN hX hR=>?_)
 have eE:=tT (l:=l) n
 simp -implicitDefEqProofs only [go_sem,Int.reduceNegSucc]
 refine ak (fun hg=>?_) (fun hg=>?_)
 ·have ek:i<(aL l n).length:=qk.1 (by simpa using hg)
  have rP:=uu ek
  have hlt:(aL l n)[i]<n+1:=tU (by omega) ek
  have hx:=gR (l:=l) (i:=(aL l n)[i]) (by omega)
  have hpar:=kH (l:=l) (n:=(aL l n)[i]) (by omega)
  have jn:=yI hw n (by omega) i ek
  have wu:=dr (k:=i) (by omega)
  repeat' (first | (simp -implicitDefEqProofs only [go_sem,Int.reduceNegSucc,hlen,aq,kE,rP,hx,hpar,jn,wu]) | (with_reducible refine aC ?_) | ((first | refine ak (fun hg=>?_) (fun hg=>?_) | refine aI (fun hg=>?_) (fun hg=>?_) | refine aJ (fun hg=>?_) (fun hg=>?_)) <;> try simp -implicitDefEqProofs only [hg,Bool.not_true,Bool.not_false]) | ((with_reducible apply And.intro);focus (first | trivial | omega | decide | (simp -implicitDefEqProofs only [maxLen];omega) | (simp [maxLen,aj,aq,ax,aG,av,aF,aE] <;> omega))) | fail)
  exact hN (i+1) _ _ (by omega) (by omega) (bB (by simp [lk]))
 ·have ek:¬ i<(aL l n).length:=fun h=>by have:=qk.2 h;simp at hg;omega
  have:i=(aL l n).length:=by omega
  subst this
  simp -implicitDefEqProofs only [go_sem,Int.reduceNegSucc]
  refine hX _ _ _ ?_
  repeat' (first | (simp -implicitDefEqProofs only [go_sem,Int.reduceNegSucc]) | (with_reducible refine aC ?_) | ((first | refine ak (fun hg=>?_) (fun hg=>?_) | refine aI (fun hg=>?_) (fun hg=>?_) | refine aJ (fun hg=>?_) (fun hg=>?_)) <;> try simp -implicitDefEqProofs only [hg,Bool.not_true,Bool.not_false]) | ((with_reducible apply And.intro);focus (first | trivial | omega | decide | (simp -implicitDefEqProofs only [maxLen];omega) | (simp [maxLen,aj,aq,ax,aG,av,aF,aE] <;> omega))) | fail)
  exact (hK _ _ (cm rfl)).2
theorem SO (l:List Nd) (hb:l.length≤8589934592):aP Go.Proofs.Try.prog 16 [.rv (.sl 49 (bk l))] [] [] (.rv (.int .i64 (gX l))):=by
 refine dK OT [.rv (.sl 49 (bk l))] _ (by simp) (by simp [aW,bS,dA,bD,bU,au.sv,Ln.sv,Nd.sv]) (fun K hK=>?_)
 have hlen:=ax l
 conv in fc _ _ _ _=>reduce
 simp -implicitDefEqProofs only [go_sem,Int.reduceNegSucc]
 have dH:=SQ l hb;repeat' (first | (simp -implicitDefEqProofs only [go_sem,Int.reduceNegSucc]) | (with_reducible refine aC ?_) | (with_reducible first | refine aM dH ?_ | refine aN dH ?_) | ((first | refine ak (fun hg=>?_) (fun hg=>?_) | refine aI (fun hg=>?_) (fun hg=>?_) | refine aJ (fun hg=>?_) (fun hg=>?_)) <;> try simp -implicitDefEqProofs only [hg,Bool.not_true,Bool.not_false]) | ((with_reducible apply And.intro);focus (first | trivial | omega | decide | (simp -implicitDefEqProofs only [maxLen];omega) | (simp [maxLen,aj,aq,ax,aG,av,aF,aE] <;> omega))) | fail)
 ·exact (hK _ _ (cm (by simp at hg;simp [gX,hg,lk]))).2
 ·have ht:ew l=true:=by simpa using hg
  have hs:cP l:=vZ.1 (by unfold ew at ht;simp -implicitDefEqProofs only [Bool.and_eq_true] at ht;exact ht.1)
  simp -implicitDefEqProofs only [hlen,go_sem,Int.reduceNegSucc]
  refine dm (ι:=Nat) (fun k=>[(9,.rv (.int .i64 k)),(8,.rv (.int .i64 l.length)),(0,.rv (.sl 49 (bk l)))]) (fun _=>[]) (fun k=>k≤l.length∧∀ j,(h:j<l.length)→j<k→iz (l[j]'h).s=true∧depth l j≤256) (fun k=>l.length - k) 0 (by simp) (bB (by simp [lk])) (fun k hk K' hN hX hR=>?_)
  obtain ⟨dn,eV⟩:=hk
  simp -implicitDefEqProofs only [go_sem,Int.reduceNegSucc]
  refine ak (fun hg=>?_) (fun hg=>?_)
  ·have aA:k<l.length:=by simp at hg;omega
   have hx:=gR aA
   have wu:=dr (k:=k) (by omega)
   have bad:∀ e h,lk e 2 = .rv (.int .i64 3)→(iz (l[k]'aA).s=false∨depth l k>256)→K' .ret ⟨e,h⟩:=fun e h l2 hf=>hR _ _ (hK _ _ (cm (by
    rw [l2];unfold gX
    rw [if_neg (by rw [ht];simp),if_pos]
    simp -implicitDefEqProofs only [Bool.or_eq_true,List.any_eq_true,List.mem_range,decide_eq_true_eq,Bool.not_eq_true']
    rcases hf with h | h
    ·exact .inr ⟨_,List.getElem_mem aA,h⟩
    ·exact .inl (.inr ⟨k,aA,h⟩)))).2
   have nx:∀ e h,iz (l[k]'aA).s=true→depth l k≤256→cV 0 ⟨e,h⟩ ⟨[(9,.rv (.int .i64 (k+1:Nat))),(8,.rv (.int .i64 l.length)),(0,.rv (.sl 49 (bk l)))],[]⟩→K' .normal ⟨e,h⟩:=fun e h h1 h2 he=>hN (k+1) _ _ ⟨by omega,fun j hj hji=>by
    rcases Nat.lt_or_ge j k with h | h
    ·exact eV j hj h
    ·obtain rfl:j=k:=by omega
     exact ⟨h1,h2⟩⟩ (by omega) he
   have dX:=SM (l[k]'aA).s;have eS:=SP l k (hs.wf.mono (by omega)) aA hb;repeat' (first | (simp -implicitDefEqProofs only [go_sem,Int.reduceNegSucc,hlen,hx,aq,kE,vT,wu]) | (with_reducible refine aC ?_) | (with_reducible first | refine aM dX ?_ | refine aN dX ?_) | (with_reducible first | refine aM eS ?_ | refine aN eS ?_) | ((first | refine ak (fun hg=>?_) (fun hg=>?_) | refine aI (fun hg=>?_) (fun hg=>?_) | refine aJ (fun hg=>?_) (fun hg=>?_)) <;> try simp -implicitDefEqProofs only [hg,Bool.not_true,Bool.not_false]) | ((with_reducible apply And.intro);focus (first | trivial | omega | decide | (simp -implicitDefEqProofs only [maxLen];omega) | (simp [maxLen,aj,aq,ax,aG,av,aF,aE] <;> omega))) | fail)
   all_goals first
    | (refine bad _ _ rfl ?_;clear bad nx hK hN hX hR;(simp_all) <;> omega)
    | (refine nx _ _ ?_ ?_ (bB (by simp [lk])) <;> clear bad nx hK hN hX hR <;>(simp_all) <;> omega)
  ·have aA:k=l.length:=by simp at hg;omega
   subst aA
   simp -implicitDefEqProofs only [go_sem,Int.reduceNegSucc]
   refine hX _ _ _ ?_
   have hno:((List.range l.length).any (fun k=>decide (depth l k>256)) || l.any fun x=>!iz x.s)=false:=by
    rw [Bool.or_eq_false_iff,List.any_eq_false,List.any_eq_false]
    refine ⟨fun k hk=>?_,fun x hx=>?_⟩
    ·have:=(eV k (by simpa using hk) (by simpa using hk)).2;simp;omega
    ·obtain ⟨j,hj,rfl⟩:=List.getElem_of_mem hx
     simp [(eV j hj hj).1]
   have fin:gX l=if (l.length:Int)>65535 then 3 else 0:=by
    unfold gX
    rw [if_neg (by rw [ht];simp),Bool.or_assoc,hno]
    by_cases h:l.length>65535
    ·have:(l.length:Int)>65535:=by omega
     simp [h,this]
    ·have:¬ (l.length:Int)>65535:=by omega
     simp [h,this]
   repeat' (first | (simp -implicitDefEqProofs only [go_sem,Int.reduceNegSucc,hlen]) | (with_reducible refine aC ?_) | ((first | refine ak (fun hg=>?_) (fun hg=>?_) | refine aI (fun hg=>?_) (fun hg=>?_) | refine aJ (fun hg=>?_) (fun hg=>?_)) <;> try simp -implicitDefEqProofs only [hg,Bool.not_true,Bool.not_false]) | ((with_reducible apply And.intro);focus (first | trivial | omega | decide | (simp -implicitDefEqProofs only [maxLen];omega) | (simp [maxLen,aj,aq,ax,aG,av,aF,aE] <;> omega))) | fail)
   all_goals (refine (hK _ _ (cm ?_)).2;rw [fin];clear fin hK hN hX hR;(simp_all [lk]) <;> omega)
end Go.ay

namespace Go.ay
open Go
theorem Gu:bC Go.Proofs.Try.prog 47 8 (fc Go.Proofs.Try.prog 47 8 [(.t 2)]) [(.t 2)]:=bP (by kernel_rfl)
theorem Iv (xs:List (List RV)) (m:Nat) (hb:xs.length≤8589934592):aP Go.Proofs.Try.prog 47 [.rv (.sl 49 xs)] [] [(m,.row 49 1 (ah xs))] (.row m 1 xs.length):=by
 have nz:∀ r:RV,(r = .jP∧xs=[])∨(r = .sl 49 xs∧0<xs.length)→aP Go.Proofs.Try.prog 47 [.rv r] [] [(m,.row 49 1 (ah xs))] (.row m 1 xs.length):=fun r hr=>by
  refine eY Gu [] [] [] [.rv r] [.rv r] _ _ (by simp) (by simp [aW,eB,dP,bD,bS,fC,bU,fN,fM,cI,er,aQ]) rfl (by simp [aQ]) (by simp [cI]) (fun K hK=>?_)
  conv in fc _ _ _ _=>reduce
  simp -implicitDefEqProofs only [go_sem,Int.reduceNegSucc]
  rcases hr with ⟨rfl,rfl⟩ | ⟨rfl,h0⟩
  ·repeat' (first | (simp -implicitDefEqProofs only [go_sem,Int.reduceNegSucc]) | (with_reducible refine aC ?_) | ((first | refine ak (fun hg=>?_) (fun hg=>?_) | refine aI (fun hg=>?_) (fun hg=>?_) | refine aJ (fun hg=>?_) (fun hg=>?_)) <;> try simp -implicitDefEqProofs only [hg,Bool.not_true,Bool.not_false]) | ((with_reducible apply And.intro);focus (first | trivial | omega | decide | (simp -implicitDefEqProofs only [maxLen];omega) | (simp [maxLen,aj,aq,ax,aG,av,aF,aE] <;> omega))) | fail)
   refine (hK _ _ _ _ [some m] (cK _ _) ?_).2
   simp [cw,aQ,newL,cD,ct,bH,bF,lk,bO,bV,cj,bW,cU,cT,ag,cC,cO,bh,bT,cn,de,cS,dc,cc,cB,cz]
   exact ⟨by simp [ah],fun i x y hx=>by simp at hx⟩
  ·repeat' (first | (simp -implicitDefEqProofs only [go_sem,Int.reduceNegSucc,Ib]) | (with_reducible refine aC ?_) | ((first | refine ak (fun hg=>?_) (fun hg=>?_) | refine aI (fun hg=>?_) (fun hg=>?_) | refine aJ (fun hg=>?_) (fun hg=>?_)) <;> try simp -implicitDefEqProofs only [hg,Bool.not_true,Bool.not_false]) | ((with_reducible apply And.intro);focus (first | trivial | omega | decide | (simp -implicitDefEqProofs only [maxLen];omega) | (simp [maxLen,aj,aq,ax,aG,av,aF,aE] <;> omega))) | fail)
   refine (hK _ _ _ _ [some m] (cK _ _) ?_).2
   simp [cw,aQ,newL,cD,ct,bH,bF,lk,bO,bV,cj,bW,cU,cT,ag,cC,cO,bh,bT,cn,de,cS,dc,cc,cB,cz]
 by_cases h0:xs=[]
 ·subst h0
  refine @Kg _ _ _ [] [] _ _ _ ?_ (nz _ (.inl ⟨rfl,rfl⟩))
  show aP _ _ [.rv .bZ] _ _ _
  refine eY Gu [] [] [] [.rv .bZ] [.rv .bZ] _ _ (by simp) (by simp [aW,eB,dP,bD,bS,fC,bU,fN,fM,cI,er,aQ]) rfl (by simp [aQ]) (by simp [cI]) (fun K hK=>?_)
  conv in fc _ _ _ _=>reduce
  simp -implicitDefEqProofs only [go_sem,Int.reduceNegSucc]
  repeat' (first | (simp -implicitDefEqProofs only [go_sem,Int.reduceNegSucc]) | (with_reducible refine aC ?_) | ((first | refine ak (fun hg=>?_) (fun hg=>?_) | refine aI (fun hg=>?_) (fun hg=>?_) | refine aJ (fun hg=>?_) (fun hg=>?_)) <;> try simp -implicitDefEqProofs only [hg,Bool.not_true,Bool.not_false]) | ((with_reducible apply And.intro);focus (first | trivial | omega | decide | (simp -implicitDefEqProofs only [maxLen];omega) | (simp [maxLen,aj,aq,ax,aG,av,aF,aE] <;> omega))) | fail)
  refine (hK _ _ _ _ [some m] (xj 2 49 1 rfl) ?_).2
  simp [cw,aQ,newL,cD,ct,bH,bF,lk,bO,bV,cj,bW,cU,cT,ag,cC,cO,bh,bT,cn,de,cS,dc,cc,cB,cz]
  exact ⟨by simp [ah],fun i x y hx=>by simp at hx⟩
 ·exact nz _ (.inr ⟨rfl,List.length_pos_iff.2 h0⟩)
end Go.ay

namespace Go.ay
open Go
theorem Gt:bC Go.Proofs.Try.prog 17 157 (fc Go.Proofs.Try.prog 17 157 [(.t 2),(.t 3)]) [(.t 2),(.t 3)]:=bP (by kernel_rfl)
def bq (l:List Nat):List Int:=l.map fun (n:Nat)=>(n:Int)
def fO (bs:List Bool):List (List RV):=bs.map fun b=>[.bool b]
theorem wL (bs:List Bool):(fO bs).length=bs.length:=by simp [fO]
theorem sP {bs:List Bool} {i:Nat} (h:i<bs.length):(fO bs)[i]?.getD []=[.bool (bs.getD i false)]:=by simp [fO,h]
theorem tZ {ys:List Bool} {k:Nat} {v:Bool}:(ah (fO ys)).set k [.rv (.bool v)]=ah (fO (ys.set k v)):=by simp [ah,fO,List.map_set]
theorem Ie {n:Nat}:List.replicate n [U.rv (.bool false)]=ah (fO (List.replicate n false)):=by simp [ah,fO]
theorem DA (l:List Bool):∀ x∈fO l,∀ r∈x,r.one=true:=by
 intro x hx r hr
 obtain ⟨n,_,rfl⟩:=List.mem_map.1 hx
 simp at hr;rw [hr];rfl
def cN (l:List Nd) (k:Nat):List Bool:=(List.range l.length).map fun j=>if j<k then iU l j else false
theorem GV (l:List Nd) (k:Nat):(cN l k).length=l.length:=by simp [cN]
theorem GW (l:List Nd):cN l 0=List.replicate l.length false:=by
 refine List.ext_getElem (by simp [cN]) (fun i h1 h2=>?_)
 simp [cN]
theorem yo {l:List Nd} {k:Nat} (hk:k<l.length):(cN l k).set k (iU l k)=cN l (k+1):=by
 refine List.ext_getElem (by simp [cN]) (fun i h1 h2=>?_)
 simp -implicitDefEqProofs only [List.getElem_set,cN,List.getElem_map,List.getElem_range]
 by_cases h:k=i
 ·subst h;simp
 ·rw [if_neg h]
  by_cases hi:i<k
  ·rw [if_pos hi,if_pos (by omega)]
  ·rw [if_neg hi,if_neg (by omega)]
theorem GU {l:List Nd} {k j:Nat} {b:Bool} (hj:j<k) (hl:j<l.length):((cN l k).set k b).getD j false=iU l j:=by
 rw [List.getD_eq_getElem?_getD,List.getElem?_set_ne (by omega)]
 simp [cN,hl,hj]
def fh (l:List Nd) (k:Nat):List (List U):=(List.range l.length).map fun p=>[.row (p+6) (aZ l k p).length (aZ l k p).length]
def eW (l:List Nd) (k:Nat):List (Option HB):=(List.range l.length).map fun p=>some (.row 1 (aZ l k p).length (ah (aS (bq (aZ l k p)))))
theorem vE (l:List Nd) (k:Nat):(fh l k).length=l.length:=by simp [fh]
theorem ku (l:List Nd) (k:Nat):(eW l k).length=l.length:=by simp [eW]
theorem Gn {l:List Nd} {k p:Nat} (hp:p<l.length):(fh l k)[p]?.getD []=[.row (p+6) (aZ l k p).length (aZ l k p).length]:=by simp [fh,hp]
theorem BC {l:List Nd} {k p:Nat} {C:List (Option HB)} (hp:p<l.length):ag (eW l k++C) p=some (.row 1 (aZ l k p).length (ah (aS (bq (aZ l k p))))):=by
 unfold ag
 rw [List.getElem?_append_left (by rw [ku];exact hp)]
 simp [eW,hp]
theorem BA {l:List Nd} {k:Nat} {x:Option HB} {C:List (Option HB)}:ag (eW l k++x::C) l.length=x:=by
 unfold ag
 rw [List.getElem?_append_right (by rw [ku];exact Nat.le_refl _),ku]
 simp
theorem Gj {l:List Nd} {k:Nat} {x y:Option HB} {C:List (Option HB)}:ag (eW l k++x::y::C) (l.length+1)=y:=by
 unfold ag
 rw [List.getElem?_append_right (by rw [ku];omega),ku,show l.length+1 - l.length=1 by omega]
 simp
theorem Gl {l:List Nd} {k p:Nat} {hb:Option HB} {x y:Option HB} {C:List (Option HB)}:ag ((eW l k).set p hb++x::C) l.length=x:=by
 unfold ag
 rw [List.getElem?_append_right (by rw [List.length_set,ku];exact Nat.le_refl _),List.length_set,ku]
 simp
theorem BE {l:List Nd} {k:Nat} {x y:Option HB} {C:List (Option HB)}:(eW l k++x::C).set l.length y=eW l k++y::C:=by
 rw [List.set_append_right _ _ (by rw [ku];exact Nat.le_refl _),ku,Nat.sub_self];rfl
theorem Ok {l:List Nd} {k p:Nat} {y:Option HB} {C:List (Option HB)} (hp:p<l.length):(eW l k++C).set p y=(eW l k).set p y++C:=by
 rw [List.set_append_left _ _ (by rw [ku];exact hp)]
theorem Om (l:List Nd):eW l 0=eg l.length 1:=by
 refine List.ext_getElem (by simp [eW,eg]) (fun i h1 h2=>?_)
 simp [eW,eg,vH,bq,aS,ah]
theorem Gq (l:List Nd):fh l 0=dS 6 l.length l.length:=by
 refine List.ext_getElem (by simp [fh,dS]) (fun i h1 h2=>?_)
 simp [fh] at h1
 simp [fh,dS,vH,h1];omega
theorem Oi {l:List Nd} {k p:Nat} (h0:0<k) (hp:aU l k=p) (hl:p<l.length) :
 (eW l k).set p (some (.row 1 ((aZ l k p).length+1) (ah (aS (bq (aZ l k p)++[(k:Int)])))))=eW l (k+1):=by
 refine List.ext_getElem (by simp [eW]) (fun i h1 h2=>?_)
 simp -implicitDefEqProofs only [List.getElem_set,eW,List.getElem_map,List.getElem_range,vG]
 by_cases h:p=i
 ·subst h;simp [h0,hp,bq]
 ·rw [if_neg h,if_neg (by rw [hp];omega)];simp
theorem Ot {l:List Nd} {k p:Nat} (h0:0<k) (hp:aU l k=p) (hl:p<l.length) :
 (fh l k).set p [.row (p+6) ((aZ l k p).length+1) ((aZ l k p).length+1)]=fh l (k+1):=by
 refine List.ext_getElem (by simp [fh]) (fun i h1 h2=>?_)
 simp -implicitDefEqProofs only [List.getElem_set,fh,List.getElem_map,List.getElem_range,vG]
 by_cases h:p=i
 ·subst h;simp [h0,hp]
 ·rw [if_neg h,if_neg (by rw [hp];omega)];simp
theorem Og (l:List Nd):eW l 1=eW l 0:=by
 refine List.ext_getElem (by simp [eW]) (fun i h1 h2=>?_)
 simp [eW,aZ,List.range_succ]
theorem Oo (l:List Nd):fh l 1=fh l 0:=by
 refine List.ext_getElem (by simp [fh]) (fun i h1 h2=>?_)
 simp [fh,aZ,List.range_succ]
def lA (l:List Nd):List (List RV):=(List.range l.length).map fun p=>[.sl 1 (aS (bq (gF l p)))]
def rK (l:List Nd):List Int:=(List.range l.length).map fun n=>(gZ l n:Int)
abbrev cq (l:List Nd):RV:=.rop [.sl 49 (bk l),.sl 1 (lA l),.sl 1 (aS (rK l)),.sl 1 (aS (bM l l.length)),.sl 1 (fO (cN l l.length))]
def qI (l:List Nd) (k:Nat) (es ds:List Int) (bs:List Bool):List (Option HB):=some (.row 49 1 (ah (bk l)))::some (.row 1 0 (fh l k))::some (.row 1 0 (ah (aS es)))::some (.row 1 0 (ah (aS ds)))::some (.row 1 0 (ah (fO bs)))::some (.var [.row 0 1 l.length,.row 1 0 l.length,.row 2 0 l.length,.row 3 0 l.length,.row 4 0 l.length])::eW l k
theorem Gi {l:List Nd} {k:Nat} {es ds:List Int} {bs:List Bool}:(qI l k es ds bs).length=l.length+6:=by simp [qI,ku]
theorem Oe {l:List Nd} {k:Nat} {es ds:List Int} {bs:List Bool}:jz (ox (l.length+6)) (qI l k es ds bs):=by
 refine ⟨cg,fun i x hx=>?_,cg,cg,cg,by simp [ox,iO,fq],jz.of fun j x hx=>?_⟩
 ·obtain ⟨hl,rfl⟩:=List.getElem?_eq_some_iff.1 hx
  simp [vE] at hl
  simp [fh,iO,fq,hl]
 ·obtain ⟨hl,rfl⟩:=List.getElem?_eq_some_iff.1 hx
  exact ⟨.row 1 (aZ l k j).length (ah (aS (bq (aZ l k j)))),by simp [eW],cg⟩
theorem By {l:List Nd} {k:Nat} {es ds:List Int} {bs:List Bool} {env env':List (Nat×U)} {C:List (Option HB)} (he:eM (l.length+6) env env'):cV 0 ⟨env,qI l k es ds bs++C⟩ ⟨env',qI l k es ds bs⟩:=
 kg (Nat.zero_le _) (by rw [Gi];exact Oe) (by rw [Gi];exact he)
def dR (l:List Nd) (k:Nat):List Int:=(List.range l.length).map fun j=>if k≤j then (gZ l j:Int) else 0
theorem Eo (l:List Nd) (k:Nat):(dR l k).length=l.length:=by simp [dR]
theorem Er (l:List Nd):dR l l.length=List.replicate l.length 0:=by
 refine List.ext_getElem (by simp [dR]) (fun i h1 h2=>?_)
 simp [dR] at h1
 simp [dR];omega
theorem Es (l:List Nd):dR l 0=rK l:=by simp [dR,rK]
theorem Ep {l:List Nd} {k:Nat} (hk:0<k) (hl:k≤l.length):(dR l k).set (k - 1) (gZ l (k - 1))=dR l (k - 1):=by
 refine List.ext_getElem (by simp [dR]) (fun i h1 h2=>?_)
 simp -implicitDefEqProofs only [List.getElem_set,dR,List.getElem_map,List.getElem_range]
 by_cases h:k - 1=i
 ·subst h;simp
 ·rw [if_neg h]
  by_cases hi:k≤i
  ·rw [if_pos hi,if_pos (by omega)]
  ·rw [if_neg hi,if_neg (by omega)]
theorem En {l:List Nd} {k j:Nat} {v:Int} (hj:k≤j) (hk:0<k) (hl:j<l.length):((dR l k).set (k - 1) v).getD j 0=gZ l j:=by
 rw [List.getD_eq_getElem?_getD,List.getElem?_set_ne (by omega)]
 simp [dR,hl,hj]
theorem kj {τ:Nat→Option Nat} {h:Hp} {j e af len:Nat} {xs:List (List RV)} (hj:h j=some (.row e af (ah xs))) (gE:τ j=none) (hl:len=xs.length) (h1:∀ x∈xs,∀ r∈x,r.one=true):Fz τ h (.row j af len) (.sl e xs):=by
 have:=xz (τ:=τ) hj gE (len:=len) (by omega) h1
 rw [hl,List.take_length] at this
 rw [hl];exact this
theorem PI (l:List Nd):Fz (fun _=>none) (ag (qI l l.length (rK l) (bM l l.length) (cN l l.length))) (.ptr 5 0) (cq l):=by
 refine .ptr 5 [.row 0 1 l.length,.row 1 0 l.length,.row 2 0 l.length,.row 3 0 l.length,.row 4 0 l.length] _ rfl rfl rfl (fun i r hr=>?_) (fun i x r hx hr=>?_)
 ·match i with
  | 0=>cases hr;rfl
  | 1=>cases hr;rfl
  | 2=>cases hr;rfl
  | 3=>cases hr;rfl
  | 4=>cases hr;rfl
  | i+5=>simp at hr
 ·match i with
  | 0=>cases hx;cases hr;exact kj rfl rfl (by simp [bk]) (yy l)
  | 1=>
    cases hx;cases hr
    refine .row 1 1 0 l.length (fh l l.length) (lA l) rfl rfl (by simp [lA]) (by rw [vE];exact Nat.le_refl _) (fun i x r hx hr=>?_) (fun i r k q hr hq=>?_) (fun i x r k y q hx hr hy hq=>?_)
    ·obtain ⟨_,rfl⟩:=List.getElem?_eq_some_iff.1 hx
     obtain ⟨_,rfl⟩:=List.getElem?_eq_some_iff.1 hr
     simp [fh,lA]
    ·obtain ⟨_,rfl⟩:=List.getElem?_eq_some_iff.1 hr
     have:=List.mem_of_getElem? hq
     simp [lA] at this
     rw [this];rfl
    ·obtain ⟨hl,rfl⟩:=List.getElem?_eq_some_iff.1 hx
     obtain ⟨_,rfl⟩:=List.getElem?_eq_some_iff.1 hr
     rw [vE] at hl
     cases k with
     | succ k=>simp [fh] at hy
     | zero=>
       simp [fh] at hy
       simp [lA] at hq
       subst hy;subst hq
       refine kj (xs:=aS (bq (gF l i))) ?_ rfl (by simp [aS,bq,gF]) (qG _)
       have:=BC (k:=l.length) (C:=[]) hl
       rw [List.append_nil] at this
       exact this
  | 2=>cases hx;cases hr;exact kj rfl rfl (by simp [aS,rK]) (qG _)
  | 3=>cases hx;cases hr;exact kj rfl rfl (by simp [aS,bM]) (qG _)
  | 4=>cases hx;cases hr;exact kj rfl rfl (by simp [fO,cN]) (DA _)
  | i+5=>simp at hx
theorem tJ (x:Nd):(x.cells.map U.rv)[0]?=some (.rv (.bool x.s.shown)):=rfl
theorem SE (l:List Nd) (hb:l.length≤8589934592) (hc:gX l=0):aP Go.Proofs.Try.prog 17 [.rv (.sl 49 (bk l))] [] [] (.aR [.rv (cq l),.rv (.int .i64 0)]):=by
 refine dK Gt [.rv (.sl 49 (bk l))] _ (by simp) (by simp [aW,bS,dA,bD,bU,au.sv,Ln.sv,Nd.sv]) (fun K hK=>?_)
 have hlen:=ax l
 have iQ:=IJ l hb
 rw [hc] at iQ
 have ht:ew l=true:=by
  unfold gX at hc
  cases h:ew l with
  | true=>rfl
  | false=>rw [h] at hc;simp at hc
 have hs:cP l:=vZ.1 (by unfold ew at ht;simp -implicitDefEqProofs only [Bool.and_eq_true] at ht;exact ht.1)
 have rJ:(((0:Int)) != 0)=false:=rfl
 conv in fc _ _ _ _=>reduce
 simp -implicitDefEqProofs only [go_sem,Int.reduceNegSucc]
 have ia:(bk l).length≤8589934592:=by rw [hlen];exact hb
 have bY:=iQ;have y_2:=Iv (bk l) 0 ia;repeat' (first | (simp -implicitDefEqProofs only [go_sem,Int.reduceNegSucc,rJ,hlen,yU,Ie]) | (with_reducible refine aC ?_) | (with_reducible first | refine aM bY ?_ | refine aN bY ?_) | (refine ck y_2 (by simp [aV,ag];done) (by simp [bf,aY];done) ?_) | (refine dY y_2 (by simp [aV,ag];done) (by simp [bf,aY];done) ?_) | ((first | refine ak (fun hg=>?_) (fun hg=>?_) | refine aI (fun hg=>?_) (fun hg=>?_) | refine aJ (fun hg=>?_) (fun hg=>?_)) <;> try simp -implicitDefEqProofs only [hg,Bool.not_true,Bool.not_false]) | ((with_reducible apply And.intro);focus (first | trivial | omega | decide | (simp -implicitDefEqProofs only [maxLen];omega) | (simp [maxLen,aj,aq,ax,aG,av,aF,aE] <;> omega))) | fail)
 have MZ:∀ n:Nat,fh l 0=dS 6 l.length l.length:=fun _=>Gq l
 let ev:Nat→List (Nat×U):=fun k=>[(33,.rv (.int .i64 k)),(32,.rv (.int .i64 l.length)),(31,.rv (.sl 49 (bk l))),(5,.ptr 5 0),(0,.rv (.sl 49 (bk l)))]
 refine dm (ι:=Nat) (fun k=>[(33,.rv (.int .i64 k)),(32,.rv (.int .i64 l.length)),(31,.rv (.sl 49 (bk l))),(5,.ptr 5 0),(0,.rv (.sl 49 (bk l)))]) (fun k=>some (.row 49 1 (ah (bk l)))::some (.row 1 0 (fh l k))::some (.row 1 0 (ah (aS (List.replicate l.length 0))))::some (.row 1 0 (ah (aS (bM l k))))::some (.row 1 0 (ah (fO (cN l k))))::some (.var [.row 0 1 l.length,.row 1 0 l.length,.row 2 0 l.length,.row 3 0 l.length,.row 4 0 l.length])::eW l k) (fun k=>k≤l.length) (fun k=>l.length - k) 0 (by simp) ?_ (fun k hk K' hN hX hR=>?_)
 ·refine (bB (env':=[(33,.rv (.int .i64 0)),(32,.rv (.int .i64 l.length)),(31,.rv (.sl 49 (bk l))),(5,.ptr 5 0),(0,.rv (.sl 49 (bk l)))]) (by simp [lk])).trans ?_
  rw [Gq,Om,Af,GW]
  exact xh (r:=1) (v:=0) (n:=l.length) (e:=1) rfl
 simp -implicitDefEqProofs only [go_sem,Int.reduceNegSucc]
 refine ak (fun hg=>?_) (fun hg=>?_)
 ·have aA:k<l.length:=by simp at hg;omega
  have hx:=gR aA
  have jJ:=ku l k
  have iI:=sX l k
  have iH:=av (bM l k)
  have oH:=ff (l:=bM l k) (i:=k) (by omega)
  have hml:=GV l k
  have kY:=wL (cN l k)
  have rX:=sP (bs:=cN l k) (i:=k) (by omega)
  have hsh:=Cz aA
  have e1:(l.length=l.length+1)=False:=eq_false (by omega)
  have e2:(l.length=l.length+2)=False:=eq_false (by omega)
  have hds:=xd aA
  have rS:=Ae aA
  have wu:=dr (k:=k) (by omega)
  by_cases dw:0<k
  ·have hgt:decide ((k:Int)>0)=true:=decide_eq_true (by omega)
   obtain ⟨p1,p2⟩:=hs.wf.2 k dw aA
   obtain ⟨p,hp⟩:∃ p:Nat,aU l k=p:=⟨(aU l k).toNat,by omega⟩
   have eE:p<l.length:=by omega
   have q0:(p=l.length)=False:=eq_false (by omega)
   have q1:(p=l.length+1)=False:=eq_false (by omega)
   have q2:(p=l.length+2)=False:=eq_false (by omega)
   have hpk:=kH aA
   have MD:(bM l k).set k 1=(bM l k).set k 1:=rfl
   have rU:((bM l k).set k 1).length=l.length:=by simp [iI]
   have vb:=av ((bM l k).set k 1)
   have oI:=ff (l:=(bM l k).set k 1) (i:=p) (by omega)
   have rR:=ff (l:=(bM l k).set k 1) (i:=k) (by omega)
   rw [Ad (by omega) (by omega)] at oI
   have qz:=Ag hs.wf dw aA
   rw [hp,Int.toNat_natCast] at qz
   have wd:=dr (k:=depth l p) (by have:=tT (l:=l) p;unfold depth;omega)
   rw [← qz] at wd
   obtain ⟨b,iR⟩:∃ b,oX l k=b:=⟨_,rfl⟩
   have hmp:=sP (bs:=(cN l k).set k b) (i:=p) (by simp [hml];omega)
   have hmk:=sP (bs:=(cN l k).set k b) (i:=k) (by simp [hml];omega)
   rw [GU (by omega) (by omega)] at hmp
   have vi:((cN l k).set k b).length=l.length:=by simp [hml]
   have vj:=wL ((cN l k).set k b)
   have jG:((cN l k).set k b).set k (b && iU l p)=cN l (k+1):=by
    have:=BL hs.wf dw aA
    rw [hp,Int.toNat_natCast,iR] at this
    rw [List.set_set,← this,yo aA]
   have kX:=vE l k
   have kW:=Gn (k:=k) eE
   have jF:=fun C=>BC (k:=k) (C:=C) eE
   have hkn:=Oi dw hp eE
   have vr:=Ot dw hp eE
   have hsp:=fun (y:Option HB) C=>Ok (k:=k) (y:=y) (C:=C) eE
   have cX:(bq (aZ l k p)).length=(aZ l k p).length:=by simp [bq]
   have ig:=av (bq (aZ l k p))
   have fR:(aS (bq (aZ l k p))).take (aZ l k p).length=aS (bq (aZ l k p)):=List.take_of_length_le (by rw [ig,cX];exact Nat.le_refl _)
   have hkk:=yf (l:=l) (k:=k) (p:=p)
   cases b
   all_goals simp -implicitDefEqProofs only [Bool.false_and,Bool.true_and] at jG
   ·repeat' (first | (simp -implicitDefEqProofs only [go_sem,Int.reduceNegSucc,hlen,hx,jJ,aq,qb,Nat.add_assoc,BA,List.append_assoc,iI,iH,oH,hml,kY,rX,iu,tZ,tJ,hsh,iR,e1,e2,BE,hgt,hpk,hp,tK,kX,kW,jF,q0,q1,q2,hsp,Gj,Gl,cX,ig,fR,qR,hkn,vr,rU,vb,oI,rR,wd,rS,wu,hmp,hmk,vi,vj]) | (with_reducible refine aC ?_) | ((first | refine ak (fun hg=>?_) (fun hg=>?_) | refine aI (fun hg=>?_) (fun hg=>?_) | refine aJ (fun hg=>?_) (fun hg=>?_)) <;> try simp -implicitDefEqProofs only [hg,Bool.not_true,Bool.not_false]) | ((with_reducible apply And.intro);focus (first | trivial | omega | decide | (simp -implicitDefEqProofs only [maxLen];omega) | (simp [maxLen,aj,aq,ax,aG,av,aF,aE] <;> omega) | (simp (decide:=true) [jd,kf,gV,jC,Nat.testBit,q0,q1,q2];done))) | fail)
    rw [jG]
    exact hN (k+1) _ _ (by omega) (by omega) (By (l:=l) (k:=k+1) (by simp [eM,lk,gh,oD]))
   ·repeat' (first | (simp -implicitDefEqProofs only [go_sem,Int.reduceNegSucc,hlen,hx,jJ,aq,qb,Nat.add_assoc,BA,List.append_assoc,iI,iH,oH,hml,kY,rX,iu,tZ,tJ,hsh,iR,e1,e2,BE,hgt,hpk,hp,tK,kX,kW,jF,q0,q1,q2,hsp,Gj,Gl,cX,ig,fR,qR,hkn,vr,rU,vb,oI,rR,wd,rS,wu,hmp,hmk,vi,vj]) | (with_reducible refine aC ?_) | ((first | refine ak (fun hg=>?_) (fun hg=>?_) | refine aI (fun hg=>?_) (fun hg=>?_) | refine aJ (fun hg=>?_) (fun hg=>?_)) <;> try simp -implicitDefEqProofs only [hg,Bool.not_true,Bool.not_false]) | ((with_reducible apply And.intro);focus (first | trivial | omega | decide | (simp -implicitDefEqProofs only [maxLen];omega) | (simp [maxLen,aj,aq,ax,aG,av,aF,aE] <;> omega) | (simp (decide:=true) [jd,kf,gV,jC,Nat.testBit,q0,q1,q2];done))) | fail)
    rw [jG]
    exact hN (k+1) _ _ (by omega) (by omega) (By (l:=l) (k:=k+1) (by simp [eM,lk,gh,oD]))
  ·obtain rfl:k=0:=by omega
   have hgt:decide (((0:Nat):Int)>0)=false:=rfl
   rw [Ah] at hds
   have jG:=yo aA
   rw [BM] at jG
   have AM:(bM l 0).set 0 1=bM l (0+1):=hds
   repeat' (first | (simp -implicitDefEqProofs only [go_sem,Int.reduceNegSucc,hlen,hx,jJ,aq,qb,Nat.add_assoc,BA,List.append_assoc,iI,iH,oH,hml,kY,rX,iu,tZ,tJ,hsh,e1,e2,BE,hgt,wu,jG,AM]) | (with_reducible refine aC ?_) | ((first | refine ak (fun hg=>?_) (fun hg=>?_) | refine aI (fun hg=>?_) (fun hg=>?_) | refine aJ (fun hg=>?_) (fun hg=>?_)) <;> try simp -implicitDefEqProofs only [hg,Bool.not_true,Bool.not_false]) | ((with_reducible apply And.intro);focus (first | trivial | omega | decide | (simp -implicitDefEqProofs only [maxLen];omega) | (simp [maxLen,aj,aq,ax,aG,av,aF,aE] <;> omega))) | fail)
   refine hN 1 _ _ (by omega) (by omega) ?_
   rw [Oo,Og]
   exact By (l:=l) (k:=0) (es:=List.replicate l.length 0) (ds:=bM l (0+1)) (bs:=cN l (0+1)) (C:=[some (.var ((l[0]'aA).cells.map .rv))]) (by simp [eM,lk,gh,oD])
 ·have aA:k=l.length:=by simp at hg;omega
  subst aA
  simp -implicitDefEqProofs only [go_sem,Int.reduceNegSucc]
  refine hX _ _ _ ?_
  have wl:=uj hs.pos (by omega)
  repeat' (first | (simp -implicitDefEqProofs only [go_sem,Int.reduceNegSucc,hlen,wl]) | (with_reducible refine aC ?_) | ((first | refine ak (fun hg=>?_) (fun hg=>?_) | refine aI (fun hg=>?_) (fun hg=>?_) | refine aJ (fun hg=>?_) (fun hg=>?_)) <;> try simp -implicitDefEqProofs only [hg,Bool.not_true,Bool.not_false]) | ((with_reducible apply And.intro);focus (first | trivial | omega | decide | (simp -implicitDefEqProofs only [maxLen];omega) | (simp [maxLen,aj,aq,ax,aG,av,aF,aE] <;> omega))) | fail)
  clear hN hX hR
  refine dm (ι:=Nat) (fun k=>[(8,.rv (.int .i64 ((k:Int) - 1))),(5,.ptr 5 0)]) (fun k=>qI l l.length (dR l k) (bM l l.length) (cN l l.length)) (fun k=>k≤l.length) (fun k=>k) l.length (Nat.le_refl _) (by rw [Er];exact bB (by simp [lk];have:=hs.pos;omega)) (fun k hk K' hN hX hR=>?_)
  simp -implicitDefEqProofs only [qI,go_sem,Int.reduceNegSucc]
  refine ak (fun hg=>?_) (fun hg=>?_)
  ·have dw:0<k:=by simp at hg;omega
   obtain ⟨j,rfl⟩:∃ j,k=j+1:=⟨k - 1,by omega⟩
   have ej:(((j+1:Nat):Int) - 1)=(j:Int):=by omega
   have wj:=dr (k:=j) (by omega)
   have hjl:j<l.length:=by omega
   have hel:=Eo l (j+1)
   have ve:=av (dR l (j+1))
   have rV:=ff (l:=dR l (j+1)) (i:=j) (by omega)
   have kX:=vE l l.length
   have kW:=Gn (k:=l.length) hjl
   have jF:=BC (k:=l.length) (C:=[]) hjl
   simp -implicitDefEqProofs only [List.append_nil] at jF
   have cX:(bq (aZ l l.length j)).length=(aZ l l.length j).length:=by simp [bq]
   have ig:=av (bq (aZ l l.length j))
   have hkk:=yf (l:=l) (k:=l.length) (p:=j)
   have kr:((dR l (j+1)).set j ((j+1:Nat):Int)).length=l.length:=by simp [hel]
   have Bo:=av ((dR l (j+1)).set j ((j+1:Nat):Int))
   have lg:=Ep (l:=l) (k:=j+1) (by omega) (by omega)
   simp -implicitDefEqProofs only [Nat.add_sub_cancel] at lg
   have wd:IntKind.i64.wrap ((j:Int) - 1)=((j:Int) - 1):=wrap_i64 (by omega) (by omega)
   by_cases dn:aZ l l.length j=[]
   ·have hm0:decide ((((aZ l l.length j).length:Nat):Int)>0)=false:=by rw [dn];rfl
    have he:=Am dn
    rw [he] at lg
    repeat' (first | (simp -implicitDefEqProofs only [go_sem,Int.reduceNegSucc,hel,ve,rV,kX,kW,jF,ej,wj,hm0,iu,lg,wd]) | (with_reducible refine aC ?_) | ((first | refine ak (fun hg=>?_) (fun hg=>?_) | refine aI (fun hg=>?_) (fun hg=>?_) | refine aJ (fun hg=>?_) (fun hg=>?_)) <;> try simp -implicitDefEqProofs only [hg,Bool.not_true,Bool.not_false]) | ((with_reducible apply And.intro);focus (first | trivial | omega | decide | (simp -implicitDefEqProofs only [maxLen];omega) | (simp [maxLen,aj,aq,ax,aG,av,aF,aE] <;> omega))) | fail)
    refine hN j _ _ (by omega) (by omega) (bB (by simp [lk]))
   ·obtain ⟨c,hc⟩:∃ c,(aZ l l.length j).getLast?=some c:=by
     cases h:(aZ l l.length j).getLast? with
     | none=>exact absurd (List.getLast?_eq_none_iff.1 h) dn
     | some c=>exact ⟨c,rfl⟩
    have hpos:0<(aZ l l.length j).length:=List.length_pos_iff.2 dn
    have hm0:decide ((((aZ l l.length j).length:Nat):Int)>0)=true:=decide_eq_true (by omega)
    have va:c∈gF l j:=List.mem_of_getLast? hc
    obtain ⟨c1,c2,c3⟩:=vQ.1 va
    have AI:j<c:=by have:=(hs.wf.2 c c1 c2).2;omega
    have he:=Al hc AI c2
    rw [he] at lg
    have wm:=uj hpos (by omega)
    have AH:(bq (aZ l l.length j)).getD ((aZ l l.length j).length - 1) 0=(c:Int):=by
     rw [List.getLast?_eq_getElem?] at hc
     simp [bq,List.getD_eq_getElem?_getD,hc]
    have gC:=ff (l:=bq (aZ l l.length j)) (i:=(aZ l l.length j).length - 1) (by omega)
    rw [AH] at gC
    have vc:=ff (l:=(dR l (j+1)).set j ((j+1:Nat):Int)) (i:=c) (by omega)
    have pO:=En (l:=l) (k:=j+1) (j:=c) (v:=((j+1:Nat):Int)) (by omega) (by omega) c2
    simp -implicitDefEqProofs only [Nat.add_sub_cancel] at pO
    rw [pO] at vc
    have AR:=ff (l:=(dR l (j+1)).set j ((j+1:Nat):Int)) (i:=j) (by omega)
    have rZ:((dR l (j+1)).set j ((j+1:Nat):Int)).set j (gZ l c)=dR l j:=by rw [List.set_set,lg]
    repeat' (first | (simp -implicitDefEqProofs only [go_sem,Int.reduceNegSucc,hel,ve,rV,kX,kW,jF,ej,wj,hm0,iu,wd,wm,gC,vc,AR,rZ,kr,Bo,cX,ig]) | (with_reducible refine aC ?_) | ((first | refine ak (fun hg=>?_) (fun hg=>?_) | refine aI (fun hg=>?_) (fun hg=>?_) | refine aJ (fun hg=>?_) (fun hg=>?_)) <;> try simp -implicitDefEqProofs only [hg,Bool.not_true,Bool.not_false]) | ((with_reducible apply And.intro);focus (first | trivial | omega | decide | (simp -implicitDefEqProofs only [maxLen];omega) | (simp [maxLen,aj,aq,ax,aG,av,aF,aE] <;> omega))) | fail)
    refine hN j _ _ (by omega) (by omega) (bB (by simp [lk]))
  ·obtain rfl:k=0:=by simp at hg;omega
   simp -implicitDefEqProofs only [go_sem,Int.reduceNegSucc]
   refine hX _ _ _ ?_
   repeat' (first | (simp -implicitDefEqProofs only [go_sem,Int.reduceNegSucc]) | (with_reducible refine aC ?_) | ((first | refine ak (fun hg=>?_) (fun hg=>?_) | refine aI (fun hg=>?_) (fun hg=>?_) | refine aJ (fun hg=>?_) (fun hg=>?_)) <;> try simp -implicitDefEqProofs only [hg,Bool.not_true,Bool.not_false]) | ((with_reducible apply And.intro);focus (first | trivial | omega | decide | (simp -implicitDefEqProofs only [maxLen];omega) | (simp [maxLen,aj,aq,ax,aG,av,aF,aE] <;> omega))) | fail)
   refine (hK _ _ ?_).2
   rw [Es]
   exact ⟨trivial,cO.2 ⟨.fz _ _ (PI l),bh.2 rfl,trivial⟩⟩
end Go.ay

namespace Go.ay
open Go
theorem OZ:bC Go.Proofs.Try.prog 48 10 (fc Go.Proofs.Try.prog 48 10 [(.t 2)]) [(.t 2)]:=bP (by kernel_rfl)
theorem Pd:bC Go.Proofs.Try.prog 54 13 (fc Go.Proofs.Try.prog 54 13 [(.t 4)]) [(.t 4)]:=bP (by kernel_rfl)
theorem Pc:bC Go.Proofs.Try.prog 51 18 (fc Go.Proofs.Try.prog 51 18 [(.c 4 48 true)]) [(.c 4 48 true)]:=bP (by kernel_rfl)
theorem Pb:bC Go.Proofs.Try.prog 80 17 (fc Go.Proofs.Try.prog 80 17 [(.t 4)]) [(.t 4)]:=bP (by kernel_rfl)
theorem Pa:bC Go.Proofs.Try.prog 21 17 (fc Go.Proofs.Try.prog 21 17 [(.t 4)]) [(.t 4)]:=bP (by kernel_rfl)
def dD (l:List Nd) (n:Int):Bool:=decide (n≥0) && decide (n<l.length)
theorem si {l:List Nd} {n:Int} (h:dD l n=true):∃ k:Nat,n=k∧k<l.length:=by
 simp [dD] at h;exact ⟨n.toNat,by omega,by omega⟩
theorem oR {l:List Nd} {k:Nat} (h:k<l.length):dD l k=true:=by simp [dD,h]
def eu (l:List Nd) (n:Int):au:=if dD l n=true then (l.getD n.toNat default).s else default
def tM (l:List Nd) (n:Int):Int:=if dD l n=true then aU l n.toNat else -1
def xg (l:List Nd) (n:Int):Int:=if dD l n=true then gZ l n.toNat else 0
def TN (l:List Nd) (n:Int):Int:=if dD l n=true then depth l n.toNat else 0
def aT (l:List Nd) (n:Int):Bool:=dD l n && iU l n.toNat
def Hw (l:List Nd) (n:Int):Bool:=aT l n && decide (n>0) && (decide ((eu l n).position=2) || decide ((eu l n).position=3))
def Dv (l:List Nd) (a n:Int):Bool:=dD l a && dD l n && decide (n≥a) && decide (n<xg l a)
theorem Ql (l:List Nd):(fO (cN l l.length)).length=l.length:=by simp [fO,cN]
theorem Qk {l:List Nd} {k:Nat} (h:k<l.length):(fO (cN l l.length))[k]?.getD []=[.bool (iU l k)]:=by simp [fO,cN,h]
theorem Cq {τ:Nat→Option Nat} {h:List (Option HB)} {env:List (Nat×U)} {a n id:Nat} {rs:List RV} (hl:lk env a = .ptr id 0) (hh:ag h id=some (.var (rs.map .rv))) (hn:rs.length=n):bH τ (ag h) (.agg (rs.map .rv)) (bF (lk env) (ag h) [.c a n true]):=by
 simp [bF,bH,bO,hl,eK,hh,hn]
 rw [List.take_of_length_le (by simp [hn])];exact cS.2 (cz.2 rfl)
section
variable (l:List Nd) (hb:l.length≤8589934592) (n:Int)
theorem ud:aP Go.Proofs.Try.prog 48 [.rv (cq l)] [] [] (.rv (.int .i64 l.length)):=by
 refine dK OZ [.rv (cq l)] _ (by simp) (by simp [aW,bS,dA,bD,bU,au.sv,Ln.sv,Nd.sv]) (fun K hK=>?_)
 conv in fc _ _ _ _=>reduce
 simp -implicitDefEqProofs only [go_sem,Int.reduceNegSucc]
 repeat' (first | (simp -implicitDefEqProofs only [go_sem,Int.reduceNegSucc,ax,cq]) | (with_reducible refine aC ?_) | ((first | refine ak (fun hg=>?_) (fun hg=>?_) | refine aI (fun hg=>?_) (fun hg=>?_) | refine aJ (fun hg=>?_) (fun hg=>?_)) <;> try simp -implicitDefEqProofs only [hg,Bool.not_true,Bool.not_false]) | ((with_reducible apply And.intro);focus (first | trivial | omega | decide | (simp -implicitDefEqProofs only [maxLen];omega) | (simp [maxLen,aj,aq,ax,aG,av,aF,aE] <;> omega))) | fail)
 exact (hK _ _ (cm rfl)).2
theorem CG:aP Go.Proofs.Try.prog 54 [.rv (cq l),.rv (.int .i64 n)] [] [] (.rv (.bool (dD l n))):=by
 refine dK Pd [.rv (cq l),.rv (.int .i64 n)] _ (by simp) (by simp [aW,bS,dA,bD,bU,au.sv,Ln.sv,Nd.sv]) (fun K hK=>?_)
 conv in fc _ _ _ _=>reduce
 simp -implicitDefEqProofs only [go_sem,Int.reduceNegSucc]
 have bY:=ud l;repeat' (first | (simp -implicitDefEqProofs only [go_sem,Int.reduceNegSucc]) | (with_reducible refine aC ?_) | (with_reducible first | refine aM bY ?_ | refine aN bY ?_) | ((first | refine ak (fun hg=>?_) (fun hg=>?_) | refine aI (fun hg=>?_) (fun hg=>?_) | refine aJ (fun hg=>?_) (fun hg=>?_)) <;> try simp -implicitDefEqProofs only [hg,Bool.not_true,Bool.not_false]) | ((with_reducible apply And.intro);focus (first | trivial | omega | decide | (simp -implicitDefEqProofs only [maxLen];omega) | (simp [maxLen,aj,aq,ax,aG,av,aF,aE] <;> omega))) | fail)
 all_goals (try ((first | refine (hK _ _ _ _ [] (cK _ _) ?_).2 | refine (hK _ _ ?_).2 | refine (hK _ _ _ _ [] (cK _ _) ?_).1 | refine (hK _ _ ?_).1 | fail);clear hK;(simp_all [cw,aQ,newL,cD,ct,bH,bF,lk,bO,bV,cj,bW,cU,cT,ag,cC,cO,bh,bT,cn,de,cS,dc,cc,cB,cz,gz,dD]) <;> try omega))
theorem zf:aP Go.Proofs.Try.prog 51 [.rv (cq l),.rv (.int .i64 n)] [] [] (eu l n).sv:=by
 refine dK Pc [.rv (cq l),.rv (.int .i64 n)] _ (by simp) (by simp [aW,bS,dA,bD,bU,au.sv,Ln.sv,Nd.sv]) (fun K hK=>?_)
 have hh:=CG l n
 conv in fc _ _ _ _=>reduce
 simp -implicitDefEqProofs only [go_sem,Int.reduceNegSucc]
 cases hi:dD l n with
 | false=>
   rw [hi] at hh
   have y_2:=hh;repeat' (first | (simp -implicitDefEqProofs only [go_sem,Int.reduceNegSucc]) | (with_reducible refine aC ?_) | (with_reducible first | refine aM y_2 ?_ | refine aN y_2 ?_) | ((first | refine ak (fun hg=>?_) (fun hg=>?_) | refine aI (fun hg=>?_) (fun hg=>?_) | refine aJ (fun hg=>?_) (fun hg=>?_)) <;> try simp -implicitDefEqProofs only [hg,Bool.not_true,Bool.not_false]) | ((with_reducible apply And.intro);focus (first | trivial | omega | decide | (simp -implicitDefEqProofs only [maxLen];omega) | (simp [maxLen,aj,aq,ax,aG,av,aF,aE] <;> omega) | (rfl;done) | (exact ⟨rfl,by decide⟩;done))) | fail)
   have Bm:eu l n=default:=by simp [eu,hi]
   rw [Bm] at hK
   exact (hK _ _ (Cq rfl rfl rfl)).2
 | true=>
   rw [hi] at hh
   obtain ⟨k,rfl,hk⟩:=si hi
   have hx:=gR hk
   have hlen:=ax l
   have di:=hh;repeat' (first | (simp -implicitDefEqProofs only [go_sem,Int.reduceNegSucc,hx,hlen,aq,aj,vT,cq]) | (with_reducible refine aC ?_) | (with_reducible first | refine aM di ?_ | refine aN di ?_) | ((first | refine ak (fun hg=>?_) (fun hg=>?_) | refine aI (fun hg=>?_) (fun hg=>?_) | refine aJ (fun hg=>?_) (fun hg=>?_)) <;> try simp -implicitDefEqProofs only [hg,Bool.not_true,Bool.not_false]) | ((with_reducible apply And.intro);focus (first | trivial | omega | decide | (simp -implicitDefEqProofs only [maxLen];omega) | (simp [maxLen,aj,aq,ax,aG,av,aF,aE] <;> omega))) | fail)
   have Bm:eu l k=(l[k]'hk).s:=by simp [eu,hi,hk]
   rw [Bm] at hK
   exact (hK _ _ (Cq rfl rfl rfl)).2
theorem Sn:aP Go.Proofs.Try.prog 80 [.rv (cq l),.rv (.int .i64 n)] [] [] (.rv (.int .i64 (tM l n))):=by
 refine dK Pb [.rv (cq l),.rv (.int .i64 n)] _ (by simp) (by simp [aW,bS,dA,bD,bU,au.sv,Ln.sv,Nd.sv]) (fun K hK=>?_)
 have hh:=CG l n
 conv in fc _ _ _ _=>reduce
 simp -implicitDefEqProofs only [go_sem,Int.reduceNegSucc]
 cases hi:dD l n with
 | false=>
   rw [hi] at hh
   have dH:=hh;repeat' (first | (simp -implicitDefEqProofs only [go_sem,Int.reduceNegSucc]) | (with_reducible refine aC ?_) | (with_reducible first | refine aM dH ?_ | refine aN dH ?_) | ((first | refine ak (fun hg=>?_) (fun hg=>?_) | refine aI (fun hg=>?_) (fun hg=>?_) | refine aJ (fun hg=>?_) (fun hg=>?_)) <;> try simp -implicitDefEqProofs only [hg,Bool.not_true,Bool.not_false]) | ((with_reducible apply And.intro);focus (first | trivial | omega | decide | (simp -implicitDefEqProofs only [maxLen];omega) | (simp [maxLen,aj,aq,ax,aG,av,aF,aE] <;> omega))) | fail)
   exact (hK _ _ (cm (by simp [tM,hi,lk]))).2
 | true=>
   rw [hi] at hh
   obtain ⟨k,rfl,hk⟩:=si hi
   have hx:=gR hk
   have hlen:=ax l
   have hp:=kH hk
   have dX:=hh;repeat' (first | (simp -implicitDefEqProofs only [go_sem,Int.reduceNegSucc,hx,hlen,aq,cq,kE,hp]) | (with_reducible refine aC ?_) | (with_reducible first | refine aM dX ?_ | refine aN dX ?_) | ((first | refine ak (fun hg=>?_) (fun hg=>?_) | refine aI (fun hg=>?_) (fun hg=>?_) | refine aJ (fun hg=>?_) (fun hg=>?_)) <;> try simp -implicitDefEqProofs only [hg,Bool.not_true,Bool.not_false]) | ((with_reducible apply And.intro);focus (first | trivial | omega | decide | (simp -implicitDefEqProofs only [maxLen];omega) | (simp [maxLen,aj,aq,ax,aG,av,aF,aE] <;> omega))) | fail)
   exact (hK _ _ (cm (by simp [tM,hi,lk]))).2
theorem ze:aP Go.Proofs.Try.prog 21 [.rv (cq l),.rv (.int .i64 n)] [] [] (.rv (.bool (aT l n))):=by
 refine dK Pa [.rv (cq l),.rv (.int .i64 n)] _ (by simp) (by simp [aW,bS,dA,bD,bU,au.sv,Ln.sv,Nd.sv]) (fun K hK=>?_)
 have hh:=CG l n
 conv in fc _ _ _ _=>reduce
 simp -implicitDefEqProofs only [go_sem,Int.reduceNegSucc]
 cases hi:dD l n with
 | false=>
   rw [hi] at hh
   have eS:=hh;repeat' (first | (simp -implicitDefEqProofs only [go_sem,Int.reduceNegSucc]) | (with_reducible refine aC ?_) | (with_reducible first | refine aM eS ?_ | refine aN eS ?_) | ((first | refine ak (fun hg=>?_) (fun hg=>?_) | refine aI (fun hg=>?_) (fun hg=>?_) | refine aJ (fun hg=>?_) (fun hg=>?_)) <;> try simp -implicitDefEqProofs only [hg,Bool.not_true,Bool.not_false]) | ((with_reducible apply And.intro);focus (first | trivial | omega | decide | (simp -implicitDefEqProofs only [maxLen];omega) | (simp [maxLen,aj,aq,ax,aG,av,aF,aE] <;> omega))) | fail)
   exact (hK _ _ (cm (by simp [aT,hi,lk]))).2
 | true=>
   rw [hi] at hh
   obtain ⟨k,rfl,hk⟩:=si hi
   have fB:=hh;repeat' (first | (simp -implicitDefEqProofs only [go_sem,Int.reduceNegSucc,Ql,Qk hk,cq]) | (with_reducible refine aC ?_) | (with_reducible first | refine aM fB ?_ | refine aN fB ?_) | ((first | refine ak (fun hg=>?_) (fun hg=>?_) | refine aI (fun hg=>?_) (fun hg=>?_) | refine aJ (fun hg=>?_) (fun hg=>?_)) <;> try simp -implicitDefEqProofs only [hg,Bool.not_true,Bool.not_false]) | ((with_reducible apply And.intro);focus (first | trivial | omega | decide | (simp -implicitDefEqProofs only [maxLen];omega) | (simp [maxLen,aj,aq,ax,aG,av,aF,aE] <;> omega))) | fail)
   exact (hK _ _ (cm (by simp [aT,hi,lk]))).2
end
end Go.ay

namespace Go.ay
open Go
def PF (l:List Nd) (n:Int):List Nat:=if dD l n=true then gF l n.toNat else []
def dO (l:List Nd) (n:Int):List Nat:=if dD l n=true then (aL l n.toNat).drop 1 else []
def IP (l:List Nd) (m:Int):Bool:=aT l m && !Hw l m
def TS (l:List Nd) (n:Int):List Nat:=(PF l n).filter fun (m:Nat)=>IP l m
section
variable (l:List Nd) (hb:l.length≤8589934592) (n:Int)
end
section
variable (f:Nat) (i j v:Nat) (cap:RV) (p:Int→Bool) (hij:i≠j) (hf:∀ (m:Int) (j:Nat),aP Go.Proofs.Try.prog f [.rv (.int .i64 m),.ptr j 0] [(j,.var [.rv cap])] [] (.rv (.bool (p m))))
include hij hf
def GD (ys:List Int) (p:Int→Bool):List Int:=ys.filter fun y=>!p y
def TL (ys:List Int) (p:Int→Bool):List Int:=GD ys p++List.replicate (ys.length - (GD ys p).length) 0
end
section
variable (l:List Nd) (n:Int)
end
end Go.ay

namespace Go.ay
open Go
theorem OX:bC Go.Proofs.Try.prog 42 27 (fc Go.Proofs.Try.prog 42 27 [(.t 4)]) [(.t 4)]:=bP (by kernel_rfl)
theorem zk {l:List Nd} (ht:ew l=true):cP l:=vZ.1 (by unfold ew at ht;simp -implicitDefEqProofs only [Bool.and_eq_true] at ht;exact ht.1)
theorem zR {l:List Nd} (h:gX l=0):ew l=true:=by
 unfold gX at h
 cases ht:ew l with
 | true=>rfl
 | false=>rw [ht] at h;simp at h
theorem NH (l:List Nd) (n:Int):(n<0∧dD l n=false)∨((l.length:Int)≤n∧0≤n∧dD l n=false)∨∃ k:Nat,n=k∧k<l.length∧dD l n=true:=by
 by_cases h0:n<0
 ·exact .inl ⟨h0,by simp [dD];omega⟩
 ·by_cases h1:n<l.length
  ·exact .inr (.inr ⟨n.toNat,by omega,by omega,by simp [dD];omega⟩)
  ·exact .inr (.inl ⟨by omega,by omega,by simp [dD];omega⟩)
theorem SS (l:List Nd) (ht:ew l=true) (n:Int):aP Go.Proofs.Try.prog 42 [.rv (.sl 49 (bk l)),.rv (.int .i64 n)] [] [] (.rv (.bool (aT l n))):=by
 refine dK OX [.rv (.sl 49 (bk l)),.rv (.int .i64 n)] _ (by simp) (by simp [aW,bS,dA,bD,bU,au.sv,Ln.sv,Nd.sv]) (fun K hK=>?_)
 have hlen:=ax l
 have hs:=zk ht
 conv in fc _ _ _ _=>reduce
 simp -implicitDefEqProofs only [go_sem,Int.reduceNegSucc]
 rcases NH l n with ⟨h1,hi⟩ | ⟨h1,h0,hi⟩ | ⟨k,rfl,hk,hi⟩
 ·have e1:decide (n<0)=true:=decide_eq_true h1
  repeat' (first | (simp -implicitDefEqProofs only [go_sem,Int.reduceNegSucc,e1,hlen]) | (with_reducible refine aC ?_) | ((first | refine ak (fun hg=>?_) (fun hg=>?_) | refine aI (fun hg=>?_) (fun hg=>?_) | refine aJ (fun hg=>?_) (fun hg=>?_)) <;> try simp -implicitDefEqProofs only [hg,Bool.not_true,Bool.not_false]) | ((with_reducible apply And.intro);focus (first | trivial | omega | decide | (simp -implicitDefEqProofs only [maxLen];omega) | (simp [maxLen,aj,aq,ax,aG,av,aF,aE] <;> omega))) | fail)
  exact (hK _ _ (cm (by simp [aT,hi,lk]))).2
 ·have e1:decide (n<0)=false:=decide_eq_false (by omega)
  have e2:decide (n≥(l.length:Int))=true:=decide_eq_true h1
  repeat' (first | (simp -implicitDefEqProofs only [go_sem,Int.reduceNegSucc,e1,e2,hlen]) | (with_reducible refine aC ?_) | ((first | refine ak (fun hg=>?_) (fun hg=>?_) | refine aI (fun hg=>?_) (fun hg=>?_) | refine aJ (fun hg=>?_) (fun hg=>?_)) <;> try simp -implicitDefEqProofs only [hg,Bool.not_true,Bool.not_false]) | ((with_reducible apply And.intro);focus (first | trivial | omega | decide | (simp -implicitDefEqProofs only [maxLen];omega) | (simp [maxLen,aj,aq,ax,aG,av,aF,aE] <;> omega))) | fail)
  exact (hK _ _ (cm (by simp [aT,hi,lk]))).2
 ·have e1:decide ((k:Int)<0)=false:=decide_eq_false (by omega)
  have e2:decide ((k:Int)≥(l.length:Int))=false:=decide_eq_false (by omega)
  repeat' (first | (simp -implicitDefEqProofs only [go_sem,Int.reduceNegSucc,e1,e2,hlen]) | (with_reducible refine aC ?_) | ((first | refine ak (fun hg=>?_) (fun hg=>?_) | refine aI (fun hg=>?_) (fun hg=>?_) | refine aJ (fun hg=>?_) (fun hg=>?_)) <;> try simp -implicitDefEqProofs only [hg,Bool.not_true,Bool.not_false]) | ((with_reducible apply And.intro);focus (first | trivial | omega | decide | (simp -implicitDefEqProofs only [maxLen];omega) | (simp [maxLen,aj,aq,ax,aG,av,aF,aE] <;> omega))) | fail)
  refine dm (ι:=Nat) (fun i=>[(1,.rv (.int .i64 (gL (aL l k) i))),(0,.rv (.sl 49 (bk l)))]) (fun _=>[]) (fun i=>i≤(aL l k).length∧((aL l k).drop i).all (oX l)=(aL l k).all (oX l)) (fun i=>(aL l k).length - i) 0 (by simp) (by rw [uv];exact bB (by simp [lk])) (fun i hi' K' hN hX hR=>?_)
  obtain ⟨hi1,hi2⟩:=hi'
  simp -implicitDefEqProofs only [go_sem,Int.reduceNegSucc]
  refine ak (fun hg=>?_) (fun hg=>?_)
  ·have ek:i<(aL l k).length:=qk.1 (by simpa using hg)
   have rP:=uu ek
   have hlt:(aL l k)[i]<l.length:=tU hk ek
   have hx:=gR hlt
   have hpar:=kH hlt
   have jn:=yI hs.wf k hk i ek
   have hsh:=Cz hlt
   have hs0:((l[(aL l k)[i]]'hlt).cells)[0]?=some (.bool (l[(aL l k)[i]]'hlt).s.shown):=rfl
   repeat' (first | (simp -implicitDefEqProofs only [go_sem,Int.reduceNegSucc,hlen,aq,kE,rP,hx,hpar,jn,hs0,hsh]) | (with_reducible refine aC ?_) | ((first | refine ak (fun hg=>?_) (fun hg=>?_) | refine aI (fun hg=>?_) (fun hg=>?_) | refine aJ (fun hg=>?_) (fun hg=>?_)) <;> try simp -implicitDefEqProofs only [hg,Bool.not_true,Bool.not_false]) | ((with_reducible apply And.intro);focus (first | trivial | omega | decide | (simp -implicitDefEqProofs only [maxLen];omega) | (simp [maxLen,aj,aq,ax,aG,av,aF,aE] <;> omega))) | fail)
   ·refine hR _ _ (hK _ _ (cm ?_)).2
    have:(aL l k).all (oX l)=false:=oz ek hi2 (by simpa using hg)
    simp [aT,hi,iU,this,lk]
   ·exact hN (i+1) _ _ ⟨by omega,oA ek hi2 (by simpa using hg)⟩ (by omega) (bB (by simp [lk]))
  ·have ek:¬ i<(aL l k).length:=fun h=>by have:=qk.2 h;simp at hg;omega
   simp -implicitDefEqProofs only [go_sem,Int.reduceNegSucc]
   refine hX _ _ _ ?_
   repeat' (first | (simp -implicitDefEqProofs only [go_sem,Int.reduceNegSucc]) | (with_reducible refine aC ?_) | ((first | refine ak (fun hg=>?_) (fun hg=>?_) | refine aI (fun hg=>?_) (fun hg=>?_) | refine aJ (fun hg=>?_) (fun hg=>?_)) <;> try simp -implicitDefEqProofs only [hg,Bool.not_true,Bool.not_false]) | ((with_reducible apply And.intro);focus (first | trivial | omega | decide | (simp -implicitDefEqProofs only [maxLen];omega) | (simp [maxLen,aj,aq,ax,aG,av,aF,aE] <;> omega))) | fail)
   refine (hK _ _ (cm ?_)).2
   have:=oy (by omega) hi2
   simp [aT,hi,iU,this,lk]
def TT (l:List Nd) (k p:Nat):List Nat:=(aZ l k p).filter fun (m:Nat)=>IP l m
def Uj (l:List Nd) (n:Int) (i:Nat):Int:=if dD l n=true∧n<i then (if (i:Int)<xg l n then (i:Int) else xg l n) else 0
end Go.ay

namespace Go.ay
open Go
def gM (p:Int→Bool) (xs:List Nat):Int:=match xs.find? (fun (m:Nat)=>p m) with
 | some k=>k
 | none=>-1
theorem uP (p:Int→Bool) (xs:List Nat):gM p xs = -1∧(∀ x∈xs,p (x:Nat)=false)∨∃ i,∃ h:i<xs.length,gM p xs=(xs[i]:Nat)∧p (xs[i]:Nat)=true∧∀ j,(h:j<i)→p (xs[j]:Nat)=false:=by
 unfold gM
 cases hf:xs.find? (fun (m:Nat)=>p m) with
 | none=>left;refine ⟨rfl,fun x hx=>?_⟩;have:=List.find?_eq_none.1 hf x hx;simpa using this
 | some k=>
   right
   obtain ⟨hp,a,b,hab,hn⟩:=List.find?_eq_some_iff_append.1 hf
   subst hab
   refine ⟨a.length,by simp,by simp,by simpa using hp,fun j hj=>?_⟩
   have:=hn (a[j]) (List.getElem_mem hj)
   rw [List.getElem_append_left hj]
   simpa using this
theorem Tw {l:List Nd} (hs:cP l) {n:Int} {x:Nat} (hx:x∈dO l n):Dv l x n=true∧(x:Int)≠n∧x<l.length:=by
 unfold dO at hx
 split at hx
 ·rename_i hin
  obtain ⟨k,rfl,hk⟩:=si hin
  simp -implicitDefEqProofs only [Int.toNat_natCast] at hx
  have hm:=List.mem_of_mem_drop hx
  have hle:=oT _ _ hm
  have jq:x<l.length:=by omega
  obtain ⟨h1,h2⟩:=(hs.below jq hk).1 hm
  refine ⟨by simp [Dv,hin,oR jq,xg,h1,h2],?_,jq⟩
  by_cases hp:0≤aU l k∧aU l k<k
  ·rw [kI hp] at hx
   simp -implicitDefEqProofs only [List.drop_succ_cons,List.drop_zero] at hx
   have:=oT _ _ hx
   omega
  ·rw [qe hp] at hx;simp at hx
 ·simp at hx
end Go.ay

namespace Go.ay
open Go
theorem OY:bC Go.Proofs.Try.prog 81 19 (fc Go.Proofs.Try.prog 81 19 [(.t 4)]) [(.t 4)]:=bP (by kernel_rfl)
def tQ (l:List Nd) (n:Int):Bool:=aT l n && decide (n>0) && ((eu l n).position != 0)
def vl (l:List Nd) (n:Int):Int:=if aT l n=false then -1 else if Hw l n=false then tM l n else if (eu l n).position=3 then -1 else gM (tQ l) (dO l n)
theorem Sp (l:List Nd) (n:Int):aP Go.Proofs.Try.prog 81 [.rv (cq l),.rv (.int .i64 n)] [] [] (.rv (.bool (tQ l n))):=by
 refine dK OY [.rv (cq l),.rv (.int .i64 n)] _ (by simp) (by simp [aW,bS,dA,bD,bU,au.sv,Ln.sv,Nd.sv]) (fun K hK=>?_)
 have hm:=ze l n
 have hst:=zf l n
 conv in fc _ _ _ _=>reduce
 simp -implicitDefEqProofs only [go_sem,Int.reduceNegSucc]
 cases hi:aT l n with
 | false=>
   rw [hi] at hm
   have bY:=hm;repeat' (first | (simp -implicitDefEqProofs only [go_sem,Int.reduceNegSucc]) | (with_reducible refine aC ?_) | (with_reducible first | refine aM bY ?_ | refine aN bY ?_) | ((first | refine ak (fun hg=>?_) (fun hg=>?_) | refine aI (fun hg=>?_) (fun hg=>?_) | refine aJ (fun hg=>?_) (fun hg=>?_)) <;> try simp -implicitDefEqProofs only [hg,Bool.not_true,Bool.not_false]) | ((with_reducible apply And.intro);focus (first | trivial | omega | decide | (simp -implicitDefEqProofs only [maxLen];omega) | (simp [maxLen,aj,aq,ax,aG,av,aF,aE] <;> omega))) | fail)
   exact (hK _ _ (cm (by simp [tQ,hi,lk]))).2
 | true=>
   rw [hi] at hm
   by_cases h0:n>0
   ·have e1:decide (n>0)=true:=decide_eq_true h0
    have y_2:=hm;have di:=hst;repeat' (first | (simp -implicitDefEqProofs only [go_sem,Int.reduceNegSucc,e1,jR]) | (with_reducible refine aC ?_) | (with_reducible first | refine aM y_2 ?_ | refine aN y_2 ?_) | (with_reducible first | refine aM di ?_ | refine aN di ?_) | ((first | refine ak (fun hg=>?_) (fun hg=>?_) | refine aI (fun hg=>?_) (fun hg=>?_) | refine aJ (fun hg=>?_) (fun hg=>?_)) <;> try simp -implicitDefEqProofs only [hg,Bool.not_true,Bool.not_false]) | ((with_reducible apply And.intro);focus (first | trivial | omega | decide | (simp -implicitDefEqProofs only [maxLen];omega) | (simp [maxLen,aj,aq,ax,aG,av,aF,aE] <;> omega))) | fail)
    exact (hK _ _ (cm (by simp [tQ,hi,lk,h0]))).2
   ·have e1:decide (n>0)=false:=decide_eq_false h0
    have dH:=hm;have dX:=hst;repeat' (first | (simp -implicitDefEqProofs only [go_sem,Int.reduceNegSucc,e1,jR]) | (with_reducible refine aC ?_) | (with_reducible first | refine aM dH ?_ | refine aN dH ?_) | (with_reducible first | refine aM dX ?_ | refine aN dX ?_) | ((first | refine ak (fun hg=>?_) (fun hg=>?_) | refine aI (fun hg=>?_) (fun hg=>?_) | refine aJ (fun hg=>?_) (fun hg=>?_)) <;> try simp -implicitDefEqProofs only [hg,Bool.not_true,Bool.not_false]) | ((with_reducible apply And.intro);focus (first | trivial | omega | decide | (simp -implicitDefEqProofs only [maxLen];omega) | (simp [maxLen,aj,aq,ax,aG,av,aF,aE] <;> omega))) | fail)
    exact (hK _ _ (cm (by simp [tQ,hi,lk,h0]))).2
end Go.ay

namespace Go.ay
open Go
def Um (r:Rc):Rc:=if Ak r=true then cQ else r
def Jj (w h:Int):Rc:=⟨0,0,w,h⟩
def Uu (w h:Int):Rc:=BQ (Jj w h) (Jj w h)
def Ko (l:List Nd) (bx:List Bx) (v:Rc) (out:List Rc) (n:Nat):Rc:=
 if aT l n=false then cQ else if vl l n = -1 then v else
  if (eu l (vl l n)).clip=true then BQ (out.getD (vl l n).toNat cQ) (fV (bx.getD (vl l n).toNat default)) else out.getD (vl l n).toNat cQ
def uB (l:List Nd) (bx:List Bx) (v:Rc):Nat→List Rc
 | 0=>[]
 | k+1=>uB l bx v k++[Ko l bx v (uB l bx v k) k]
def Uq (l:List Nd) (bx:List Bx) (v:Rc) (n k:Nat):List Rc:=uB l bx v k++List.replicate (n - k) cQ
def TK (l:List Nd) (bx:List Bx) (v:Rc) (h:Int):Rc:=
 if h = -1 then v else if (eu l h).clip=true then BQ ((uB l bx v l.length).getD h.toNat cQ) (fV (bx.getD h.toNat default)) else (uB l bx v l.length).getD h.toNat cQ
end Go.ay

namespace Go.ay
open Go
def Ul (b:Bx):List U:=b.BU.map fun n=>.rv (.int .i64 n)
def TR (n:Int):Bool:=!(decide (n < -1125899906842624) || decide (n>1125899906842624))
theorem Ro {l:List Rc} {i:Nat} (h:i<l.length):(cL l)[i]?.getD []=(l.getD i cQ).cells:=by simp [cL,h]
theorem JZ {l:List Bx} {i:Nat} (h:i<l.length):(cJ l)[i]?.getD []=(l.getD i default).cells:=by simp [cJ,h]
theorem Ey {bx:List Bx} (hf:bx.all iG=true) {i:Nat} (h:i<bx.length):iG (bx.getD i default)=true:=by
 rw [List.getD_eq_getElem?_getD,List.getElem?_eq_getElem h]
 exact List.all_eq_true.1 hf _ (List.getElem_mem h)
end Go.ay

namespace Go.ay
open Go
theorem Pf:bC Go.Proofs.Try.prog 92 17 (fc Go.Proofs.Try.prog 92 17 [(.t 4)]) [(.t 4)]:=bP (by kernel_rfl)
theorem Pe:bC Go.Proofs.Try.prog 91 18 (fc Go.Proofs.Try.prog 91 18 [(.t 4)]) [(.t 4)]:=bP (by kernel_rfl)
def cY (l:List Nd) (n:Int):Bool:=aT l n && ((n == 0) || tQ l n)
def dB (l:List Nd) (n:Int):Bool:=cY l n && ((n == 0) || (eu l n).uX)
def dU (l:List Nd) (n:Int):Int:=if aT l n=true then gM (cY l) (aL l n.toNat) else -1
def eG (l:List Nd) (n:Int):Int:=if aT l n=true then gM (dB l) (dO l n) else -1
theorem gQ {l:List Nd} {n:Int} (h:cY l n=true):aT l n=true:=by simp [cY] at h;exact h.1
theorem Ix (l:List Nd) (n:Int):aP Go.Proofs.Try.prog 92 [.rv (cq l),.rv (.int .i64 n)] [] [] (.rv (.bool (cY l n))):=by
 refine dK Pf [.rv (cq l),.rv (.int .i64 n)] _ (by simp) (by simp [aW,bS,dA,bD,bU,au.sv,Ln.sv,Nd.sv]) (fun K hK=>?_)
 have hm:=ze l n
 have hp:=Sp l n
 conv in fc _ _ _ _=>reduce
 simp -implicitDefEqProofs only [go_sem,Int.reduceNegSucc]
 cases hi:aT l n with
 | false=>
   rw [hi] at hm
   have bY:=hm;repeat' (first | (simp -implicitDefEqProofs only [go_sem,Int.reduceNegSucc]) | (with_reducible refine aC ?_) | (with_reducible first | refine aM bY ?_ | refine aN bY ?_) | ((first | refine ak (fun hg=>?_) (fun hg=>?_) | refine aI (fun hg=>?_) (fun hg=>?_) | refine aJ (fun hg=>?_) (fun hg=>?_)) <;> try simp -implicitDefEqProofs only [hg,Bool.not_true,Bool.not_false]) | ((with_reducible apply And.intro);focus (first | trivial | omega | decide | (simp -implicitDefEqProofs only [maxLen];omega) | (simp [maxLen,aj,aq,ax,aG,av,aF,aE] <;> omega))) | fail)
   exact (hK _ _ (cm (by simp [cY,hi,lk]))).2
 | true=>
   rw [hi] at hm
   cases e1:n == 0 with
   | true=>
     have y_2:=hm;have di:=hp;repeat' (first | (simp -implicitDefEqProofs only [go_sem,Int.reduceNegSucc,e1]) | (with_reducible refine aC ?_) | (with_reducible first | refine aM y_2 ?_ | refine aN y_2 ?_) | (with_reducible first | refine aM di ?_ | refine aN di ?_) | ((first | refine ak (fun hg=>?_) (fun hg=>?_) | refine aI (fun hg=>?_) (fun hg=>?_) | refine aJ (fun hg=>?_) (fun hg=>?_)) <;> try simp -implicitDefEqProofs only [hg,Bool.not_true,Bool.not_false]) | ((with_reducible apply And.intro);focus (first | trivial | omega | decide | (simp -implicitDefEqProofs only [maxLen];omega) | (simp [maxLen,aj,aq,ax,aG,av,aF,aE] <;> omega))) | fail)
     exact (hK _ _ (cm (by simp [cY,hi,lk,e1]))).2
   | false=>
     have dH:=hm;have dX:=hp;repeat' (first | (simp -implicitDefEqProofs only [go_sem,Int.reduceNegSucc,e1]) | (with_reducible refine aC ?_) | (with_reducible first | refine aM dH ?_ | refine aN dH ?_) | (with_reducible first | refine aM dX ?_ | refine aN dX ?_) | ((first | refine ak (fun hg=>?_) (fun hg=>?_) | refine aI (fun hg=>?_) (fun hg=>?_) | refine aJ (fun hg=>?_) (fun hg=>?_)) <;> try simp -implicitDefEqProofs only [hg,Bool.not_true,Bool.not_false]) | ((with_reducible apply And.intro);focus (first | trivial | omega | decide | (simp -implicitDefEqProofs only [maxLen];omega) | (simp [maxLen,aj,aq,ax,aG,av,aF,aE] <;> omega))) | fail)
     exact (hK _ _ (cm (by simp [cY,hi,lk,e1]))).2
theorem Iw (l:List Nd) (n:Int):aP Go.Proofs.Try.prog 91 [.rv (cq l),.rv (.int .i64 n)] [] [] (.rv (.bool (dB l n))):=by
 refine dK Pe [.rv (cq l),.rv (.int .i64 n)] _ (by simp) (by simp [aW,bS,dA,bD,bU,au.sv,Ln.sv,Nd.sv]) (fun K hK=>?_)
 have hm:=Ix l n
 have hst:=zf l n
 conv in fc _ _ _ _=>reduce
 simp -implicitDefEqProofs only [go_sem,Int.reduceNegSucc]
 cases hi:cY l n with
 | false=>
   rw [hi] at hm
   have eS:=hm;repeat' (first | (simp -implicitDefEqProofs only [go_sem,Int.reduceNegSucc]) | (with_reducible refine aC ?_) | (with_reducible first | refine aM eS ?_ | refine aN eS ?_) | ((first | refine ak (fun hg=>?_) (fun hg=>?_) | refine aI (fun hg=>?_) (fun hg=>?_) | refine aJ (fun hg=>?_) (fun hg=>?_)) <;> try simp -implicitDefEqProofs only [hg,Bool.not_true,Bool.not_false]) | ((with_reducible apply And.intro);focus (first | trivial | omega | decide | (simp -implicitDefEqProofs only [maxLen];omega) | (simp [maxLen,aj,aq,ax,aG,av,aF,aE] <;> omega))) | fail)
   exact (hK _ _ (cm (by simp [dB,hi,lk]))).2
 | true=>
   rw [hi] at hm
   cases e1:n == 0 with
   | true=>
     have fB:=hm;have gu:=hst;repeat' (first | (simp -implicitDefEqProofs only [go_sem,Int.reduceNegSucc,e1]) | (with_reducible refine aC ?_) | (with_reducible first | refine aM fB ?_ | refine aN fB ?_) | (with_reducible first | refine aM gu ?_ | refine aN gu ?_) | ((first | refine ak (fun hg=>?_) (fun hg=>?_) | refine aI (fun hg=>?_) (fun hg=>?_) | refine aJ (fun hg=>?_) (fun hg=>?_)) <;> try simp -implicitDefEqProofs only [hg,Bool.not_true,Bool.not_false]) | ((with_reducible apply And.intro);focus (first | trivial | omega | decide | (simp -implicitDefEqProofs only [maxLen];omega) | (simp [maxLen,aj,aq,ax,aG,av,aF,aE] <;> omega))) | fail)
     exact (hK _ _ (cm (by simp [dB,hi,lk,e1]))).2
   | false=>
     have iB:=hm;have jy:=hst;repeat' (first | (simp -implicitDefEqProofs only [go_sem,Int.reduceNegSucc,e1,kL]) | (with_reducible refine aC ?_) | (with_reducible first | refine aM iB ?_ | refine aN iB ?_) | (with_reducible first | refine aM jy ?_ | refine aN jy ?_) | ((first | refine ak (fun hg=>?_) (fun hg=>?_) | refine aI (fun hg=>?_) (fun hg=>?_) | refine aJ (fun hg=>?_) (fun hg=>?_)) <;> try simp -implicitDefEqProofs only [hg,Bool.not_true,Bool.not_false]) | ((with_reducible apply And.intro);focus (first | trivial | omega | decide | (simp -implicitDefEqProofs only [maxLen];omega) | (simp [maxLen,aj,aq,ax,aG,av,aF,aE] <;> omega))) | fail)
     exact (hK _ _ (cm (by simp [dB,hi,lk,e1]))).2
end Go.ay

namespace Go.ay
open Go
def bG (q:Nat→Bool) (k:Nat):List Nat:=(List.range k).filter q
theorem Io {q:Nat→Bool}:bG q 0=[]:=rfl
theorem zb {q:Nat→Bool} {k:Nat}:bG q (k+1)=bG q k++if q k=true then [k] else []:=by
 unfold bG;rw [List.range_succ,List.filter_append];cases h:q k <;> simp [h]
theorem za {q:Nat→Bool} {k:Nat}:(bG q k).length≤k:=by
 have:=List.length_filter_le q (List.range k);simpa [bG] using this
def cA (l:List Nd) (n:Nat) (j:Nat):Bool:=decide (j≠n) && (dU l j == n)
def cu (l:List Nd) (n:Nat) (j:Nat):Bool:=decide (j≠n) && cY l j && (eG l j == n)
def Qt (l:List Nd) (n:Int):List Nat:=if cY l n=true then bG (cA l n.toNat) l.length else []
def QW (l:List Nd) (n:Int):List Nat:=if dB l n=true then bG (cu l n.toNat) l.length else []
theorem oF {l:List Nd} {n:Int} (h:dB l n=true):cY l n=true:=by
 simp [dB] at h;exact h.1
def Ur (q:Nat→Bool) (k:Nat):List (Option HB):=[some (.row 1 (bG q k).length (ah (aS (bq (bG q k)))))]
end Go.ay

namespace Go.ay
open Go
theorem Lb (s:au):∀ r∈s.cells,fZ r:=by
 intro r hr
 simp -implicitDefEqProofs only [au.cells,List.mem_cons,List.not_mem_nil,or_false] at hr
 repeat' rcases hr with rfl | hr
 all_goals first | exact .int _ _ | exact .bool _ | (subst hr;exact .int _ _)
theorem Ld (x:Nd):∀ r∈x.cells,fZ r:=by
 intro r hr
 rcases List.mem_append.1 hr with hr | hr
 ·exact Lb _ r hr
 ·simp at hr;rw [hr];exact .int _ _
theorem EG {e v:Nat} {xs:List (List RV)} (h:∀ x∈xs,∀ r∈x,fZ r):oZ (.row e v (ah xs)):=by
 refine .row _ _ _ (fun i x j y hx hy=>?_)
 unfold ah at hx
 rw [List.getElem?_map] at hx
 cases hq:xs[i]? with
 | none=>simp [hq] at hx
 | some z=>
   simp [hq] at hx
   subst hx
   rw [List.getElem?_map] at hy
   cases hr:z[j]? with
   | none=>simp [hr] at hy
   | some r=>simp [hr] at hy;subst hy;exact .rv _ (h z (List.mem_of_getElem? hq) r (List.mem_of_getElem? hr))
theorem Si (l:List Nd) (hb:l.length≤8589934592) (i v m:Nat) (hne:i≠m):aP Go.Proofs.Try.prog 47 [.row i v l.length] [(i,.row 49 v (ah (bk l)))] [(m,.row 49 1 (ah (bk l)))] (.row m 1 l.length):=by
 have h:=Iv (bk l) m (by rw [ax];exact hb)
 rw [ax] at h
 refine zK (rs:=[.sl 49 (bk l)]) h (fun hp hpre=>⟨?_,trivial⟩) rfl (.row _ _ _) (fun q hq=>?_)
 ·exact kj (hpre _ (.head _)) rfl (by simp [bk]) (yy l)
 ·simp at hq;subst hq
  refine ⟨EG fun x hx=>?_,by simpa using hne⟩
  obtain ⟨n,_,rfl⟩:=List.mem_map.1 hx
  exact Ld n
theorem BR (x:Nd):(x.cells.map U.rv).take 49=x.cells.map U.rv:=rfl
def fj (l:List Nd) (k:Nat):List (List U):=(List.range l.length).map fun p=>[.row (p+7) (aZ l k p).length (aZ l k p).length]
def eX (l:List Nd) (k:Nat):List (Option HB):=(List.range l.length).map fun p=>some (.row 1 (aZ l k p).length (ah (aS (bq (aZ l k p)))))
theorem vF (l:List Nd) (k:Nat):(fj l k).length=l.length:=by simp [fj]
theorem kz (l:List Nd) (k:Nat):(eX l k).length=l.length:=by simp [eX]
theorem Gp {l:List Nd} {k p:Nat} (hp:p<l.length):(fj l k)[p]?.getD []=[.row (p+7) (aZ l k p).length (aZ l k p).length]:=by simp [fj,hp]
theorem BD {l:List Nd} {k p:Nat} {C:List (Option HB)} (hp:p<l.length):ag (eX l k++C) p=some (.row 1 (aZ l k p).length (ah (aS (bq (aZ l k p))))):=by
 unfold ag
 rw [List.getElem?_append_left (by rw [kz];exact hp)]
 simp [eX,hp]
theorem BB {l:List Nd} {k:Nat} {x:Option HB} {C:List (Option HB)}:ag (eX l k++x::C) l.length=x:=by
 unfold ag
 rw [List.getElem?_append_right (by rw [kz];exact Nat.le_refl _),kz]
 simp
theorem Gk {l:List Nd} {k:Nat} {x y:Option HB} {C:List (Option HB)}:ag (eX l k++x::y::C) (l.length+1)=y:=by
 unfold ag
 rw [List.getElem?_append_right (by rw [kz];omega),kz,show l.length+1 - l.length=1 by omega]
 simp
theorem Gm {l:List Nd} {k p:Nat} {hb:Option HB} {x y:Option HB} {C:List (Option HB)}:ag ((eX l k).set p hb++x::C) l.length=x:=by
 unfold ag
 rw [List.getElem?_append_right (by rw [List.length_set,kz];exact Nat.le_refl _),List.length_set,kz]
 simp
theorem BF {l:List Nd} {k:Nat} {x y:Option HB} {C:List (Option HB)}:(eX l k++x::C).set l.length y=eX l k++y::C:=by
 rw [List.set_append_right _ _ (by rw [kz];exact Nat.le_refl _),kz,Nat.sub_self];rfl
theorem Ol {l:List Nd} {k p:Nat} {y:Option HB} {C:List (Option HB)} (hp:p<l.length):(eX l k++C).set p y=(eX l k).set p y++C:=by
 rw [List.set_append_left _ _ (by rw [kz];exact hp)]
theorem On (l:List Nd):eX l 0=eg l.length 1:=by
 refine List.ext_getElem (by simp [eX,eg]) (fun i h1 h2=>?_)
 simp [eX,eg,vH,bq,aS,ah]
theorem Gr (l:List Nd):fj l 0=dS 7 l.length l.length:=by
 refine List.ext_getElem (by simp [fj,dS]) (fun i h1 h2=>?_)
 simp [fj] at h1
 simp [fj,dS,vH,h1];omega
theorem Oj {l:List Nd} {k p:Nat} (h0:0<k) (hp:aU l k=p) (hl:p<l.length) :
 (eX l k).set p (some (.row 1 ((aZ l k p).length+1) (ah (aS (bq (aZ l k p)++[(k:Int)])))))=eX l (k+1):=by
 refine List.ext_getElem (by simp [eX]) (fun i h1 h2=>?_)
 simp -implicitDefEqProofs only [List.getElem_set,eX,List.getElem_map,List.getElem_range,vG]
 by_cases h:p=i
 ·subst h;simp [h0,hp,bq]
 ·rw [if_neg h,if_neg (by rw [hp];omega)];simp
theorem Ou {l:List Nd} {k p:Nat} (h0:0<k) (hp:aU l k=p) (hl:p<l.length) :
 (fj l k).set p [.row (p+7) ((aZ l k p).length+1) ((aZ l k p).length+1)]=fj l (k+1):=by
 refine List.ext_getElem (by simp [fj]) (fun i h1 h2=>?_)
 simp -implicitDefEqProofs only [List.getElem_set,fj,List.getElem_map,List.getElem_range,vG]
 by_cases h:p=i
 ·subst h;simp [h0,hp]
 ·rw [if_neg h,if_neg (by rw [hp];omega)];simp
theorem Oh (l:List Nd):eX l 1=eX l 0:=by
 refine List.ext_getElem (by simp [eX]) (fun i h1 h2=>?_)
 simp [eX,aZ,List.range_succ]
theorem Oq (l:List Nd):fj l 1=fj l 0:=by
 refine List.ext_getElem (by simp [fj]) (fun i h1 h2=>?_)
 simp [fj,aZ,List.range_succ]
def qJ (v:Nat) (l:List Nd) (k:Nat) (es ds:List Int) (bs:List Bool):List (Option HB):=some (.row 49 v (ah (bk l)))::some (.row 49 1 (ah (bk l)))::some (.row 1 0 (fj l k))::some (.row 1 0 (ah (aS es)))::some (.row 1 0 (ah (aS ds)))::some (.row 1 0 (ah (fO bs)))::some (.var [.row 1 1 l.length,.row 2 0 l.length,.row 3 0 l.length,.row 4 0 l.length,.row 5 0 l.length])::eX l k
theorem Bw {v:Nat} {l:List Nd} {k:Nat} {es ds:List Int} {bs:List Bool}:(qJ v l k es ds bs).length=l.length+7:=by simp [qJ,kz]
theorem Of {v:Nat} {l:List Nd} {k:Nat} {es ds:List Int} {bs:List Bool}:jz (ox (l.length+7)) (qJ v l k es ds bs):=by
 refine ⟨cg,cg,fun i x hx=>?_,cg,cg,cg,by simp [ox,iO,fq],jz.of fun j x hx=>?_⟩
 ·obtain ⟨hl,rfl⟩:=List.getElem?_eq_some_iff.1 hx
  simp [vF] at hl
  simp [fj,iO,fq,hl]
 ·obtain ⟨hl,rfl⟩:=List.getElem?_eq_some_iff.1 hx
  exact ⟨.row 1 (aZ l k j).length (ah (aS (bq (aZ l k j)))),by simp [eX],cg⟩
theorem Bz {v:Nat} {l:List Nd} {k:Nat} {es ds:List Int} {bs:List Bool} {env env':List (Nat×U)} {C:List (Option HB)} (he:eM (l.length+7) env env'):cV 1 ⟨env,qJ v l k es ds bs++C⟩ ⟨env',qJ v l k es ds bs⟩:=
 kg (by rw [Bw];omega) (by rw [Bw];exact Of) (by rw [Bw];exact he)
theorem PJ (v:Nat) (l:List Nd) {τ:Nat→Option Nat} (gE:∀ j,0<j→τ j=none):Fz τ (ag (qJ v l l.length (rK l) (bM l l.length) (cN l l.length))) (.ptr 6 0) (cq l):=by
 refine .ptr 6 [.row 1 1 l.length,.row 2 0 l.length,.row 3 0 l.length,.row 4 0 l.length,.row 5 0 l.length] _ (gE _ (by decide)) rfl rfl (fun i r hr=>?_) (fun i x r hx hr=>?_)
 ·match i with
  | 0=>cases hr;rfl
  | 1=>cases hr;rfl
  | 2=>cases hr;rfl
  | 3=>cases hr;rfl
  | 4=>cases hr;rfl
  | i+5=>simp at hr
 ·match i with
  | 0=>cases hx;cases hr;exact kj rfl (gE _ (by decide)) (by simp [bk]) (yy l)
  | 1=>
    cases hx;cases hr
    refine .row 2 1 0 l.length (fj l l.length) (lA l) (gE _ (by decide)) rfl (by simp [lA]) (by rw [vF];exact Nat.le_refl _) (fun i x r hx hr=>?_) (fun i r k q hr hq=>?_) (fun i x r k y q hx hr hy hq=>?_)
    ·obtain ⟨_,rfl⟩:=List.getElem?_eq_some_iff.1 hx
     obtain ⟨_,rfl⟩:=List.getElem?_eq_some_iff.1 hr
     simp [fj,lA]
    ·obtain ⟨_,rfl⟩:=List.getElem?_eq_some_iff.1 hr
     have:=List.mem_of_getElem? hq
     simp [lA] at this
     rw [this];rfl
    ·obtain ⟨hl,rfl⟩:=List.getElem?_eq_some_iff.1 hx
     obtain ⟨_,rfl⟩:=List.getElem?_eq_some_iff.1 hr
     rw [vF] at hl
     cases k with
     | succ k=>simp [fj] at hy
     | zero=>
       simp [fj] at hy
       simp [lA] at hq
       subst hy;subst hq
       refine kj (xs:=aS (bq (gF l i))) ?_ (gE _ (by omega)) (by simp [aS,bq,gF]) (qG _)
       have:=BD (k:=l.length) (C:=[]) hl
       rw [List.append_nil] at this
       exact this
  | 2=>cases hx;cases hr;exact kj rfl (gE _ (by decide)) (by simp [aS,rK]) (qG _)
  | 3=>cases hx;cases hr;exact kj rfl (gE _ (by decide)) (by simp [aS,bM]) (qG _)
  | 4=>cases hx;cases hr;exact kj rfl (gE _ (by decide)) (by simp [fO,cN]) (DA _)
  | i+5=>simp at hx
theorem SF (l:List Nd) (hb:l.length≤8589934592) (hc:gX l=0) (i0 v:Nat):aP Go.Proofs.Try.prog 17 [.row i0 v l.length] [(i0,.row 49 v (ah (bk l)))] [] (.aR [.rv (cq l),.rv (.int .i64 0)]):=by
 refine eY Gt [i0] [.row 49 v (ah (bk l))] [.row 49 v (ah (bk l))] [.row 0 v l.length] [.row i0 v l.length] _ _ (by simp) (by simp [aW,dP]) rfl (by simp [aQ]) ⟨rfl,rfl,⟨rfl,_,rfl⟩,trivial⟩ (fun K hK=>?_)
 have hlen:=ax l
 have Fe:=IJ l hb
 rw [hc] at Fe
 have iQ:=GH (id:=0) (v:=v) (n:=l.length) (bs:=[]) Fe (.int _ _) (by simp [bk]) (yy l)
 have ht:ew l=true:=by
  unfold gX at hc
  cases h:ew l with
  | true=>rfl
  | false=>rw [h] at hc;simp at hc
 have hs:cP l:=vZ.1 (by unfold ew at ht;simp -implicitDefEqProofs only [Bool.and_eq_true] at ht;exact ht.1)
 have rJ:(((0:Int)) != 0)=false:=rfl
 conv in fc _ _ _ _=>reduce
 simp -implicitDefEqProofs only [go_sem,Int.reduceNegSucc]
 have ia:(bk l).length≤8589934592:=by rw [hlen];exact hb
 have bY:=iQ;have y_2:=Si l hb 0 v 1 (by decide);repeat' (first | (simp -implicitDefEqProofs only [go_sem,Int.reduceNegSucc,rJ,hlen,yU,Ie]) | (with_reducible refine aC ?_) | (refine ck bY (by simp [aV,ag];done) (by simp [bf,aY];done) ?_) | (refine dY bY (by simp [aV,ag];done) (by simp [bf,aY];done) ?_) | (refine ck y_2 (by simp [aV,ag];done) (by simp [bf,aY];done) ?_) | (refine dY y_2 (by simp [aV,ag];done) (by simp [bf,aY];done) ?_) | ((first | refine ak (fun hg=>?_) (fun hg=>?_) | refine aI (fun hg=>?_) (fun hg=>?_) | refine aJ (fun hg=>?_) (fun hg=>?_)) <;> try simp -implicitDefEqProofs only [hg,Bool.not_true,Bool.not_false]) | ((with_reducible apply And.intro);focus (first | trivial | omega | decide | (simp -implicitDefEqProofs only [maxLen];omega) | (simp [maxLen,aj,aq,ax,aG,av,aF,aE] <;> omega))) | fail)
 have MZ:∀ n:Nat,fj l 0=dS 7 l.length l.length:=fun _=>Gr l
 let ev:Nat→List (Nat×U):=fun k=>[(33,.rv (.int .i64 k)),(32,.rv (.int .i64 l.length)),(31,.row 0 v l.length),(5,.ptr 6 0),(0,.row 0 v l.length)]
 refine dm (ι:=Nat) (fun k=>[(33,.rv (.int .i64 k)),(32,.rv (.int .i64 l.length)),(31,.row 0 v l.length),(5,.ptr 6 0),(0,.row 0 v l.length)]) (fun k=>some (.row 49 v (ah (bk l)))::some (.row 49 1 (ah (bk l)))::some (.row 1 0 (fj l k))::some (.row 1 0 (ah (aS (List.replicate l.length 0))))::some (.row 1 0 (ah (aS (bM l k))))::some (.row 1 0 (ah (fO (cN l k))))::some (.var [.row 1 1 l.length,.row 2 0 l.length,.row 3 0 l.length,.row 4 0 l.length,.row 5 0 l.length])::eX l k) (fun k=>k≤l.length) (fun k=>l.length - k) 0 (by simp) ?_ (fun k hk K' hN hX hR=>?_)
 ·refine (bB (env':=[(33,.rv (.int .i64 0)),(32,.rv (.int .i64 l.length)),(31,.row 0 v l.length),(5,.ptr 6 0),(0,.row 0 v l.length)]) (by simp [lk])).trans ?_
  rw [Gr,On,Af,GW]
  exact xh (r:=2) (v:=0) (n:=l.length) (e:=1) rfl
 simp -implicitDefEqProofs only [go_sem,Int.reduceNegSucc]
 refine ak (fun hg=>?_) (fun hg=>?_)
 ·have aA:k<l.length:=by simp at hg;omega
  have hx:=gR aA
  have jJ:=kz l k
  have iI:=sX l k
  have iH:=av (bM l k)
  have oH:=ff (l:=bM l k) (i:=k) (by omega)
  have hml:=GV l k
  have kY:=wL (cN l k)
  have rX:=sP (bs:=cN l k) (i:=k) (by omega)
  have hsh:=Cz aA
  have e1:(l.length=l.length+1)=False:=eq_false (by omega)
  have e2:(l.length=l.length+2)=False:=eq_false (by omega)
  have hds:=xd aA
  have rS:=Ae aA
  have wu:=dr (k:=k) (by omega)
  by_cases dw:0<k
  ·have hgt:decide ((k:Int)>0)=true:=decide_eq_true (by omega)
   obtain ⟨p1,p2⟩:=hs.wf.2 k dw aA
   obtain ⟨p,hp⟩:∃ p:Nat,aU l k=p:=⟨(aU l k).toNat,by omega⟩
   have eE:p<l.length:=by omega
   have q0:(p=l.length)=False:=eq_false (by omega)
   have q1:(p=l.length+1)=False:=eq_false (by omega)
   have q2:(p=l.length+2)=False:=eq_false (by omega)
   have hpk:=kH aA
   have MD:(bM l k).set k 1=(bM l k).set k 1:=rfl
   have rU:((bM l k).set k 1).length=l.length:=by simp [iI]
   have vb:=av ((bM l k).set k 1)
   have oI:=ff (l:=(bM l k).set k 1) (i:=p) (by omega)
   have rR:=ff (l:=(bM l k).set k 1) (i:=k) (by omega)
   rw [Ad (by omega) (by omega)] at oI
   have qz:=Ag hs.wf dw aA
   rw [hp,Int.toNat_natCast] at qz
   have wd:=dr (k:=depth l p) (by have:=tT (l:=l) p;unfold depth;omega)
   rw [← qz] at wd
   obtain ⟨b,iR⟩:∃ b,oX l k=b:=⟨_,rfl⟩
   have hmp:=sP (bs:=(cN l k).set k b) (i:=p) (by simp [hml];omega)
   have hmk:=sP (bs:=(cN l k).set k b) (i:=k) (by simp [hml];omega)
   rw [GU (by omega) (by omega)] at hmp
   have vi:((cN l k).set k b).length=l.length:=by simp [hml]
   have vj:=wL ((cN l k).set k b)
   have jG:((cN l k).set k b).set k (b && iU l p)=cN l (k+1):=by
    have:=BL hs.wf dw aA
    rw [hp,Int.toNat_natCast,iR] at this
    rw [List.set_set,← this,yo aA]
   have kX:=vF l k
   have kW:=Gp (k:=k) eE
   have jF:=fun C=>BD (k:=k) (C:=C) eE
   have hkn:=Oj dw hp eE
   have vr:=Ou dw hp eE
   have hsp:=fun (y:Option HB) C=>Ol (k:=k) (y:=y) (C:=C) eE
   have cX:(bq (aZ l k p)).length=(aZ l k p).length:=by simp [bq]
   have ig:=av (bq (aZ l k p))
   have fR:(aS (bq (aZ l k p))).take (aZ l k p).length=aS (bq (aZ l k p)):=List.take_of_length_le (by rw [ig,cX];exact Nat.le_refl _)
   have hkk:=yf (l:=l) (k:=k) (p:=p)
   cases b
   all_goals simp -implicitDefEqProofs only [Bool.false_and,Bool.true_and] at jG
   ·repeat' (first | (simp -implicitDefEqProofs only [go_sem,Int.reduceNegSucc,hlen,hx,jJ,aq,qb,BR,Nat.add_assoc,BB,List.append_assoc,iI,iH,oH,hml,kY,rX,iu,tZ,tJ,hsh,iR,e1,e2,BF,hgt,hpk,hp,tK,kX,kW,jF,q0,q1,q2,hsp,Gk,Gm,cX,ig,fR,qR,hkn,vr,rU,vb,oI,rR,wd,rS,wu,hmp,hmk,vi,vj]) | (with_reducible refine aC ?_) | ((first | refine ak (fun hg=>?_) (fun hg=>?_) | refine aI (fun hg=>?_) (fun hg=>?_) | refine aJ (fun hg=>?_) (fun hg=>?_)) <;> try simp -implicitDefEqProofs only [hg,Bool.not_true,Bool.not_false]) | ((with_reducible apply And.intro);focus (first | trivial | omega | decide | (simp -implicitDefEqProofs only [maxLen];omega) | (simp [maxLen,aj,aq,ax,aG,av,aF,aE] <;> omega) | (simp (decide:=true) [jd,kf,gV,jC,Nat.testBit,q0,q1,q2];done))) | fail)
    rw [jG]
    exact hN (k+1) _ _ (by omega) (by omega) (Bz (v:=v) (l:=l) (k:=k+1) (by simp [eM,lk,gh,oD,fq]))
   ·repeat' (first | (simp -implicitDefEqProofs only [go_sem,Int.reduceNegSucc,hlen,hx,jJ,aq,qb,BR,Nat.add_assoc,BB,List.append_assoc,iI,iH,oH,hml,kY,rX,iu,tZ,tJ,hsh,iR,e1,e2,BF,hgt,hpk,hp,tK,kX,kW,jF,q0,q1,q2,hsp,Gk,Gm,cX,ig,fR,qR,hkn,vr,rU,vb,oI,rR,wd,rS,wu,hmp,hmk,vi,vj]) | (with_reducible refine aC ?_) | ((first | refine ak (fun hg=>?_) (fun hg=>?_) | refine aI (fun hg=>?_) (fun hg=>?_) | refine aJ (fun hg=>?_) (fun hg=>?_)) <;> try simp -implicitDefEqProofs only [hg,Bool.not_true,Bool.not_false]) | ((with_reducible apply And.intro);focus (first | trivial | omega | decide | (simp -implicitDefEqProofs only [maxLen];omega) | (simp [maxLen,aj,aq,ax,aG,av,aF,aE] <;> omega) | (simp (decide:=true) [jd,kf,gV,jC,Nat.testBit,q0,q1,q2];done))) | fail)
    rw [jG]
    exact hN (k+1) _ _ (by omega) (by omega) (Bz (v:=v) (l:=l) (k:=k+1) (by simp [eM,lk,gh,oD,fq]))
  ·obtain rfl:k=0:=by omega
   have hgt:decide (((0:Nat):Int)>0)=false:=rfl
   rw [Ah] at hds
   have jG:=yo aA
   rw [BM] at jG
   have AM:(bM l 0).set 0 1=bM l (0+1):=hds
   repeat' (first | (simp -implicitDefEqProofs only [go_sem,Int.reduceNegSucc,hlen,hx,jJ,aq,qb,BR,Nat.add_assoc,BB,List.append_assoc,iI,iH,oH,hml,kY,rX,iu,tZ,tJ,hsh,e1,e2,BF,hgt,wu,jG,AM]) | (with_reducible refine aC ?_) | ((first | refine ak (fun hg=>?_) (fun hg=>?_) | refine aI (fun hg=>?_) (fun hg=>?_) | refine aJ (fun hg=>?_) (fun hg=>?_)) <;> try simp -implicitDefEqProofs only [hg,Bool.not_true,Bool.not_false]) | ((with_reducible apply And.intro);focus (first | trivial | omega | decide | (simp -implicitDefEqProofs only [maxLen];omega) | (simp [maxLen,aj,aq,ax,aG,av,aF,aE] <;> omega))) | fail)
   refine hN 1 _ _ (by omega) (by omega) ?_
   rw [Oq,Oh]
   exact Bz (v:=v) (l:=l) (k:=0) (es:=List.replicate l.length 0) (ds:=bM l (0+1)) (bs:=cN l (0+1)) (C:=[some (.var ((l[0]'aA).cells.map .rv))]) (by simp [eM,lk,gh,oD,fq])
 ·have aA:k=l.length:=by simp at hg;omega
  subst aA
  simp -implicitDefEqProofs only [go_sem,Int.reduceNegSucc]
  refine hX _ _ _ ?_
  have wl:=uj hs.pos (by omega)
  repeat' (first | (simp -implicitDefEqProofs only [go_sem,Int.reduceNegSucc,hlen,wl]) | (with_reducible refine aC ?_) | ((first | refine ak (fun hg=>?_) (fun hg=>?_) | refine aI (fun hg=>?_) (fun hg=>?_) | refine aJ (fun hg=>?_) (fun hg=>?_)) <;> try simp -implicitDefEqProofs only [hg,Bool.not_true,Bool.not_false]) | ((with_reducible apply And.intro);focus (first | trivial | omega | decide | (simp -implicitDefEqProofs only [maxLen];omega) | (simp [maxLen,aj,aq,ax,aG,av,aF,aE] <;> omega))) | fail)
  clear hN hX hR
  refine dm (ι:=Nat) (fun k=>[(8,.rv (.int .i64 ((k:Int) - 1))),(5,.ptr 6 0)]) (fun k=>qJ v l l.length (dR l k) (bM l l.length) (cN l l.length)) (fun k=>k≤l.length) (fun k=>k) l.length (Nat.le_refl _) (by rw [Er];exact bB (by simp [lk];have:=hs.pos;omega)) (fun k hk K' hN hX hR=>?_)
  simp -implicitDefEqProofs only [qJ,go_sem,Int.reduceNegSucc]
  refine ak (fun hg=>?_) (fun hg=>?_)
  ·have dw:0<k:=by simp at hg;omega
   obtain ⟨j,rfl⟩:∃ j,k=j+1:=⟨k - 1,by omega⟩
   have ej:(((j+1:Nat):Int) - 1)=(j:Int):=by omega
   have wj:=dr (k:=j) (by omega)
   have hjl:j<l.length:=by omega
   have hel:=Eo l (j+1)
   have ve:=av (dR l (j+1))
   have rV:=ff (l:=dR l (j+1)) (i:=j) (by omega)
   have kX:=vF l l.length
   have kW:=Gp (k:=l.length) hjl
   have jF:=BD (k:=l.length) (C:=[]) hjl
   simp -implicitDefEqProofs only [List.append_nil] at jF
   have cX:(bq (aZ l l.length j)).length=(aZ l l.length j).length:=by simp [bq]
   have ig:=av (bq (aZ l l.length j))
   have hkk:=yf (l:=l) (k:=l.length) (p:=j)
   have kr:((dR l (j+1)).set j ((j+1:Nat):Int)).length=l.length:=by simp [hel]
   have Bo:=av ((dR l (j+1)).set j ((j+1:Nat):Int))
   have lg:=Ep (l:=l) (k:=j+1) (by omega) (by omega)
   simp -implicitDefEqProofs only [Nat.add_sub_cancel] at lg
   have wd:IntKind.i64.wrap ((j:Int) - 1)=((j:Int) - 1):=wrap_i64 (by omega) (by omega)
   by_cases dn:aZ l l.length j=[]
   ·have hm0:decide ((((aZ l l.length j).length:Nat):Int)>0)=false:=by rw [dn];rfl
    have he:=Am dn
    rw [he] at lg
    repeat' (first | (simp -implicitDefEqProofs only [go_sem,Int.reduceNegSucc,hel,ve,rV,kX,kW,jF,ej,wj,hm0,iu,lg,wd]) | (with_reducible refine aC ?_) | ((first | refine ak (fun hg=>?_) (fun hg=>?_) | refine aI (fun hg=>?_) (fun hg=>?_) | refine aJ (fun hg=>?_) (fun hg=>?_)) <;> try simp -implicitDefEqProofs only [hg,Bool.not_true,Bool.not_false]) | ((with_reducible apply And.intro);focus (first | trivial | omega | decide | (simp -implicitDefEqProofs only [maxLen];omega) | (simp [maxLen,aj,aq,ax,aG,av,aF,aE] <;> omega))) | fail)
    refine hN j _ _ (by omega) (by omega) (bB (by simp [lk]))
   ·obtain ⟨c,hc⟩:∃ c,(aZ l l.length j).getLast?=some c:=by
     cases h:(aZ l l.length j).getLast? with
     | none=>exact absurd (List.getLast?_eq_none_iff.1 h) dn
     | some c=>exact ⟨c,rfl⟩
    have hpos:0<(aZ l l.length j).length:=List.length_pos_iff.2 dn
    have hm0:decide ((((aZ l l.length j).length:Nat):Int)>0)=true:=decide_eq_true (by omega)
    have va:c∈gF l j:=List.mem_of_getLast? hc
    obtain ⟨c1,c2,c3⟩:=vQ.1 va
    have AI:j<c:=by have:=(hs.wf.2 c c1 c2).2;omega
    have he:=Al hc AI c2
    rw [he] at lg
    have wm:=uj hpos (by omega)
    have AH:(bq (aZ l l.length j)).getD ((aZ l l.length j).length - 1) 0=(c:Int):=by
     rw [List.getLast?_eq_getElem?] at hc
     simp [bq,List.getD_eq_getElem?_getD,hc]
    have gC:=ff (l:=bq (aZ l l.length j)) (i:=(aZ l l.length j).length - 1) (by omega)
    rw [AH] at gC
    have vc:=ff (l:=(dR l (j+1)).set j ((j+1:Nat):Int)) (i:=c) (by omega)
    have pO:=En (l:=l) (k:=j+1) (j:=c) (v:=((j+1:Nat):Int)) (by omega) (by omega) c2
    simp -implicitDefEqProofs only [Nat.add_sub_cancel] at pO
    rw [pO] at vc
    have AR:=ff (l:=(dR l (j+1)).set j ((j+1:Nat):Int)) (i:=j) (by omega)
    have rZ:((dR l (j+1)).set j ((j+1:Nat):Int)).set j (gZ l c)=dR l j:=by rw [List.set_set,lg]
    repeat' (first | (simp -implicitDefEqProofs only [go_sem,Int.reduceNegSucc,hel,ve,rV,kX,kW,jF,ej,wj,hm0,iu,wd,wm,gC,vc,AR,rZ,kr,Bo,cX,ig]) | (with_reducible refine aC ?_) | ((first | refine ak (fun hg=>?_) (fun hg=>?_) | refine aI (fun hg=>?_) (fun hg=>?_) | refine aJ (fun hg=>?_) (fun hg=>?_)) <;> try simp -implicitDefEqProofs only [hg,Bool.not_true,Bool.not_false]) | ((with_reducible apply And.intro);focus (first | trivial | omega | decide | (simp -implicitDefEqProofs only [maxLen];omega) | (simp [maxLen,aj,aq,ax,aG,av,aF,aE] <;> omega))) | fail)
    refine hN j _ _ (by omega) (by omega) (bB (by simp [lk]))
  ·obtain rfl:k=0:=by simp at hg;omega
   simp -implicitDefEqProofs only [go_sem,Int.reduceNegSucc]
   refine hX _ _ _ ?_
   repeat' (first | (simp -implicitDefEqProofs only [go_sem,Int.reduceNegSucc]) | (with_reducible refine aC ?_) | ((first | refine ak (fun hg=>?_) (fun hg=>?_) | refine aI (fun hg=>?_) (fun hg=>?_) | refine aJ (fun hg=>?_) (fun hg=>?_)) <;> try simp -implicitDefEqProofs only [hg,Bool.not_true,Bool.not_false]) | ((with_reducible apply And.intro);focus (first | trivial | omega | decide | (simp -implicitDefEqProofs only [maxLen];omega) | (simp [maxLen,aj,aq,ax,aG,av,aF,aE] <;> omega))) | fail)
   refine (hK _ _ _ _ [] (cK _ _) ?_).2
   rw [Es]
   simp -implicitDefEqProofs only [cw,List.map_cons,List.map_nil,List.append_nil]
   refine ⟨by simp [aQ],trivial,trivial,⟨?_,trivial⟩,trivial,cO.2 ⟨?_,bh.2 rfl,trivial⟩⟩
   ·rw [show bW (cj ([i0].zip [HB.row 49 v (ah (bk l))]) i0) [] i0=some (HB.row 49 v (ah (bk l))) from by simp [bW,cj]]
    exact ⟨rfl,rfl,cC.2 rfl⟩
   ·exact .fz _ _ (PJ v l (fun j hj=>by cases j with
     | zero=>omega
     | succ j=>rfl))
end Go.ay

namespace Go.ay
open Go
theorem OM:bC Go.Proofs.Try.prog 44 13 (fc Go.Proofs.Try.prog 44 13 [(.c 0 48 true)]) [(.c 0 48 true)]:=bP (by kernel_rfl)
def BG:List CK→List RV→Bool
 | [],[]=>true
 | .b::ks,.bool _::rs=>BG ks rs
 | .i::ks,.int _ _::rs=>BG ks rs
 | .s::ks,.str _::rs=>BG ks rs
 | _,_=>false
def Cf:au:={ (default:au) with shown:=true,pad:=⟨⟨1,0⟩,⟨1,0⟩,⟨1,0⟩,⟨1,0⟩⟩ }
def Rd (k:Nat):au:={ (default:au) with shown:=true,pad:=⟨if 0<k then ⟨1,0⟩ else default,if 1<k then ⟨1,0⟩ else default,if 2<k then ⟨1,0⟩ else default,if 3<k then ⟨1,0⟩ else default⟩ }
theorem So:aP Go.Proofs.Try.prog 44 [] [] [] Cf.sv:=by
 refine dK OM [] _ (by simp) (by simp [aW,bS,dA,bD,bU,au.sv,Ln.sv,Nd.sv]) (fun K hK=>?_)
 conv in fc _ _ _ _=>reduce
 simp -implicitDefEqProofs only [go_sem,Int.reduceNegSucc]
 repeat' (first | (simp -implicitDefEqProofs only [go_sem,Int.reduceNegSucc]) | (with_reducible refine aC ?_) | ((first | refine ak (fun hg=>?_) (fun hg=>?_) | refine aI (fun hg=>?_) (fun hg=>?_) | refine aJ (fun hg=>?_) (fun hg=>?_)) <;> try simp -implicitDefEqProofs only [hg,Bool.not_true,Bool.not_false]) | ((with_reducible apply And.intro);focus (first | trivial | omega | decide | (simp -implicitDefEqProofs only [maxLen];omega) | (simp [maxLen,aj,aq,ax,aG,av,aF,aE] <;> omega) | (exact ⟨rfl,by decide⟩;done))) | fail)
 refine dm (ι:=Nat) (fun k=>[(4,.rv (.int .i64 k)),(0,.ptr 0 0),(1,.ptr 1 0)]) (fun k=>[some (.var ((default:au).cells.map .rv)),some (.var ((Rd k).cells.map .rv))]) (fun k=>k≤4) (fun k=>4 - k) 0 (by simp) (bB (by simp [lk])) (fun k hk K' hN hX hR=>?_)
 simp -implicitDefEqProofs only [go_sem,Int.reduceNegSucc]
 refine ak (fun hg=>?_) (fun hg=>?_)
 ·have:k=0∨k=1∨k=2∨k=3:=by simp at hg;omega
  rcases this with rfl | rfl | rfl | rfl
  all_goals
   repeat' (first | (simp -implicitDefEqProofs only [go_sem,Int.reduceNegSucc,aj,dr (k:=0) (by decide),dr (k:=1) (by decide),dr (k:=2) (by decide),dr (k:=3) (by decide)]) | (with_reducible refine aC ?_) | ((first | refine ak (fun hg=>?_) (fun hg=>?_) | refine aI (fun hg=>?_) (fun hg=>?_) | refine aJ (fun hg=>?_) (fun hg=>?_)) <;> try simp -implicitDefEqProofs only [hg,Bool.not_true,Bool.not_false]) | ((with_reducible apply And.intro);focus (first | trivial | omega | decide | (simp -implicitDefEqProofs only [maxLen];omega) | (simp [maxLen,aj,aq,ax,aG,av,aF,aE] <;> omega))) | fail)
  ·exact hN 1 _ _ (by omega) (by omega) (bB (by simp [lk]))
  ·exact hN 2 _ _ (by omega) (by omega) (bB (by simp [lk]))
  ·exact hN 3 _ _ (by omega) (by omega) (bB (by simp [lk]))
  ·exact hN 4 _ _ (by omega) (by omega) (bB (by simp [lk]))
 ·have aA:k=4:=by simp at hg;omega
  subst aA
  simp -implicitDefEqProofs only [go_sem,Int.reduceNegSucc]
  refine hX _ _ _ ?_
  repeat' (first | (simp -implicitDefEqProofs only [go_sem,Int.reduceNegSucc,aj,kK]) | (with_reducible refine aC ?_) | ((first | refine ak (fun hg=>?_) (fun hg=>?_) | refine aI (fun hg=>?_) (fun hg=>?_) | refine aJ (fun hg=>?_) (fun hg=>?_)) <;> try simp -implicitDefEqProofs only [hg,Bool.not_true,Bool.not_false]) | ((with_reducible apply And.intro);focus (first | trivial | omega | decide | (simp -implicitDefEqProofs only [maxLen];omega) | (simp [maxLen,aj,aq,ax,aG,av,aF,aE] <;> omega) | (rfl;done) | (exact ⟨rfl,by decide⟩;done))) | fail)
  exact (hK _ _ (Cq (rs:=Cf.cells) rfl rfl rfl)).2
end Go.ay

namespace Go.ay
open Go
end Go.ay

namespace Go.ay
open Go
def DQ (f:Nat→List Nat):Nat→Nat→Nat
 | 0,_=>0
 | k+1,m=>DQ f k m+(f k).count m
def TM (L:Nat) (f:Nat→List Nat) (k:Nat) (xs:List Nat):List Int:=(List.range L).map fun m=>((DQ f k m+xs.count m:Nat):Int)
theorem wA {l:List Nd} (hs:cP l):∀ m k,k≤m→k<l.length→0∈aL l k
 | _,0,_,_=>vR
 | 0,k+1,h,_=>absurd h (by omega)
 | m+1,k+1,h,hk=>by
   have hu:=hs.up (k+1) (by omega) hk
   rw [tI hs.wf (by omega) hk]
   exact .inr (wA hs m _ (by omega) (by omega))
theorem BN {l:List Nd} (hs:cP l) {m:Nat} (h:aT l m=true):aT l 0=true:=by
 simp -implicitDefEqProofs only [aT,Bool.and_eq_true] at h
 obtain ⟨h1,h2⟩:=h
 have hm:m<l.length:=by simpa [dD] using h1
 have h0:dD l 0=true:=by have:=oR (l:=l) (k:=0) (by omega);simpa using this
 unfold iU at h2
 rw [List.all_eq_true] at h2
 have:=h2 0 (wA hs m m (by omega) hm)
 simp [aT,h0,BM,this]
theorem xA {l:List Nd} {m:Nat} (h:cY l m=true):dU l m=m:=by
 obtain ⟨r,hr⟩:=tS (l:=l) (n:=m)
 simp [dU,gQ h,hr,gM,h]
theorem LU {l:List Nd} (hs:cP l) {m:Nat} (h:aT l m=true):∃ u,u<l.length∧dU l m=(u:Nat)∧cY l u=true:=by
 have hm:m<l.length:=by simp [aT,dD] at h;exact h.1
 have h0:cY l ((0:Nat):Int)=true:=by simp [cY,BN hs h]
 have hv:dU l m=gM (cY l) (aL l m):=by simp [dU,h]
 rcases uP (cY l) (aL l m) with ⟨_,h1⟩ | ⟨i,hi,h1,h2,_⟩
 ·have:=h1 0 (wA hs m m (by omega) hm)
  rw [h0] at this;simp at this
 ·exact ⟨_,tU hm hi,by rw [hv,h1],h2⟩
def Uk (l:List Nd) (n:Nat):List Nat:=Qt l n
def Uo (l:List Nd) (n:Nat):List Nat:=QW l n
end Go.ay

namespace Go.ay
open Go
structure ef where
 fS:Int
 z:Int
 n:Int
 deriving DecidableEq,Inhabited
def ef.cells (x:ef):List RV:=[.int .i64 x.fS,.int .i64 x.z,.int .i64 x.n]
abbrev ef.sv (x:ef):U:=.agg (x.cells.map .rv)
def Us (l:List ef):List (List RV):=l.map ef.cells
def jZ (a b:Int):Int:=if a<b then -1 else if a>b then 1 else 0
theorem zU {a b:Int}:jZ a b<0↔a<b:=by unfold jZ;split <;>(try split) <;> omega
theorem uD {a b:Int}:jZ a b=0↔a=b:=by unfold jZ;split <;>(try split) <;> omega
theorem zT {a b:Int}:jZ b a = -jZ a b:=by unfold jZ;(repeat' split) <;> omega
def gB (a b:ef):Int:=if jZ a.fS b.fS≠0 then jZ a.fS b.fS else if jZ a.z b.z≠0 then jZ a.z b.z else jZ a.n b.n
theorem wU {a b:ef}:gB a b<0↔a.fS<b.fS∨(a.fS=b.fS∧(a.z<b.z∨(a.z=b.z∧a.n<b.n))):=by
 have h1:=zU (a:=a.fS) (b:=b.fS)
 have h2:=zU (a:=a.z) (b:=b.z)
 have h3:=zU (a:=a.n) (b:=b.n)
 have h4:=uD (a:=a.fS) (b:=b.fS)
 have h5:=uD (a:=a.z) (b:=b.z)
 unfold gB
 split
 ·omega
 ·split <;> omega
theorem uE {a b:ef}:gB a b=0↔a=b:=by
 have h4:=uD (a:=a.fS) (b:=b.fS)
 have h5:=uD (a:=a.z) (b:=b.z)
 have h6:=uD (a:=a.n) (b:=b.n)
 obtain ⟨al,az,an⟩:=a
 obtain ⟨bl,bz,bn⟩:=b
 simp -implicitDefEqProofs only [ef.mk.injEq]
 unfold gB
 simp only at *
 split
 ·omega
 ·split <;> omega
theorem Ks {a b:ef}:gB b a = -gB a b:=by
 have h1:=zT (a:=a.fS) (b:=b.fS)
 have h2:=zT (a:=a.z) (b:=b.z)
 have h3:=zT (a:=a.n) (b:=b.n)
 unfold gB
 rw [h1,h2,h3]
 (repeat' split) <;> omega
theorem Kt {a b c:ef} (h1:gB a b<0) (h2:gB b c<0):gB a c<0:=by
 rw [wU] at *;omega
def ez:List ef→List ef→Int
 | [],[]=>0
 | [],_::_=>-1
 | _::_,[]=>1
 | a::x,b::y=>if gB a b≠0 then gB a b else ez x y
theorem uF:∀ {x y:List ef},ez x y=0↔x=y
 | [],[]=>by simp [ez]
 | [],_::_=>by simp [ez]
 | _::_,[]=>by simp [ez]
 | a::x,b::y=>by
   simp -implicitDefEqProofs only [ez,List.cons.injEq]
   split
   ·rename_i h;have:=uE (a:=a) (b:=b);constructor
    ·intro h';exact absurd h' h
    ·intro h';exact absurd (this.2 h'.1) h
   ·rename_i h
    have h:gB a b=0:=Classical.not_not.1 h
    rw [uE] at h
    rw [uF];simp [h]
theorem zV:∀ {x y:List ef},ez y x = -ez x y
 | [],[]=>by simp [ez]
 | [],_::_=>by simp [ez]
 | _::_,[]=>by simp [ez]
 | a::x,b::y=>by
   have h1:=Ks (a:=a) (b:=b)
   have h2:=zV (x:=x) (y:=y)
   simp -implicitDefEqProofs only [ez,h1,h2]
   (repeat' split) <;> omega
theorem DP:∀ {x y z:List ef},ez x y<0→ez y z<0→ez x z<0
 | [],[],_,h,_=>by simp [ez] at h
 | [],_::_,[],_,h=>by simp [ez] at h
 | [],_::_,_::_,_,_=>by simp [ez]
 | _::_,[],_,h,_=>by simp [ez] at h
 | _::_,_::_,[],_,h=>by simp [ez] at h
 | a::x,b::y,c::z,h1,h2=>by
   simp -implicitDefEqProofs only [ez] at h1 h2 ⊢
   by_cases e1:gB a b=0
   ·rw [if_neg (by omega)] at h1
    have:=uE.1 e1
    subst this
    by_cases e2:gB a c=0
    ·rw [if_neg (by omega)] at h2 ⊢;exact DP h1 h2
    ·rw [if_pos (by omega)] at h2 ⊢;exact h2
   ·rw [if_pos (by omega)] at h1
    by_cases e2:gB b c=0
    ·have:=uE.1 e2
     subst this
     rw [if_pos (by omega)];exact h1
    ·rw [if_pos (by omega)] at h2
     have:=Kt h1 h2
     rw [if_pos (by omega)];exact this
theorem EL {p:Int→Bool} {xs:List Nat} {a:Nat} (ha:a∈xs) (hp:p a=true):∃ i,∃ h:i<xs.length,gM p xs=(xs[i]:Nat)∧p (xs[i]:Nat)=true∧a∈xs.drop i:=by
 rcases uP p xs with ⟨_,h⟩ | ⟨i,hi,h1,h2,h3⟩
 ·have:=h a ha;rw [hp] at this;simp at this
 ·refine ⟨i,hi,h1,h2,?_⟩
  obtain ⟨j,hj,rfl⟩:=List.getElem_of_mem ha
  have hij:i≤j:=by
   apply Classical.byContradiction
   intro h
   have:=h3 j (by omega)
   rw [hp] at this;simp at this
  rw [List.mem_iff_getElem]
  exact ⟨j - i,by simp;omega,by simp -implicitDefEqProofs only [List.getElem_drop];congr 1;omega⟩
theorem wX {l:List Nd} {n:Int} (h:0<n):eG l n<n:=by
 unfold eG
 split
 ·rcases uP (dB l) (dO l n) with ⟨h1,_⟩ | ⟨i,hi,h1,_,_⟩
  ·rw [h1];omega
  ·rw [h1]
   have hm:=List.getElem_mem hi
   generalize (dO l n)[i]=x at *
   unfold dO at hm
   split at hm
   ·rename_i hin
    obtain ⟨k,rfl,hk⟩:=si hin
    simp -implicitDefEqProofs only [Int.toNat_natCast] at hm
    by_cases hp:0≤aU l k∧aU l k<k
    ·rw [kI hp] at hm
     have:=oT _ _ (by simpa using hm)
     omega
    ·rw [qe hp] at hm;simp at hm
   ·simp at hm
 ·omega
def chain (l:List Nd) (n:Int):List Int:=if h:0<n then n::chain l (eG l n) else []
termination_by n.toNat
decreasing_by have:=wX (l:=l) h;omega
theorem iF {l:List Nd} {n:Int} (h:0<n):chain l n=n::chain l (eG l n):=by rw [chain,dif_pos h]
theorem oC {l:List Nd} {n:Int} (h:¬ 0<n):chain l n=[]:=by rw [chain,dif_neg h]
def iy (l:List Nd) (n:Int):ef:=if (eu l n).z<0 then ⟨1,(eu l n).z,n⟩ else if (eu l n).z>0 then ⟨4,(eu l n).z,n⟩ else ⟨3,0,n⟩
theorem IQ {l:List Nd} {n:Int}:(iy l n).n=n:=by unfold iy;split <;>(try split) <;> rfl
def yg (l:List Nd) (n:Int):ef:=if dU l n=n then ⟨0,0,0⟩ else ⟨2,0,n⟩
def zu (l:List Nd) (n:Int):List ef:=yg l n::(chain l (dU l n)).map (iy l)
def gT (l:List Nd) (n:Int):List ef:=if aT l n=true then (zu l n).reverse else []
theorem Tq {l:List Nd} {k i:Nat} (hk:k<l.length) (hi:i<(dO l k).length):(dO l k).drop i=aL l ((dO l k)[i]'hi):=by
 have hx:dO l k=(aL l k).drop 1:=by simp [dO,oR hk]
 have hi2:1+i<(aL l k).length:=by rw [hx] at hi;simp at hi;omega
 have h:=Ck (l:=l) k (1+i) hi2
 have h2:(dO l k)[i]'hi=(aL l k)[1+i]'hi2:=by simp -implicitDefEqProofs only [hx,List.getElem_drop]
 rw [h2,← h,hx,List.drop_drop]
theorem Jb {l:List Nd} {k x:Nat} (hk:k<l.length):x∈aL l k↔x=k∨x∈dO l k:=by
 obtain ⟨r,hr⟩:=tS (l:=l) (n:=k)
 simp [dO,oR hk,hr]
theorem Db {l:List Nd} {k x:Nat} (h:x∈dO l k):x<k:=by
 unfold dO at h
 split at h
 ·simp -implicitDefEqProofs only [Int.toNat_natCast] at h
  by_cases hp:0≤aU l k∧aU l k<k
  ·rw [kI hp] at h
   have:=oT _ _ (by simpa using h)
   omega
  ·rw [qe hp] at h;simp at h
 ·simp at h
theorem DM {l:List Nd} {a:Nat} (ha:dB l a=true):∀ m g:Nat,g≤m→g<l.length→aT l g=true→a∈aL l g→∃ u,chain l g=u++chain l a
 | m,g,hm,hg,dV,oG=>by
   rw [Jb hg] at oG
   rcases oG with rfl | oG
   ·exact ⟨[],rfl⟩
   ·have hlt:=Db oG
    obtain ⟨i,hi,h1,h2,h3⟩:=EL oG ha
    have hc:eG l g=(dO l g)[i]:=by simp [eG,dV,h1]
    rw [Tq hg hi] at h3
    have hlc:=Db (List.getElem_mem hi)
    match m,hm with
    | m+1,hm=>
      obtain ⟨u,hu⟩:=DM ha m ((dO l g)[i]) (by omega) (by omega) (gQ (oF h2)) h3
      exact ⟨(g:Int)::u,by rw [iF (by omega),hc,hu];rfl⟩
    | 0,hm=>omega
theorem DL {l:List Nd}:∀ m g:Nat,g≤m→g<l.length→aT l g=true→∀ c,c∈chain l g→∃ k:Nat,c=k∧0<k∧k∈aL l g
 | m,g,hm,hg,dV,c,hc=>by
   by_cases h0:0<g
   ·rw [iF (by omega)] at hc
    rw [List.mem_cons] at hc
    rcases hc with rfl | hc
    ·exact ⟨g,rfl,h0,vR⟩
    ·have hv:eG l g=gM (dB l) (dO l g):=by simp [eG,dV]
     rcases uP (dB l) (dO l g) with ⟨h1,_⟩ | ⟨i,hi,h1,h2,_⟩
     ·rw [hv,h1,oC (by omega)] at hc;simp at hc
     ·rw [hv,h1] at hc
      have hmem:=List.getElem_mem hi
      have hlc:=Db hmem
      match m,hm with
      | m+1,hm=>
        obtain ⟨k,dn,hk2,eV⟩:=DL m _ (by omega) (by omega) (gQ (oF h2)) c hc
        exact ⟨k,dn,hk2,yO ((Jb hg).2 (.inr hmem)) _ eV⟩
      | 0,hm=>omega
   ·rw [oC (by omega)] at hc;simp at hc
def tj (l:List Nd) (a:Nat):List ef:=((chain l a).map (iy l)).reverse
theorem TB {l:List Nd} {x y:Nat} (hx:aT l x=true) (hy:aT l y=true) (h:gT l x=gT l y):x=y:=by
 simp -implicitDefEqProofs only [gT,hx,hy,if_true,List.reverse_inj,zu,List.cons.injEq] at h
 obtain ⟨h1,h2⟩:=h
 unfold yg at h1
 by_cases gx:dU l x=x
 ·by_cases gy:dU l y=y
  ·rw [gx,gy] at h2
   by_cases x0:0<x
   ·by_cases y0:0<y
    ·rw [iF (by omega),iF (n:=(y:Int)) (by omega)] at h2
     simp -implicitDefEqProofs only [List.map_cons,List.cons.injEq] at h2
     have:=congrArg ef.n h2.1
     rw [IQ,IQ] at this;omega
    ·rw [iF (by omega),oC (n:=(y:Int)) (by omega)] at h2;simp at h2
   ·by_cases y0:0<y
    ·rw [oC (by omega),iF (n:=(y:Int)) (by omega)] at h2;simp at h2
    ·omega
  ·rw [if_pos gx,if_neg gy] at h1;simp at h1
 ·by_cases gy:dU l y=y
  ·rw [if_neg gx,if_pos gy] at h1;simp at h1
  ·rw [if_neg gx,if_neg gy] at h1;simp at h1;omega
structure kP where
 n:Int
 kind:Int
 deriving DecidableEq,Inhabited
def kP.cells (x:kP):List RV:=[.int .i64 x.n,.int .i64 x.kind]
abbrev kP.sv (x:kP):U:=.agg (x.cells.map .rv)
def fT (l:List Nd) (a b:kP):Bool:=aT l a.n && aT l b.n && (if a.n=b.n then decide (a.kind<b.kind) else decide (ez (gT l a.n) (gT l b.n)<0))
theorem vN {l:List Nd} {a b:kP}:fT l a b=true↔aT l a.n=true∧aT l b.n=true∧((a.n=b.n∧a.kind<b.kind)∨(a.n≠b.n∧ez (gT l a.n) (gT l b.n)<0)):=by
 unfold fT
 by_cases h:a.n=b.n <;> simp [h,and_assoc]
theorem yl {l:List Nd} {a b:kP} (h1:fT l a b=true) (h2:fT l b a=true):False:=by
 rw [vN] at h1 h2
 have:=zV (x:=gT l a.n) (y:=gT l b.n)
 omega
theorem PW {l:List Nd} {a b c:kP} (h1:fT l a b=true) (h2:fT l b c=true):fT l a c=true:=by
 rw [vN] at h1 h2 ⊢
 obtain ⟨p1,p2,p3⟩:=h1
 obtain ⟨q1,q2,q3⟩:=h2
 refine ⟨p1,q2,?_⟩
 rcases p3 with ⟨e1,k1⟩ | ⟨e1,k1⟩ <;> rcases q3 with ⟨e2,k2⟩ | ⟨e2,k2⟩
 ·left;omega
 ·right;rw [e1];exact ⟨e2,k2⟩
 ·right;rw [← e2];exact ⟨e1,k1⟩
 ·right
  have ht:=DP k1 k2
  refine ⟨fun h=>?_,ht⟩
  rw [h,uF.2 rfl] at ht;omega
theorem PV {l:List Nd} {a b:kP} (ha:aT l a.n=true) (hb:aT l b.n=true) (hn:a≠b):fT l a b=true∨fT l b a=true:=by
 rw [vN,vN]
 by_cases e:a.n=b.n
 ·have:a.kind≠b.kind:=fun h=>hn (by cases a;cases b;simp_all)
  rcases Int.lt_or_gt_of_ne this with h | h
  ·left;exact ⟨ha,hb,.inl ⟨e,h⟩⟩
  ·right;exact ⟨hb,ha,.inl ⟨e.symm,h⟩⟩
 ·have hne:ez (gT l a.n) (gT l b.n)≠0:=fun h=>by
   have h:=uF.1 h
   have h1:dD l a.n=true:=by simp [aT] at ha;exact ha.1
   have h2:dD l b.n=true:=by simp [aT] at hb;exact hb.1
   obtain ⟨x,hx,_⟩:=si h1
   obtain ⟨y,hy,_⟩:=si h2
   rw [hx,hy] at h
   rw [hx] at ha
   rw [hy] at hb
   have:=TB ha hb h
   omega
  have hf:=zV (x:=gT l a.n) (y:=gT l b.n)
  rcases Int.lt_or_gt_of_ne hne with h | h
  ·left;exact ⟨ha,hb,.inr ⟨e,h⟩⟩
  ·right;exact ⟨hb,ha,.inr ⟨Ne.symm e,by omega⟩⟩
end Go.ay

namespace Go.ay
open Go
theorem OG:bC Go.Proofs.Try.prog 145 6 (fc Go.Proofs.Try.prog 145 6 [(.t 2)]) [(.t 2)]:=bP (by kernel_rfl)
theorem OH:bC Go.Proofs.Try.prog 144 6 (fc Go.Proofs.Try.prog 144 6 [(.t 2)]) [(.t 2)]:=bP (by kernel_rfl)
theorem OD:bC Go.Proofs.Try.prog 143 20 (fc Go.Proofs.Try.prog 143 20 [(.t 4)]) [(.t 4)]:=bP (by kernel_rfl)
theorem OE:bC Go.Proofs.Try.prog 142 20 (fc Go.Proofs.Try.prog 142 20 [(.t 4)]) [(.t 4)]:=bP (by kernel_rfl)
theorem OF:bC Go.Proofs.Try.prog 141 18 (fc Go.Proofs.Try.prog 141 18 [(.t 2)]) [(.t 2)]:=bP (by kernel_rfl)
def QM:List Int→Int
 | []=>0
 | a::r=>if a≠0 then a else QM r
def TH (y z:List ef) (i:Nat):Prop:=z.length=y.length∧2*i≤y.length+1∧∀ t,(h:t<y.length)→z[t]?=if t<i∨y.length≤t+i then y[y.length - 1 - t]? else y[t]?
end Go.ay

namespace Go.ay
open Go
def TZ (l:List Nd) (n:Int):List ef:=((chain l n).map (iy l)).reverse
end Go.ay

namespace Go.ay
open Go
end Go.ay

namespace Go.ay
open Go
theorem Po:bC Go.Proofs.Try.prog 112 27 (fc Go.Proofs.Try.prog 112 27 [(.c 2 4 true)]) [(.c 2 4 true)]:=bP (by kernel_rfl)
structure bA where
 node:Int
 kind:Int
 r:Rc
 hole:Rc
 clip:Rc
 color:Int
 deriving DecidableEq,Inhabited
def bA.cells (x:bA):List RV:=[.int .i64 x.node,.int .i64 x.kind,.int .i64 x.r.x0,.int .i64 x.r.y0,.int .i64 x.r.x1,.int .i64 x.r.y1,.int .i64 x.hole.x0,.int .i64 x.hole.y0,.int .i64 x.hole.x1,.int .i64 x.hole.y1,
 .int .i64 x.clip.x0,.int .i64 x.clip.y0,.int .i64 x.clip.x1,.int .i64 x.clip.y1,.int .i64 x.color]
abbrev bA.sv (x:bA):U:=.agg (x.cells.map .rv)
def cE (l:List bA):List (List RV):=l.map bA.cells
theorem yd (l:List bA):(cE l).length=l.length:=by simp [cE]
theorem NP {l:List bA} {i:Nat} (h:i<l.length):(cE l)[i]?.getD []=(l[i]'h).cells:=by simp [cE,h]
theorem Bv (x:bA):x.cells.length=15:=rfl
theorem Gd (x:bA):(x.cells.map U.rv).length=15:=rfl
theorem Ge (x:bA):x.cells.take 15=x.cells:=rfl
theorem Gf (x:bA):(x.cells.map U.rv).take 15=x.cells.map U.rv:=rfl
def oE (b:Bx):Rc:=if b.made=true then ⟨b.x,b.y,(fV b).x1+b.aK.b,(fV b).y1+b.aK.c⟩ else cQ
theorem QU {b:Bx} (h:iG b=true) : -6000000000000000≤(fV b).x1∧(fV b).x1≤6000000000000000∧-6000000000000000≤(fV b).y1∧(fV b).y1≤6000000000000000:=by
 have:=Ap h
 unfold fV
 split
 ·dsimp only;omega
 ·simp [cQ]
theorem SK (b:Bx) (hb:iG b=true):aP Go.Proofs.Try.prog 112 [b.sv] [] [] (oE b).sv:=by
 refine dK Po [b.sv] _ (by simp) (by simp [aW,bS,dA,bD,bU,au.sv,Ln.sv,Nd.sv]) (fun K hK=>?_)
 have hf:=Ap hb
 have hp:=QU hb
 have fE:=IF b hb
 simp -implicitDefEqProofs only [Rc.sv,Rc.cells,List.map,Bx.sv] at fE
 have w1:IntKind.i64.wrap ((fV b).x1+b.aK.b)=(fV b).x1+b.aK.b:=wrap_i64 (by omega) (by omega)
 have w2:IntKind.i64.wrap ((fV b).y1+b.aK.c)=(fV b).y1+b.aK.c:=wrap_i64 (by omega) (by omega)
 conv in fc _ _ _ _=>reduce
 simp -implicitDefEqProofs only [Bx.sv,go_sem,Int.reduceNegSucc]
 clear hf hp
 generalize hP:fV b=p at *
 have b0:b.cells[0]?=some (.bool b.made):=rfl
 have b1:b.cells[1]?=some (.int .i64 b.x):=rfl
 have b2:b.cells[2]?=some (.int .i64 b.y):=rfl
 have q0:(b.cells.map U.rv)[0]?=some (.rv (.bool b.made)):=rfl
 have q1:(b.cells.map U.rv)[1]?=some (.rv (.int .i64 b.x)):=rfl
 have q2:(b.cells.map U.rv)[2]?=some (.rv (.int .i64 b.y)):=rfl
 have Rl:(b.cells.map U.rv)[18]?=some (.rv (.int .i64 b.aK.b)):=rfl
 have Rm:(b.cells.map U.rv)[19]?=some (.rv (.int .i64 b.aK.c)):=rfl
 have qa:(b.cells.map U.rv).take 21=b.cells.map U.rv:=rfl
 cases hm:b.made with
 | false=>
   rw [hm] at q0
   repeat' (first | (simp -implicitDefEqProofs only [go_sem,Int.reduceNegSucc,ql,q0]) | (with_reducible refine aC ?_) | ((first | refine ak (fun hg=>?_) (fun hg=>?_) | refine aI (fun hg=>?_) (fun hg=>?_) | refine aJ (fun hg=>?_) (fun hg=>?_)) <;> try simp -implicitDefEqProofs only [hg,Bool.not_true,Bool.not_false]) | ((with_reducible apply And.intro);focus (first | trivial | omega | decide | (simp -implicitDefEqProofs only [maxLen];omega) | (simp [maxLen,aj,aq,ax,aG,av,aF,aE] <;> omega))) | fail)
   refine (hK _ _ ?_).2
   rw [show oE b=cQ from if_neg (by simp [hm])]
   simp [cw,aQ,newL,cD,ct,bH,bF,lk,bO,bV,cj,bW,cU,cT,ag,cC,cO,bh,bT,cn,de,cS,dc,cc,cB,cz,go_sem,Int.reduceNegSucc,cQ,Rc.cells]
 | true=>
   rw [hm] at q0
   have bY:=fE;repeat' (first | (simp -implicitDefEqProofs only [go_sem,Int.reduceNegSucc,ql,q0,qa,q1,q2,Rl,Rm,w1,w2]) | (with_reducible refine aC ?_) | (with_reducible first | refine aM bY ?_ | refine aN bY ?_) | ((first | refine ak (fun hg=>?_) (fun hg=>?_) | refine aI (fun hg=>?_) (fun hg=>?_) | refine aJ (fun hg=>?_) (fun hg=>?_)) <;> try simp -implicitDefEqProofs only [hg,Bool.not_true,Bool.not_false]) | ((with_reducible apply And.intro);focus (first | trivial | omega | decide | (simp -implicitDefEqProofs only [maxLen];omega) | (simp [maxLen,aj,aq,ax,aG,av,aF,aE] <;> omega))) | fail)
   refine (hK _ _ ?_).2
   rw [show oE b=⟨b.x,b.y,p.x1+b.aK.b,p.y1+b.aK.c⟩ from by rw [← hP];exact if_pos hm]
   simp -implicitDefEqProofs only [Rc.sv,Rc.cells,List.map]
   generalize p.x1+b.aK.b=n3
   generalize p.y1+b.aK.c=n4
   simp [cw,aQ,newL,cD,ct,bH,bF,lk,bO,bV,cj,bW,cU,cT,ag,cC,cO,bh,bT,cn,de,cS,dc,cc,cB,cz,go_sem,Int.reduceNegSucc]
def rC (s:au) (n:Int) (b:Bx) (c:Rc):List bA:=if s.back=0 then [] else [⟨n,0,oE b,cQ,c,s.back⟩]
def sn (s:au) (n:Int) (b:Bx) (c:Rc):List bA:=if s.line=0∨s.aK=⟨0,0,0,0⟩ then [] else [⟨n,1,oE b,fV b,c,s.line⟩]
def iV (s:au) (n:Int) (b:Bx) (c:Rc):List bA:=rC s n b c++sn s n b c
end Go.ay

namespace Go.ay
open Go
end Go.ay

namespace Go.ay
open Go
theorem KT {n0:Nat} {env env':List (Nat×U)} {h h':List (Option HB)} (τ:Nat→Option Nat) (σ:Nat→Nat) (hn:n0≤h'.length)
 (h1:∀ j i,τ j=some i→σ i=j) (FB:∀ j i,τ j=some i→j<n0∨i<n0→i=j) (hkeep:∀ j,τ j=none→n0≤j)
 (hh:∀ i hb',ag h' i=some hb'→τ (σ i)=some i∧∃ hb,ag h (σ i)=some hb∧iD τ (ag h) hb hb')
 (Nr:∀ j i,τ j=some i→(ag h j).isSome=true→(ag h' i).isSome=true)
 (he:∀ n,Rn τ (ag h) (lk env n) (lk env' n)):cV n0 ⟨env,h⟩ ⟨env',h'⟩:=by
 intro C a w R
 obtain ⟨⟨aa,RF⟩,_,h0⟩:=R
 have M:=RF.mem
 have hsome:∀ i,(ag h' i).isSome=true→τ (σ i)=some i∧(ag h (σ i)).isSome=true:=fun i hi=>by
  obtain ⟨hb',ia⟩:=Option.isSome_iff_exists.1 hi
  obtain ⟨a1,hb,a2,_⟩:=hh i hb' ia
  exact ⟨a1,by rw [a2];rfl⟩
 have qM:∀ b,aB C aa (ag h) b→aB C (fun i=>aa (σ i)) (ag h') b:=fun b hb=>⟨hb.1,fun id hid=>hb.2 (σ id) (hsome id hid).2⟩
 have qN:∀ j b,τ j=none→(ag h j).isSome=true→aa j=some b→aB C (fun i=>aa (σ i)) (ag h') b:=fun j b hj hs hb=>by
  refine ⟨?_,fun id hid he=>?_⟩
  ·rcases (M.own j b hs hb).1 with ⟨a1,_⟩ | a
   ·rw [h0 j (hkeep j hj)] at a1;cases a1
   ·exact .inr a
  ·have:=M.inj (σ id) j b (hsome id hid).2 hs he hb
   rw [← this,(hsome id hid).1] at hj;cases hj
 have hs:∀ j i,τ j=some i→aa j=(fun i=>aa (σ i)) i∧((ag h j).isSome=true→(ag h' i).isSome=true)∧(∀ cs,ag h' i=some (.var cs)→∃ cs',ag h j=some (.var cs'))∧∀ e af xs,ag h' i=some (.row e af xs)→∃ xs',ag h j=some (.row e af xs'):=fun j i hj=>by
  have iS:=h1 j i hj
  refine ⟨by simp only [iS],Nr j i hj,fun cs hc=>?_,fun e af xs hc=>?_⟩
  ·obtain ⟨_,hb,a1,a2⟩:=hh i _ hc
   rw [iS] at a1
   cases a2 with
   | var xs _ _=>exact ⟨xs,a1⟩
  ·obtain ⟨_,hb,a1,a2⟩:=hh i _ hc
   rw [iS] at a1
   cases a2 with
   | row _ _ xs _ _ _=>exact ⟨xs,a1⟩
 refine ⟨⟨fun i=>aa (σ i),⟨⟨fun i hb' hi=>?_,fun i j b g1 g2 g3 g4=>?_,fun j b g1 g2=>?_,M.fr,fun i hb' hb0 g1 g2=>?_⟩,fun n=>(RF.env n).leave qM qN (fun j hb hj=>M.heap j hb hj) hs (he n),RF.size,RF.defers⟩⟩,hn,h0⟩
 ·obtain ⟨a1,hb,a2,a3⟩:=hh i hb' hi
  exact (M.heap (σ i) hb a2).leave qM qN (fun j hb hj=>M.heap j hb hj) hs a1 a3
 ·have e:=M.inj (σ i) (σ j) b (hsome i g1).2 (hsome j g2).2 g3 g4
  have t1:=(hsome i g1).1
  rw [e,(hsome j g2).1] at t1
  cases t1;rfl
 ·obtain ⟨a,b2⟩:=M.own (σ j) b (hsome j g1).2 g2
  refine ⟨?_,b2⟩
  rcases a with ⟨p1,p2,p3⟩ | a
  ·have hlt:σ j<n0:=by
    apply Classical.byContradiction
    intro hc
    rw [h0 (σ j) (by omega)] at p1;cases p1
   have:=FB _ _ (hsome j g1).1 (.inl hlt)
   rw [← this] at p1 p2
   exact .inl ⟨p1,p2,p3⟩
  ·exact .inr a
 ·obtain ⟨a1,hb,a2,a3⟩:=hh i hb' g1
  have hlt:i<n0:=by
   apply Classical.byContradiction
   intro hc
   rw [h0 i (by omega)] at g2;cases g2
  have hi:=FB _ _ a1 (.inr hlt)
  rw [← hi] at a2
  have ev:=M.gi i hb hb0 a2 g2
  rw [← hi]
  cases a3 with
  | var xs ys _=>cases hb0 <;> exact ev
  | row e af xs ys _ _=>cases hb0 <;> exact ev
def iZ (i j m k:Nat):Option Nat:=if k=j then some i else if k=i then none else if k<m then some k else none
def zx (i j k:Nat):Nat:=if k=i then j else k
theorem rL {n0:Nat} {env env':List (Nat×U)} {h h':List (Option HB)} (i j:Nat) (hi:n0≤i) (Fu:i<h'.length) (hj:h'.length≤j)
 (hh:∀ k,k<h'.length→∃ hb hb',ag h (zx i j k)=some hb∧ag h' k=some hb'∧iD (iZ i j h'.length) (ag h) hb hb')
 (he:∀ p∈env',Rn (iZ i j h'.length) (ag h) (lk env p.1) p.2):cV n0 ⟨env,h⟩ ⟨env',h'⟩:=by
 refine KT (iZ i j h'.length) (zx i j) (by omega) (fun a b hab=>?_) (fun a b hab hlt=>?_) (fun a ha=>?_) (fun k hb' hk=>?_) (fun a b hab hs=>?_) (vO (fun x=>.dead x) he)
 ·unfold iZ at hab;unfold zx
  split at hab
  ·cases hab;simp_all
  ·split at hab
   ·cases hab
   ·split at hab
    ·cases hab;rw [if_neg (by assumption)]
    ·cases hab
 ·unfold iZ at hab
  split at hab
  ·cases hab;omega
  ·split at hab
   ·cases hab
   ·split at hab
    ·cases hab;rfl
    ·cases hab
 ·unfold iZ at ha
  split at ha
  ·cases ha
  ·split at ha
   ·omega
   ·split at ha
    ·cases ha
    ·omega
 ·have hk2:k<h'.length:=by
   apply Classical.byContradiction
   intro hc
   unfold ag at hk
   rw [List.getElem?_eq_none (by omega)] at hk;cases hk
  obtain ⟨hb,ia,a1,a2,a3⟩:=hh k hk2
  rw [a2] at hk;cases hk
  refine ⟨?_,hb,a1,a3⟩
  unfold zx iZ
  by_cases e:k=i
  ·simp [e]
  ·rw [if_neg e,if_neg (by omega),if_neg e,if_pos hk2]
 ·have hb:b<h'.length:=by
   unfold iZ at hab
   split at hab
   ·cases hab;exact Fu
   ·split at hab
    ·cases hab
    ·split at hab
     ·cases hab;assumption
     ·cases hab
  obtain ⟨_,hb',_,a2,_⟩:=hh b hb
  rw [a2];rfl
end Go.ay

namespace Go.ay
open Go
theorem Ke {P:Program} {f:FuncId} {gf:List U} {args:List U} {pre us:List (Nat×HB)} {sv:U} (H:aP P f gf [] us sv) (hl:args.length=gf.length)
 (hz:∀ hp,aV hp pre→∀ (j:Nat) (y x:U),args[j]?=some y→gf[j]?=some x→Rn (fun _=>none) hp y x) (hfl:fK sv) (gD:∀ q∈us,oZ q.2∧∀ p∈pre,p.1≠q.1):aP P f args pre us sv:=by
 refine ⟨H.1,fun C hp w aa vs hpre hnew R hvl hvs=>?_⟩
 let C2:Ctx:=⟨w,fun b=>aB C aa hp b∨∃ id,(hp id).isSome=true∧aa id=some b,fun _=>False,C.N,fun _=>none,fun _=>none⟩
 have vk:∀ b,C2.yC b→aB C2 (fun _=>none) (fun _=>none) b:=fun b hb=>⟨.inl hb,fun id hid=>by simp at hid⟩
 have R2:bR C2 (fun _=>none) w (fun _=>none):=⟨fun id hb h=>(by cases h),fun i j b h=>(by simp at h),fun i b h=>(by simp at h),⟨rfl,rfl,rfl,Nat.le_refl _,fun b _ _=>rfl⟩,fun id hb hb0 h=>(by cases h)⟩
 have pQ:∀ id,id∈us.map (·.1)→hp id=none∧C.h0 id=none:=fun id hid=>by
  obtain ⟨q,hq,rfl⟩:=List.mem_map.1 hid
  rcases hnew q hq with ⟨hb,hm⟩ | h
  ·exact absurd rfl ((gD q hq).2 (q.1,hb) hm)
  ·exact h
 refine (H.2 C2 (fun _=>none) w (fun _=>none) vs (fun q hq=>by simp at hq) (fun q hq=>.inr ⟨rfl,rfl⟩) R2 (by simp [hvl,hl]) (fun j s hj=>?_)).mono ?_
 ·have hlt:=(List.getElem?_eq_some_iff.1 hj).1
  have hy:=List.getElem?_eq_getElem (l:=args) (i:=j) (by omega)
  exact Rp.leave (τ:=fun _=>none) (fun b hb=>vk b (.inl hb)) (fun i b _ hi hb=>vk b (.inr ⟨i,hi,hb⟩)) (fun i hb hi=>R.heap i hb hi) (fun j id h=>by cases h) (hvs j _ hy) (hz hp hpre j _ s hy hj)
 ·rintro e w' ⟨v,aD,rfl,S,hR⟩
  have R':=S.mem
  have eI:∀ b,b<w.heap.size→w'.heap[b]?=w.heap[b]?:=fun b hb=>R'.fr.block b hb (fun h=>h)
  have hsz:w.heap.size≤w'.heap.size:=R'.fr.size
  have pT:∀ id b,id∈us.map (·.1)→aD id=some b→w.heap.size≤b∧b<w'.heap.size:=fun id b hid hb=>by
   obtain ⟨h1,h2⟩:=R'.own id b (kN.2 hid) hb
   rcases h1 with ⟨a,_⟩ | a
   ·cases a
   ·exact ⟨a,h2⟩
  let dG:Nat→Option Nat:=fun id=>if id∈us.map (·.1) then aD id else aa id
  have rT:∀ id,id∈us.map (·.1)→dG id=aD id:=fun id h=>if_pos h
  have rN:∀ id,id∉us.map (·.1)→dG id=aa id:=fun id h=>if_neg h
  have hN:∀ id,id∉us.map (·.1)→bI hp us id=hp id:=fun id h=>zn h
  have hT:∀ id,id∈us.map (·.1)→bI hp us id=bI (fun _=>none) us id:=fun id h=>wo h
  have hs:∀ j,(bI (fun _=>none) us j).isSome=true→bI hp us j=bI (fun _=>none) us j∧dG j=aD j:=fun j hj=>⟨hT j (kN.1 hj),rT j (kN.1 hj)⟩
  have vV:∀ b,aB C aa hp b→b<w.heap.size→aB C dG (bI hp us) b∧w'.heap[b]?=w.heap[b]?:=fun b hb hlt=>by
   refine ⟨⟨hb.1,fun id hid he=>?_⟩,eI b hlt⟩
   by_cases hm:id∈us.map (·.1)
   ·rw [rT id hm] at he
    have:=(pT id b hm he).1;omega
   ·rw [hN id hm] at hid
    rw [rN id hm] at he
    exact hb.2 id hid he
  have E:fI w w' (aB C aa hp) (aB C dG (bI hp us)) aa dG hp (bI hp us):=fI.of vV (fun id hb hq=>by
   have hm:id∉us.map (·.1):=fun hm=>by rw [(pQ id hm).1] at hq;cases hq
   refine ⟨hb,by rw [hN id hm];exact hq,?_⟩
   rw [rN id hm]
   cases hb with
   | var cs=>rfl
   | row e af xs=>exact ⟨Nat.le_refl _,fun _=>⟨rfl,rfl,fun b hb cur t hc=>⟨cur,t,by rw [eI b (R.own id b (by rw [hq];rfl) hb).2];exact hc,rfl⟩⟩⟩)
  refine ⟨v,dG,rfl,⟨⟨fun id hb hq=>?_,fun i j b h1 h2 h3 h4=>?_,fun id b h1 h2=>?_,⟨R'.fr.os.trans R.fr.os,R'.fr.tape.trans R.fr.tape,R'.fr.output.trans R.fr.output,Nat.le_trans R.fr.size hsz,fun b h1 h2=>?_⟩,fun id hb hb0 h1 h2=>?_⟩,E⟩,hR.flat hs hfl⟩
  ·by_cases hm:id∈us.map (·.1)
   ·rw [hT id hm] at hq
    have AT:oZ hb:=by
     rcases Jf hq with h | h
     ·cases h
     ·exact (gD _ h).1
    exact (R'.heap id hb hq).flat hs (kN.2 hm) AT
   ·rw [hN id hm] at hq
    rcases R.heap id hb hq with ⟨a1,a2⟩ | ⟨b,cur,t,a1,a2,a3⟩
    ·exact .inl ⟨(rN id hm).trans a1,a2⟩
    ·refine .inr ⟨b,cur,t,(rN id hm).trans a1,?_,a3.mono E⟩
     rw [eI b (R.own id b (by rw [hq];rfl) a1).2];exact a2
  ·by_cases hi:i∈us.map (·.1) <;> by_cases hj:j∈us.map (·.1)
   ·rw [rT i hi] at h3;rw [rT j hj] at h4
    exact R'.inj i j b (kN.2 hi) (kN.2 hj) h3 h4
   ·rw [rT i hi] at h3;rw [rN j hj] at h4;rw [hN j hj] at h2
    have h5:=pT i b hi h3;have h6:=R.own j b h2 h4;omega
   ·rw [rN i hi] at h3;rw [rT j hj] at h4;rw [hN i hi] at h1
    have h5:=pT j b hj h4;have h6:=R.own i b h1 h3;omega
   ·rw [rN i hi] at h3;rw [rN j hj] at h4;rw [hN i hi] at h1;rw [hN j hj] at h2
    exact R.inj i j b h1 h2 h3 h4
  ·by_cases hm:id∈us.map (·.1)
   ·rw [rT id hm] at h2
    obtain ⟨a1,a2⟩:=pT id b hm h2
    exact ⟨.inr (Nat.le_trans R.fr.size a1),a2⟩
   ·rw [hN id hm] at h1;rw [rN id hm] at h2
    obtain ⟨a1,a2⟩:=R.own id b h1 h2
    exact ⟨a1,by omega⟩
  ·rw [eI b (by have:=R.fr.size;omega)];exact R.fr.block b h1 h2
  ·by_cases hm:id∈us.map (·.1)
   ·rw [(pQ id hm).2] at h2;cases h2
   ·rw [hN id hm] at h1
    have ev:=R.gi id hb hb0 h1 h2
    obtain ⟨hb',g1,g2⟩:∃ hb',bI hp us id=some hb'∧fJ w w' (aa id) (dG id) hb hb':=by
     refine ⟨hb,by rw [hN id hm];exact h1,?_⟩
     rw [rN id hm]
     cases hb with
     | var cs=>rfl
     | row e af xs=>exact ⟨Nat.le_refl _,fun _=>⟨rfl,rfl,fun b hb cur t hc=>⟨cur,t,by rw [eI b (R.own id b (by rw [h1];rfl) hb).2];exact hc,rfl⟩⟩⟩
    rw [hN id hm,h1] at g1;cases g1
    exact ev.trans g2
end Go.ay

namespace Go.ay
open Go
def DE:AC:=(.seq (.qf [0,1,3,7,0,31,0,64,192,448,0,1984,4032,0,0,24639,65535] [⟨(some 7),.mv,[(.t 0)],none⟩,⟨(some 8),.lF,[(.t 7)],none⟩,⟨(some 9),(.eC 0),[(.t 8)],none⟩,⟨(some 10),(.load 1 false),[(.t 9)],none⟩,⟨(some 11),.mv,[(.t 1)],none⟩,⟨(some 12),(.call 51),[(.t 10),(.t 11)],none⟩,⟨(some 13),.mv,[(.t 0)],none⟩,⟨(some 14),.lF,[(.t 13)],none⟩,⟨(some 15),(.eC 1),[(.t 14)],none⟩,⟨(some 16),(.load 1 false),[(.t 15)],none⟩,⟨(some 17),.mv,[(.t 1)],none⟩,⟨(some 18),(.ixs 21),[(.t 16),(.t 17)],none⟩,⟨(some 19),(.load 21 true),[(.t 18)],none⟩,⟨(some 4),(.alloc [(.bool false),(.int .i64 0),(.int .i64 0),(.int .i64 0),(.int .i64 0),(.int .i64 0),(.int .i64 0),(.int .i64 0),(.int .i64 0),(.int .i64 0),(.int .i64 0),(.int .i64 0),(.int .i64 0),(.int .i64 0),(.int .i64 0),(.int .i64 0),(.int .i64 0),(.int .i64 0),(.int .i64 0),(.int .i64 0),(.int .i64 0),(.int .i64 0),(.int .i64 0),(.int .i64 0),(.int .i64 0),(.int .i64 0),(.int .i64 0),(.int .i64 0),(.int .i64 0),(.int .i64 0),(.int .i64 0),(.int .i64 0),(.int .i64 0),(.int .i64 0),(.int .i64 0),(.int .i64 0),(.int .i64 0),(.int .i64 0),(.int .i64 0),(.int .i64 0),(.int .i64 0),(.int .i64 0),(.bool false),(.bool false),(.int .i64 0),(.bool false),(.int .i64 0),(.int .i64 0)]),[],none⟩,⟨(some 5),(.alloc [(.bool false),(.int .i64 0),(.int .i64 0),(.int .i64 0),(.int .i64 0),(.int .i64 0),(.int .i64 0),(.int .i64 0),(.int .i64 0),(.int .i64 0),(.int .i64 0),(.int .i64 0),(.int .i64 0),(.int .i64 0),(.int .i64 0),(.int .i64 0),(.int .i64 0),(.int .i64 0),(.int .i64 0),(.int .i64 0),(.int .i64 0)]),[],none⟩,⟨none,(.store 48),[(.t 4),(.t 12)],none⟩,⟨none,(.store 21),[(.t 5),(.t 19)],none⟩]) (.seq (.dz [⟨(some 20),(.load 21 true),[(.t 5)],none⟩,⟨(some 21),(.call 112),[(.t 20)],none⟩,⟨(some 6),(.alloc [(.int .i64 0),(.int .i64 0),(.int .i64 0),(.int .i64 0)]),[],none⟩,⟨none,(.store 4),[(.t 6),(.t 21)],none⟩]) (.seq (.seq (.dz [⟨(some 22),(.eC 46),[(.t 4)],none⟩,⟨(some 23),(.load 1 false),[(.t 22)],none⟩,⟨(some 24),(.eJ .neq),[(.t 23),(.c (.rv (.int .i64 0)))],none⟩]) (.seq (.cond (.t 24) (.qf [0,0,2,6,14,0,0,0,128,384,896,0,3968,8064,0,16384,65504,131040,262142,524287,1048575,2097151] [⟨(some 25),.mv,[(.t 0)],none⟩,⟨(some 26),.mv,[(.t 0)],none⟩,⟨(some 27),.lF,[(.t 26)],none⟩,⟨(some 28),(.eC 5),[(.t 27)],none⟩,⟨(some 29),(.load 1 false),[(.t 28)],none⟩,⟨(some 30),.mv,[(.t 1)],none⟩,⟨(some 31),(.load 4 true),[(.t 6)],none⟩,⟨(some 32),.mv,[(.t 0)],none⟩,⟨(some 33),.lF,[(.t 32)],none⟩,⟨(some 34),(.eC 2),[(.t 33)],none⟩,⟨(some 35),(.load 1 false),[(.t 34)],none⟩,⟨(some 36),.mv,[(.t 1)],none⟩,⟨(some 37),(.ixs 4),[(.t 35),(.t 36)],none⟩,⟨(some 38),(.load 4 true),[(.t 37)],none⟩,⟨(some 39),(.eC 46),[(.t 4)],none⟩,⟨(some 40),(.load 1 false),[(.t 39)],none⟩,⟨(some 41),(.build [(.int .i64 0),(.int .i64 0),(.int .i64 0),(.int .i64 0),(.int .i64 0),(.int .i64 0),(.int .i64 0),(.int .i64 0),(.int .i64 0),(.int .i64 0),(.int .i64 0),(.int .i64 0),(.int .i64 0),(.int .i64 0),(.int .i64 0)] [(0,1),(1,1),(2,4),(10,4),(14,1)]),[(.t 30),(.c (.rv (.int .i64 0))),(.t 31),(.t 38),(.t 40)],none⟩,⟨(some 42),(.rE 15),[(.t 41)],none⟩,⟨(some 43),(.app 15 120),[(.t 29),(.t 42)],none⟩,⟨(some 44),.lF,[(.t 25)],none⟩,⟨(some 45),(.eC 5),[(.t 44)],none⟩,⟨none,(.store 1),[(.t 45),(.t 43)],none⟩]) .skip) .jh)) (.seq (.dz [⟨(some 46),(.eC 47),[(.t 4)],none⟩,⟨(some 47),(.load 1 false),[(.t 46)],none⟩,⟨(some 48),(.eJ .neq),[(.t 47),(.c (.rv (.int .i64 0)))],none⟩,⟨(some 49),.mv,[(.t 48)],none⟩,⟨(some 50),(.eC 38),[(.t 4)],(some (49,true))⟩,⟨(some 51),(.load 4 true),[(.t 50)],(some (49,true))⟩,⟨(some 52),(.build [(.int .i64 0),(.int .i64 0),(.int .i64 0),(.int .i64 0)] []),[],(some (49,true))⟩,⟨(some 53),(.eqs true true [.i,.i,.i,.i]),[(.t 51),(.t 52)],(some (49,true))⟩,⟨(some 54),.pick,[(.t 49),(.t 53),(.c (.rv (.bool false)))],none⟩]) (.seq (.cond (.t 54) (.qf [0,0,2,6,14,0,0,0,128,0,512,1536,3584,0,15872,32256,0,65536,262112,524256,1048574,2097151,4194303,8388607] [⟨(some 55),.mv,[(.t 0)],none⟩,⟨(some 56),.mv,[(.t 0)],none⟩,⟨(some 57),.lF,[(.t 56)],none⟩,⟨(some 58),(.eC 5),[(.t 57)],none⟩,⟨(some 59),(.load 1 false),[(.t 58)],none⟩,⟨(some 60),.mv,[(.t 1)],none⟩,⟨(some 61),(.load 4 true),[(.t 6)],none⟩,⟨(some 62),(.load 21 true),[(.t 5)],none⟩,⟨(some 63),(.call 52),[(.t 62)],none⟩,⟨(some 64),.mv,[(.t 0)],none⟩,⟨(some 65),.lF,[(.t 64)],none⟩,⟨(some 66),(.eC 2),[(.t 65)],none⟩,⟨(some 67),(.load 1 false),[(.t 66)],none⟩,⟨(some 68),.mv,[(.t 1)],none⟩,⟨(some 69),(.ixs 4),[(.t 67),(.t 68)],none⟩,⟨(some 70),(.load 4 true),[(.t 69)],none⟩,⟨(some 71),(.eC 47),[(.t 4)],none⟩,⟨(some 72),(.load 1 false),[(.t 71)],none⟩,⟨(some 73),(.build [(.int .i64 0),(.int .i64 0),(.int .i64 0),(.int .i64 0),(.int .i64 0),(.int .i64 0),(.int .i64 0),(.int .i64 0),(.int .i64 0),(.int .i64 0),(.int .i64 0),(.int .i64 0),(.int .i64 0),(.int .i64 0),(.int .i64 0)] [(0,1),(1,1),(2,4),(6,4),(10,4),(14,1)]),[(.t 60),(.c (.rv (.int .i64 1))),(.t 61),(.t 63),(.t 70),(.t 72)],none⟩,⟨(some 74),(.rE 15),[(.t 73)],none⟩,⟨(some 75),(.app 15 120),[(.t 59),(.t 74)],none⟩,⟨(some 76),.lF,[(.t 55)],none⟩,⟨(some 77),(.eC 5),[(.t 76)],none⟩,⟨none,(.store 1),[(.t 77),(.t 75)],none⟩]) .skip) .jh)))))
theorem Pk:bC Go.Proofs.Try.prog 94 78 DE []:=xy (by kernel_rfl)
def TJ:CK→RV→Bool
 | .b,.bool _=>true
 | .i,.int _ _=>true
 | _,_=>false
theorem tG {xs:List bA} (a0 a1 a2 a3 a4 a5 a6 a7 a8 a9 Dd De Df Dg Dh:Int):ah (cE xs)++[[U.rv (.int .i64 a0),.rv (.int .i64 a1),.rv (.int .i64 a2),.rv (.int .i64 a3),.rv (.int .i64 a4),.rv (.int .i64 a5),.rv (.int .i64 a6),.rv (.int .i64 a7),.rv (.int .i64 a8),.rv (.int .i64 a9),.rv (.int .i64 Dd),.rv (.int .i64 De),.rv (.int .i64 Df),.rv (.int .i64 Dg),.rv (.int .i64 Dh)]]=ah (cE (xs++[⟨a0,a1,⟨a2,a3,a4,a5⟩,⟨a6,a7,a8,a9⟩,⟨Dd,De,Df,Dg⟩,Dh⟩])):=by simp [ah,cE,bA.cells]
def Up (l:List Nd) (bx:List Bx) (cl:List Rc) (M Q:RV) (o:U):List U:=[.rv (cq l),.rv (.sl 21 (cJ bx)),.rv (.sl 4 (cL cl)),.rv M,.rv Q,o]
def cR (l:List Nd) (bx:List Bx) (cl:List Rc) (M Q:RV) (q:Nat) (xs:List bA):HB:=.var [.rv (cq l),.rv (.sl 21 (cJ bx)),.rv (.sl 4 (cL cl)),.rv M,.rv Q,.row q xs.length xs.length]
def bK (l:List Nd) (bx:List Bx) (cl:List Rc) (n:Nat):List bA:=iV (eu l n) n (bx.getD n default) (cl.getD n cQ)
theorem DB (s:au):∃ p:Prop,p∧qn [.i,.i,.i,.i] (s.aK.ints.map U.rv) [.rv (.int .i64 0),.rv (.int .i64 0),.rv (.int .i64 0),.rv (.int .i64 0)]=some (p,decide (s.aK=⟨0,0,0,0⟩)):=by
 refine ⟨(IntKind.i64=IntKind.i64)∧(IntKind.i64=IntKind.i64)∧(IntKind.i64=IntKind.i64)∧(IntKind.i64=IntKind.i64)∧True,⟨rfl,rfl,rfl,rfl,trivial⟩,?_⟩
 rcases hb:s.aK with ⟨a,b,c,d⟩
 have:decide ((⟨a,b,c,d⟩:Q4 Int)=⟨0,0,0,0⟩)=((a == 0) && ((b == 0) && ((c == 0) && ((d == 0) && true)))):=by
  rw [Bool.eq_iff_iff];simp [Q4.mk.injEq]
 rw [this];rfl
theorem jB (s:au):(s.aK.ints.map U.rv).length=4:=rfl
theorem SI (l:List Nd) (hb:l.length≤1000) (bx:List Bx) (cl:List Rc) (eU:bx.length=l.length) (dM:cl.length=l.length) (hf:bx.all iG=true) (M Q:RV) (hM:M.one=true) (hQ:Q.one=true) (i q:Nat) (dZ:i≠q) (xs:List bA) (hxs:xs.length≤100000000) (n:Nat) (hn:n<l.length) :
 aP Go.Proofs.Try.prog 94 [.ptr i 0,.rv (.int .i64 n)] [(i,cR l bx cl M Q q xs),(q,.row 15 xs.length (ah (cE xs)))] [(i,cR l bx cl M Q q (xs++bK l bx cl n)),(q,.row 15 (xs++bK l bx cl n).length (ah (cE (xs++bK l bx cl n))))] (.aR []):=by
 refine eY Pk [i,q] [cR l bx cl M Q 1 xs,.row 15 xs.length (ah (cE xs))] [cR l bx cl M Q q xs,.row 15 xs.length (ah (cE xs))] [.ptr 0 0,.rv (.int .i64 n)] [.ptr i 0,.rv (.int .i64 n)] _ _ (by simp) (by simp [aW,eB,bD]) rfl (by simp [aQ,dZ]) (by simp [cI,cR,er,aW,bD,dP]) (fun K hK=>?_)
 have hst:=zf l n
 have hby:=JZ (l:=bx) (i:=n) (by omega)
 have pN:=Ro (l:=cl) (i:=n) (by omega)
 have qw:=zI bx
 have iQ:=Cl cl
 have hee:=SK _ (Ey hf (i:=n) (by omega))
 have fE:=IF _ (Ey hf (i:=n) (by omega))
 unfold bK at hK
 generalize hs:eu l n=s at *
 generalize ic:bx.getD n default=b at *
 generalize Fc:cl.getD n cQ=c at *
 simp -implicitDefEqProofs only [Rc.sv,Bx.sv] at hee fE
 have qa:(b.cells.map U.rv).take 21=b.cells.map U.rv:=rfl
 have tV:b.cells.take 21=b.cells:=rfl
 have jf:=jS s
 have jg:=jT s
 have je:=jU s
 have tA:iV s n b c=(if s.back=0 then [] else [⟨n,0,oE b,cQ,c,s.back⟩])++(if s.line=0∨s.aK=⟨0,0,0,0⟩ then [] else [⟨n,1,oE b,fV b,c,s.line⟩]):=rfl
 generalize oE b=e at *
 generalize fV b=d at *
 obtain ⟨e0,e1,e2,e3⟩:=e
 obtain ⟨d0,d1,d2,d3⟩:=d
 obtain ⟨c0,c1,c2,c3⟩:=c
 simp -implicitDefEqProofs only [Rc.cells,List.map] at hee fE pN
 simp -implicitDefEqProofs only [DE,cR,go_sem,Int.reduceNegSucc]
 obtain ⟨p,hp,fe⟩:=DB s
 have jq:=yd xs
 have fR:(cE xs).take xs.length=cE xs:=List.take_of_length_le (by omega)
 have tD:=fun (y:bA)=>yd (xs++[y])
 have tC:∀ y:bA,(cE (xs++[y])).take (xs.length+1)=cE (xs++[y]):=fun y=>List.take_of_length_le (by rw [yd];simp)
 by_cases h1:s.back=0
 ·have f1:(s.back != 0)=false:=by simp [h1]
  by_cases h2:s.line=0
  ·have f2:(s.line != 0)=false:=by simp [h2]
   have ho:iV s n b ⟨c0,c1,c2,c3⟩=[]:=by rw [tA];rw [if_pos h1,if_pos (.inl h2)];rfl
   rw [ho] at hK
   try rw [List.append_nil] at hK
   have bY:=hst;have y_2:=hee;have di:=fE;repeat' (first | (simp -implicitDefEqProofs only [go_sem,Int.reduceNegSucc,hby,pN,qw,iQ,eU,dM,qa,tV,ql,tW,aj,jf,jg,je,fe,jB,f1,f2,tG,jq,fR,tD,tC]) | (with_reducible refine aC ?_) | (with_reducible first | refine aM bY ?_ | refine aN bY ?_) | (with_reducible first | refine aM y_2 ?_ | refine aN y_2 ?_) | (with_reducible first | refine aM di ?_ | refine aN di ?_) | ((first | refine ak (fun hg=>?_) (fun hg=>?_) | refine aI (fun hg=>?_) (fun hg=>?_) | refine aJ (fun hg=>?_) (fun hg=>?_)) <;> try simp -implicitDefEqProofs only [hg,Bool.not_true,Bool.not_false]) | ((with_reducible apply And.intro);focus (first | trivial | omega | decide | (simp -implicitDefEqProofs only [maxLen];omega) | (simp [maxLen,aj,aq,ax,aG,av,aF,aE] <;> omega) | (exact hp;done))) | fail)
   refine (hK _ _ _ _ [] (cK _ _) ?_).1
   simp [cw,aQ,newL,cD,ct,bH,bF,lk,bO,bV,cj,bW,cU,cT,ag,cC,cO,bh,bT,cn,de,cS,dc,cc,cB,cz,dZ,Ne.symm dZ,cR]
  ·have f2:(s.line != 0)=true:=by simp [h2]
   by_cases h3:s.aK=⟨0,0,0,0⟩
   ·have ho:iV s n b ⟨c0,c1,c2,c3⟩=[]:=by rw [tA];rw [if_pos h1,if_pos (.inr h3)];rfl
    rw [ho] at hK
    try rw [List.append_nil] at hK
    rw [decide_eq_true h3] at fe
    have dH:=hst;have dX:=hee;have eS:=fE;repeat' (first | (simp -implicitDefEqProofs only [go_sem,Int.reduceNegSucc,hby,pN,qw,iQ,eU,dM,qa,tV,ql,tW,aj,jf,jg,je,fe,jB,f1,f2,tG,jq,fR,tD,tC]) | (with_reducible refine aC ?_) | (with_reducible first | refine aM dH ?_ | refine aN dH ?_) | (with_reducible first | refine aM dX ?_ | refine aN dX ?_) | (with_reducible first | refine aM eS ?_ | refine aN eS ?_) | ((first | refine ak (fun hg=>?_) (fun hg=>?_) | refine aI (fun hg=>?_) (fun hg=>?_) | refine aJ (fun hg=>?_) (fun hg=>?_)) <;> try simp -implicitDefEqProofs only [hg,Bool.not_true,Bool.not_false]) | ((with_reducible apply And.intro);focus (first | trivial | omega | decide | (simp -implicitDefEqProofs only [maxLen];omega) | (simp [maxLen,aj,aq,ax,aG,av,aF,aE] <;> omega) | (exact hp;done))) | fail)
    refine (hK _ _ _ _ [] (cK _ _) ?_).1
    simp [cw,aQ,newL,cD,ct,bH,bF,lk,bO,bV,cj,bW,cU,cT,ag,cC,cO,bh,bT,cn,de,cS,dc,cc,cB,cz,dZ,Ne.symm dZ,cR]
   ·have ho:iV s n b ⟨c0,c1,c2,c3⟩=[⟨n,1,⟨e0,e1,e2,e3⟩,⟨d0,d1,d2,d3⟩,⟨c0,c1,c2,c3⟩,s.line⟩]:=by rw [tA];rw [if_pos h1,if_neg (fun h=>h.elim h2 h3)];rfl
    rw [ho] at hK
    rw [decide_eq_false h3] at fe
    have fB:=hst;have gu:=hee;have iB:=fE;repeat' (first | (simp -implicitDefEqProofs only [go_sem,Int.reduceNegSucc,hby,pN,qw,iQ,eU,dM,qa,tV,ql,tW,aj,jf,jg,je,fe,jB,f1,f2,tG,jq,fR,tD,tC]) | (with_reducible refine aC ?_) | (with_reducible first | refine aM fB ?_ | refine aN fB ?_) | (with_reducible first | refine aM gu ?_ | refine aN gu ?_) | (with_reducible first | refine aM iB ?_ | refine aN iB ?_) | ((first | refine ak (fun hg=>?_) (fun hg=>?_) | refine aI (fun hg=>?_) (fun hg=>?_) | refine aJ (fun hg=>?_) (fun hg=>?_)) <;> try simp -implicitDefEqProofs only [hg,Bool.not_true,Bool.not_false]) | ((with_reducible apply And.intro);focus (first | trivial | omega | decide | (simp -implicitDefEqProofs only [maxLen];omega) | (simp [maxLen,aj,aq,ax,aG,av,aF,aE] <;> omega) | (exact hp;done))) | fail)
    refine (hK _ _ _ _ [] (cK _ _) ?_).1
    simp [cw,aQ,newL,cD,ct,bH,bF,lk,bO,bV,cj,bW,cU,cT,ag,cC,cO,bh,bT,cn,de,cS,dc,cc,cB,cz,dZ,Ne.symm dZ,cR]
 ·have f1:(s.back != 0)=true:=by simp [h1]
  by_cases h2:s.line=0
  ·have f2:(s.line != 0)=false:=by simp [h2]
   have ho:iV s n b ⟨c0,c1,c2,c3⟩=[⟨n,0,⟨e0,e1,e2,e3⟩,⟨0,0,0,0⟩,⟨c0,c1,c2,c3⟩,s.back⟩]:=by rw [tA];rw [if_neg h1,if_pos (.inl h2)];rfl
   rw [ho] at hK
   try rw [List.append_nil] at hK
   have jy:=hst;have ot:=hee;have ou:=fE;repeat' (first | (simp -implicitDefEqProofs only [go_sem,Int.reduceNegSucc,hby,pN,qw,iQ,eU,dM,qa,tV,ql,tW,aj,jf,jg,je,fe,jB,f1,f2,tG,jq,fR,tD,tC]) | (with_reducible refine aC ?_) | (with_reducible first | refine aM jy ?_ | refine aN jy ?_) | (with_reducible first | refine aM ot ?_ | refine aN ot ?_) | (with_reducible first | refine aM ou ?_ | refine aN ou ?_) | ((first | refine ak (fun hg=>?_) (fun hg=>?_) | refine aI (fun hg=>?_) (fun hg=>?_) | refine aJ (fun hg=>?_) (fun hg=>?_)) <;> try simp -implicitDefEqProofs only [hg,Bool.not_true,Bool.not_false]) | ((with_reducible apply And.intro);focus (first | trivial | omega | decide | (simp -implicitDefEqProofs only [maxLen];omega) | (simp [maxLen,aj,aq,ax,aG,av,aF,aE] <;> omega) | (exact hp;done))) | fail)
   refine (hK _ _ _ _ [] (cK _ _) ?_).1
   simp [cw,aQ,newL,cD,ct,bH,bF,lk,bO,bV,cj,bW,cU,cT,ag,cC,cO,bh,bT,cn,de,cS,dc,cc,cB,cz,dZ,Ne.symm dZ,cR]
  ·have f2:(s.line != 0)=true:=by simp [h2]
   by_cases h3:s.aK=⟨0,0,0,0⟩
   ·have ho:iV s n b ⟨c0,c1,c2,c3⟩=[⟨n,0,⟨e0,e1,e2,e3⟩,⟨0,0,0,0⟩,⟨c0,c1,c2,c3⟩,s.back⟩]:=by rw [tA];rw [if_neg h1,if_pos (.inr h3)];rfl
    rw [ho] at hK
    try rw [List.append_nil] at hK
    rw [decide_eq_true h3] at fe
    have ov:=hst;have ow:=hee;have qZ:=fE;repeat' (first | (simp -implicitDefEqProofs only [go_sem,Int.reduceNegSucc,hby,pN,qw,iQ,eU,dM,qa,tV,ql,tW,aj,jf,jg,je,fe,jB,f1,f2,tG,jq,fR,tD,tC]) | (with_reducible refine aC ?_) | (with_reducible first | refine aM ov ?_ | refine aN ov ?_) | (with_reducible first | refine aM ow ?_ | refine aN ow ?_) | (with_reducible first | refine aM qZ ?_ | refine aN qZ ?_) | ((first | refine ak (fun hg=>?_) (fun hg=>?_) | refine aI (fun hg=>?_) (fun hg=>?_) | refine aJ (fun hg=>?_) (fun hg=>?_)) <;> try simp -implicitDefEqProofs only [hg,Bool.not_true,Bool.not_false]) | ((with_reducible apply And.intro);focus (first | trivial | omega | decide | (simp -implicitDefEqProofs only [maxLen];omega) | (simp [maxLen,aj,aq,ax,aG,av,aF,aE] <;> omega) | (exact hp;done))) | fail)
    refine (hK _ _ _ _ [] (cK _ _) ?_).1
    simp [cw,aQ,newL,cD,ct,bH,bF,lk,bO,bV,cj,bW,cU,cT,ag,cC,cO,bh,bT,cn,de,cS,dc,cc,cB,cz,dZ,Ne.symm dZ,cR]
   ·have ho:iV s n b ⟨c0,c1,c2,c3⟩=[⟨n,0,⟨e0,e1,e2,e3⟩,⟨0,0,0,0⟩,⟨c0,c1,c2,c3⟩,s.back⟩,⟨n,1,⟨e0,e1,e2,e3⟩,⟨d0,d1,d2,d3⟩,⟨c0,c1,c2,c3⟩,s.line⟩]:=by rw [tA];rw [if_neg h1,if_neg (fun h=>h.elim h2 h3)];rfl
    rw [ho] at hK
    rw [decide_eq_false h3] at fe
    have ri:=hst;have rj:=hee;have rm:=fE;repeat' (first | (simp -implicitDefEqProofs only [go_sem,Int.reduceNegSucc,hby,pN,qw,iQ,eU,dM,qa,tV,ql,tW,aj,jf,jg,je,fe,jB,f1,f2,tG,jq,fR,tD,tC]) | (with_reducible refine aC ?_) | (with_reducible first | refine aM ri ?_ | refine aN ri ?_) | (with_reducible first | refine aM rj ?_ | refine aN rj ?_) | (with_reducible first | refine aM rm ?_ | refine aN rm ?_) | ((first | refine ak (fun hg=>?_) (fun hg=>?_) | refine aI (fun hg=>?_) (fun hg=>?_) | refine aJ (fun hg=>?_) (fun hg=>?_)) <;> try simp -implicitDefEqProofs only [hg,Bool.not_true,Bool.not_false]) | ((with_reducible apply And.intro);focus (first | trivial | omega | decide | (simp -implicitDefEqProofs only [maxLen];omega) | (simp [maxLen,aj,aq,ax,aG,av,aF,aE] <;> omega) | (exact hp;done))) | fail)
    refine (hK _ _ _ _ [] (cK _ _) ?_).1
    simp [cw,aQ,newL,cD,ct,bH,bF,lk,bO,bV,cj,bW,cU,cT,ag,cC,cO,bh,bT,cn,de,cS,dc,cc,cB,cz,dZ,Ne.symm dZ,cR]
end Go.ay

namespace Go.ay
open Go
theorem EK (p:Int→Bool) (x:Nat) (r:List Nat):gM p (x::r)=if p x=true then (x:Int) else gM p r:=by
 unfold gM
 rw [List.find?_cons]
 cases h:p x <;> simp
theorem Jd {l:List Nd} (hs:cP l) {k:Nat} (h0:0<k) (hk:k<l.length):aL l k=k::aL l (aU l k).toNat:=by
 obtain ⟨p1,p2⟩:=hs.wf.2 k h0 hk
 exact kI ⟨p1,by omega⟩
theorem Ca {l:List Nd} (hs:cP l) {k:Nat} (h0:0<k) (hk:k<l.length) (hm:aT l k=true):∃ p:Nat,aU l k=p∧p<k∧aT l p=true:=by
 obtain ⟨p1,p2⟩:=hs.wf.2 k h0 hk
 refine ⟨(aU l k).toNat,by omega,by omega,?_⟩
 simp -implicitDefEqProofs only [aT,Bool.and_eq_true,Int.toNat_natCast] at hm ⊢
 rw [BL hs.wf h0 hk,Bool.and_eq_true] at hm
 exact ⟨oR (by omega),hm.2.2⟩
theorem KK {l:List Nd} (hs:cP l) {k p:Nat} (h0:0<k) (hk:k<l.length) (hm:aT l k=true) (hp:aU l k=p):eG l k=if dB l p=true then (p:Int) else eG l p:=by
 obtain ⟨p',ai,hpk,kZ⟩:=Ca hs h0 hk hm
 obtain rfl:p=p':=by omega
 have h1:eG l k=gM (dB l) (dO l k):=by simp [eG,hm]
 have h2:eG l p=gM (dB l) (dO l p):=by simp [eG,kZ]
 have h3:dO l k=aL l p:=by
  simp -implicitDefEqProofs only [dO,oR hk,if_true,Int.toNat_natCast]
  rw [Jd hs h0 hk,hp,Int.toNat_natCast];rfl
 have h4:aL l p=p::dO l p:=by
  simp -implicitDefEqProofs only [dO,oR (l:=l) (k:=p) (by omega),if_true,Int.toNat_natCast]
  obtain ⟨r,hr⟩:=tS (l:=l) (n:=p)
  rw [hr];rfl
 rw [h1,h3,h4,EK,h2]
theorem LV {l:List Nd} (hs:cP l) {k p:Nat} (h0:0<k) (hk:k<l.length) (hm:aT l k=true) (hl:cY l k=false) (hp:aU l k=p):dU l k=dU l p:=by
 obtain ⟨p',ai,hpk,kZ⟩:=Ca hs h0 hk hm
 obtain rfl:p=p':=by omega
 have h1:dU l k=gM (cY l) (aL l k):=by simp [dU,hm]
 have h2:dU l p=gM (cY l) (aL l p):=by simp [dU,kZ]
 rw [h1,h2,Jd hs h0 hk,hp,Int.toNat_natCast,EK,if_neg (by rw [hl];simp)]
theorem GB {l:List Nd} (hm:aT l 0=true):cY l 0=true:=by simp [cY,hm]
theorem uO {l:List Nd} (hm:aT l 0=true):dB l 0=true:=by simp [dB,GB hm]
theorem GY {l:List Nd} (hs:cP l) {m:Nat} (h:aT l m=true):aT l ((0:Nat):Int)=true:=BN hs h
def iA (f:Nat→Int) (q:Nat→Bool) (L k:Nat):List Int:=(List.range L).map fun j=>if (decide (j<k) && q j)=true then f j else 0
section Tk
variable {f:Nat→Int} {q:Nat→Bool} {L k:Nat}
theorem IT:(iA f q L k).length=L:=by simp [iA]
theorem IU:iA f q L 0=List.replicate L 0:=by
 refine List.ext_getElem (by simp [iA]) (fun i h1 h2=>?_)
 simp [iA]
theorem CR (h:q k=false):iA f q L (k+1)=iA f q L k:=by
 refine List.ext_getElem (by simp [iA]) (fun i h1 h2=>?_)
 simp -implicitDefEqProofs only [iA,List.getElem_map,List.getElem_range]
 by_cases e:i=k
 ·subst e;simp [h]
 ·have:decide (i<k+1)=decide (i<k):=by rw [Bool.eq_iff_iff];simp;omega
  rw [this]
theorem zi (h:q k=true) (hk:k<L):(iA f q L k).set k (f k)=iA f q L (k+1):=by
 refine List.ext_getElem (by simp [iA]) (fun i h1 h2=>?_)
 simp -implicitDefEqProofs only [List.getElem_set,iA,List.getElem_map,List.getElem_range]
 by_cases e:k=i
 ·subst e;simp [h]
 ·have:decide (i<k+1)=decide (i<k):=by rw [Bool.eq_iff_iff];simp;omega
  rw [if_neg e,this]
theorem zh {p:Nat} (h:q p=true) (hp:p<k) (hL:p<L):(iA f q L k).getD p 0=f p:=by
 simp [iA,List.getD_eq_getElem?_getD,hL,hp,h]
end Tk
def eR (q:Nat→Nat→Bool) (b L k:Nat):List (List U):=(List.range L).map fun p=>[.row (p+b) (bG (q p) k).length (bG (q p) k).length]
def fY (q:Nat→Nat→Bool) (L k:Nat):List (Option HB):=(List.range L).map fun p=>some (.row 1 (bG (q p) k).length (ah (aS (bq (bG (q p) k)))))
section RX
variable {q:Nat→Nat→Bool} {b L k:Nat}
theorem yY:(eR q b L k).length=L:=by simp [eR]
theorem oW:(fY q L k).length=L:=by simp [fY]
theorem Ik {p:Nat} (hp:p<L):(eR q b L k)[p]?.getD []=[.row (p+b) (bG (q p) k).length (bG (q p) k).length]:=by simp [eR,hp]
theorem Ih {p:Nat} {C:List (Option HB)} (hp:p<L):ag (fY q L k++C) p=some (.row 1 (bG (q p) k).length (ah (aS (bq (bG (q p) k))))):=by
 unfold ag
 rw [List.getElem?_append_left (by rw [oW];exact hp)]
 simp [fY,hp]
theorem Im:eR q b L 0=dS b L L:=by
 refine List.ext_getElem (by simp [eR,dS]) (fun i h1 h2=>?_)
 simp [eR] at h1
 simp [eR,dS,Io,h1];omega
theorem Ij:fY q L 0=eg L 1:=by
 refine List.ext_getElem (by simp [fY,eg]) (fun i h1 h2=>?_)
 simp [fY,eg,Io,bq,aS,ah]
theorem yZ (h:∀ p,p<L→q p k=false):eR q b L (k+1)=eR q b L k:=by
 refine List.ext_getElem (by simp [eR]) (fun i h1 h2=>?_)
 simp [eR] at h1
 simp [eR,zb,h i h1]
theorem yX (h:∀ p,p<L→q p k=false):fY q L (k+1)=fY q L k:=by
 refine List.ext_getElem (by simp [fY]) (fun i h1 h2=>?_)
 simp [fY] at h1
 simp [fY,zb,h i h1]
theorem Il {u:Nat} (hu:q u k=true) (h:∀ p,p<L→p≠u→q p k=false):(eR q b L k).set u [.row (u+b) ((bG (q u) k).length+1) ((bG (q u) k).length+1)]=eR q b L (k+1):=by
 refine List.ext_getElem (by simp [eR]) (fun i h1 h2=>?_)
 simp [eR] at h2
 simp -implicitDefEqProofs only [List.getElem_set,eR,List.getElem_map,List.getElem_range,zb]
 by_cases e:u=i
 ·subst e;simp [hu]
 ·rw [if_neg e,h i h2 (Ne.symm e)];simp
theorem Ii {u:Nat} (hu:q u k=true) (h:∀ p,p<L→p≠u→q p k=false) :
 (fY q L k).set u (some (.row 1 ((bG (q u) k).length+1) (ah (aS (bq (bG (q u) k)++[(k:Int)])))))=fY q L (k+1):=by
 refine List.ext_getElem (by simp [fY]) (fun i h1 h2=>?_)
 simp [fY] at h2
 simp -implicitDefEqProofs only [List.getElem_set,fY,List.getElem_map,List.getElem_range,zb]
 by_cases e:u=i
 ·subst e;simp [hu,bq]
 ·rw [if_neg e,h i h2 (Ne.symm e)];simp
end RX
def eA (q:Nat→Nat→Bool) (L:Nat):List (List RV):=(List.range L).map fun p=>[.sl 1 (aS (bq (bG (q p) L)))]
theorem BP {l:List Nd} {k p:Nat} (h:aT l k=false∨cY l k=true):cA l p k=false:=by
 unfold cA
 rcases h with h | h
 ·have:dU l k = -1:=by simp [dU,h]
  rw [this];simp
 ·rw [xA h]
  by_cases e:k=p
  ·simp [e]
  ·have:((k:Int) ==(p:Int))=false:=by simp;omega
   simp [this]
theorem yJ {l:List Nd} {k p:Nat} (h:cY l k=false∨k=0):cu l p k=false:=by
 unfold cu
 rcases h with h | rfl
 ·simp [h]
 ·by_cases e:(0:Nat)=p
  ·simp [e]
  ·by_cases hm:aT l ((0:Nat):Int)=true
   ·have hc:eG l ((0:Nat):Int) = -1:=by
     simp -implicitDefEqProofs only [eG,hm,if_true]
     have:dO l ((0:Nat):Int)=[]:=by simp [dO,yP]
     rw [this];rfl
    rw [hc];simp
   ·have:cY l ((0:Nat):Int)=false:=by
     cases h:cY l ((0:Nat):Int) with
     | false=>rfl
     | true=>exact absurd (gQ h) hm
    rw [this];simp
theorem Qp {l:List Nd} {k u:Nat} (hl:cY l k=false) (hg:dU l k=u) (pU:cY l u=true):cA l u k=true∧∀ p,p≠u→cA l p k=false:=by
 have hne:k≠u:=fun e=>by subst e;rw [hl] at pU;simp at pU
 refine ⟨by simp [cA,hg,hne],fun p hp=>?_⟩
 have:((u:Int) ==(p:Int))=false:=by simp;omega
 simp [cA,hg,this]
theorem QV {l:List Nd} {k u:Nat} (hl:cY l k=true) (hg:eG l k=u) (hne:u≠k):cu l u k=true∧∀ p,p≠u→cu l p k=false:=by
 refine ⟨by simp [cu,hg,hl,Ne.symm hne],fun p hp=>?_⟩
 have:((u:Int) ==(p:Int))=false:=by simp;omega
 simp [cu,hg,this]
end Go.ay

namespace Go.ay
open Go
theorem Pn:bC Go.Proofs.Try.prog 70 126 (fc Go.Proofs.Try.prog 70 126 []) []:=bP (by kernel_rfl)
theorem Aa {l:List Nd} (hs:cP l) {m:Nat} (h0:0<m) (dV:aT l m=true):∃ u,u<l.length∧eG l m=(u:Nat)∧dB l u=true∧u≠m:=by
 have hm:m<l.length:=by simp [aT,dD] at dV;exact dV.1
 have hf:dB l ((0:Nat):Int)=true:=by simp [dB,cY,BN hs dV]
 have hv:eG l m=gM (dB l) (dO l m):=by simp [eG,dV]
 have hz:0∈dO l m:=by
  have:=wA hs m m (by omega) hm
  obtain ⟨r,hr⟩:=tS (l:=l) (n:=m)
  simp -implicitDefEqProofs only [dO,oR hm,if_true,Int.toNat_natCast]
  rw [hr] at this ⊢
  simp at this ⊢
  rcases this with h | h
  ·omega
  ·exact h
 rcases uP (dB l) (dO l m) with ⟨_,h1⟩ | ⟨i,hi,h1,h2,_⟩
 ·have:=h1 0 hz
  rw [hf] at this;simp at this
 ·obtain ⟨a,b,c⟩:=Tw hs (List.getElem_mem hi)
  exact ⟨_,c,by rw [hv,h1],h2,by omega⟩
def fF (l:List Nd) (k:Nat):List Int:=iA (fun j=>dU l j) (fun j=>aT l j) l.length k
def eT (l:List Nd) (k:Nat):List Int:=iA (fun j=>eG l j) (fun j=>decide (0<j) && aT l j) l.length k
theorem GA {l:List Nd} {k:Nat}:(fF l k).length=l.length:=IT
theorem Ec {l:List Nd} {k:Nat}:(eT l k).length=l.length:=IT
def js (l:List Nd) (k:Nat):List (List U):=eR (cA l) 5 l.length k
def jt (l:List Nd) (k:Nat):List (List U):=eR (cu l) (5+l.length) l.length k
def eN (l:List Nd) (k:Nat):List (Option HB):=fY (cA l) l.length k++fY (cu l) l.length k
section
variable {l:List Nd} {k:Nat}
theorem GS:(js l k).length=l.length:=yY
theorem Hy:(jt l k).length=l.length:=yY
theorem Qj {p:Nat} (hp:p<l.length):(js l k)[p]?.getD []=[.row (p+5) (bG (cA l p) k).length (bG (cA l p) k).length]:=Ik hp
theorem QO {p r:Nat} (hp:p<l.length) (hr:r=p+l.length):(jt l k)[p]?.getD []=[.row (r+5) (bG (cu l p) k).length (bG (cu l p) k).length]:=by
 subst hr
 rw [show p+l.length+5=p+(5+l.length) by omega]
 exact Ik hp
variable {N:Nat}
theorem rB:(eN l k).length=l.length+l.length:=by unfold eN;rw [List.length_append,oW,oW]
theorem Di {p:Nat} {C:List (Option HB)} (hp:p<l.length):ag (eN l k++C) p=some (.row 1 (bG (cA l p) k).length (ah (aS (bq (bG (cA l p) k))))):=by
 unfold eN
 rw [List.append_assoc]
 exact Ih hp
theorem Dj {p r:Nat} {C:List (Option HB)} (hp:p<l.length) (hr:r=p+l.length):ag (eN l k++C) r=some (.row 1 (bG (cu l p) k).length (ah (aS (bq (bG (cu l p) k))))):=by
 subst hr
 unfold eN
 rw [List.append_assoc]
 have:=Ih (q:=cu l) (L:=l.length) (k:=k) (C:=C) hp
 unfold ag at this ⊢
 rw [List.getElem?_append_right (by rw [oW];omega),oW,Nat.add_sub_cancel]
 exact this
theorem Js (hN:N=l.length+l.length) {x:Option HB} {C:List (Option HB)}:ag (eN l k++x::C) N=x:=by
 subst hN
 unfold ag
 rw [List.getElem?_append_right (by rw [rB];exact Nat.le_refl _),rB]
 simp
theorem Jt (hN:N=l.length+l.length) {r:Nat} {hb x:Option HB} {C:List (Option HB)}:ag ((eN l k).set r hb++x::C) N=x:=by
 subst hN
 unfold ag
 rw [List.getElem?_append_right (by rw [List.length_set,rB];exact Nat.le_refl _),List.length_set,rB]
 simp
theorem Dk (hN:N=l.length+l.length) {r:Nat} {y:Option HB} {C:List (Option HB)} (hr:r<N):(eN l k++C).set r y=(eN l k).set r y++C:=by
 subst hN
 rw [List.set_append_left _ _ (by rw [rB];exact hr)]
theorem Dl (h1:∀ p,cA l p k=false) (h2:∀ p,cu l p k=false):eN l (k+1)=eN l k∧js l (k+1)=js l k∧jt l (k+1)=jt l k:=by
 refine ⟨?_,yZ fun p _=>h1 p,yZ fun p _=>h2 p⟩
 unfold eN;rw [yX fun p _=>h1 p,yX fun p _=>h2 p]
theorem Ju {u:Nat} (pU:u<l.length) (hu:cA l u k=true) (h1:∀ p,p≠u→cA l p k=false) (h2:∀ p,cu l p k=false) :
 (eN l k).set u (some (.row 1 ((bG (cA l u) k).length+1) (ah (aS (bq (bG (cA l u) k)++[(k:Int)])))))=eN l (k+1)∧(js l k).set u [.row (u+5) ((bG (cA l u) k).length+1) ((bG (cA l u) k).length+1)]=js l (k+1)∧jt l (k+1)=jt l k:=by
 refine ⟨?_,Il hu fun p _ hp=>h1 p hp,yZ fun p _=>h2 p⟩
 unfold eN
 rw [List.set_append_left _ _ (by rw [oW];exact pU),Ii hu fun p _ hp=>h1 p hp,yX fun p _=>h2 p]
theorem Jv {u r:Nat} (pU:u<l.length) (hr:r=u+l.length) (hu:cu l u k=true) (h1:∀ p,p≠u→cu l p k=false) (h2:∀ p,cA l p k=false) :
 (eN l k).set r (some (.row 1 ((bG (cu l u) k).length+1) (ah (aS (bq (bG (cu l u) k)++[(k:Int)])))))=eN l (k+1)∧(jt l k).set u [.row (r+5) ((bG (cu l u) k).length+1) ((bG (cu l u) k).length+1)]=jt l (k+1)∧js l (k+1)=js l k:=by
 subst hr
 refine ⟨?_,?_,yZ fun p _=>h2 p⟩
 ·unfold eN
  rw [List.set_append_right _ _ (by rw [oW];omega),oW,Nat.add_sub_cancel,Ii hu fun p _ hp=>h1 p hp,yX fun p _=>h2 p]
 ·rw [show u+l.length+5=u+(5+l.length) by omega]
  exact Il hu fun p _ hp=>h1 p hp
end
def vX (l:List Nd) (bx:List Bx) (cl:List Rc) (k:Nat):List (Option HB):=some (.var [.rv (cq l),.rv (.sl 21 (cJ bx)),.rv (.sl 4 (cL cl)),.row 1 0 l.length,.row 2 0 l.length,.rv .bZ])::some (.row 1 0 (js l k))::some (.row 1 0 (jt l k))::some (.row 1 0 (ah (aS (fF l k))))::some (.row 1 0 (ah (aS (eT l k))))::eN l k
theorem Cy {l:List Nd} {bx:List Bx} {cl:List Rc} {k:Nat}:(vX l bx cl k).length=l.length+l.length+5:=by simp [vX,rB]
theorem RT {l:List Nd} {bx:List Bx} {cl:List Rc} {k:Nat}:jz (ox (l.length+l.length+5)) (vX l bx cl k):=by
 refine ⟨by simp [ox,iO,fq,gh],fun i x hx=>?_,fun i x hx=>?_,cg,cg,jz.of fun j x hx=>?_⟩
 ·obtain ⟨hl,rfl⟩:=List.getElem?_eq_some_iff.1 hx
  simp [GS] at hl
  simp [js,eR,iO,fq];omega
 ·obtain ⟨hl,rfl⟩:=List.getElem?_eq_some_iff.1 hx
  simp [Hy] at hl
  simp [jt,eR,iO,fq];omega
 ·unfold eN at hx
  obtain ⟨hl,rfl⟩:=List.getElem?_eq_some_iff.1 hx
  by_cases h:j<l.length
  ·exact ⟨.row 1 (bG (cA l j) k).length (ah (aS (bq (bG (cA l j) k)))),by rw [List.getElem_append_left (by rw [oW];exact h)];simp [fY],cg⟩
  ·exact ⟨.row 1 (bG (cu l (j - l.length)) k).length (ah (aS (bq (bG (cu l (j - l.length)) k)))),by rw [List.getElem_append_right (by rw [oW];omega)];simp [fY],cg⟩
theorem yV {l:List Nd} {bx:List Bx} {cl:List Rc} {k:Nat} {env env':List (Nat×U)} {C:List (Option HB)} (he:eM (l.length+l.length+5) env env'):cV 1 ⟨env,vX l bx cl k++C⟩ ⟨env',vX l bx cl k⟩:=
 kg (by rw [Cy];omega) (by rw [Cy];exact RT) (by rw [Cy];exact he)
theorem SJ (l:List Nd) (hs:cP l) (hb:l.length≤1000) (bx:List Bx) (cl:List Rc) (i:Nat) :
 aP Go.Proofs.Try.prog 70 [.ptr i 0] [(i,.var [.rv (cq l),.rv (.sl 21 (cJ bx)),.rv (.sl 4 (cL cl)),.rv .bZ,.rv .bZ,.rv .bZ])]
  [(i,.var [.rv (cq l),.rv (.sl 21 (cJ bx)),.rv (.sl 4 (cL cl)),.rv (.sl 1 (eA (cA l) l.length)),.rv (.sl 1 (eA (cu l) l.length)),.rv .bZ])] (.aR []):=by
 refine eY Pn [i] [.var [.rv (cq l),.rv (.sl 21 (cJ bx)),.rv (.sl 4 (cL cl)),.rv .bZ,.rv .bZ,.rv .bZ]] [.var [.rv (cq l),.rv (.sl 21 (cJ bx)),.rv (.sl 4 (cL cl)),.rv .bZ,.rv .bZ,.rv .bZ]] [.ptr 0 0] [.ptr i 0] _ _ (by simp) (by simp [aW,eB]) rfl (by simp [aQ]) (by simp [cI,aW,bD]) (fun K hK=>?_)
 conv in fc _ _ _ _=>reduce
 simp -implicitDefEqProofs only [go_sem,Int.reduceNegSucc]
 have bY:=ud l;repeat' (first | (simp -implicitDefEqProofs only [go_sem,Int.reduceNegSucc,yU]) | (with_reducible refine aC ?_) | (with_reducible first | refine aM bY ?_ | refine aN bY ?_) | ((first | refine ak (fun hg=>?_) (fun hg=>?_) | refine aI (fun hg=>?_) (fun hg=>?_) | refine aJ (fun hg=>?_) (fun hg=>?_)) <;> try simp -implicitDefEqProofs only [hg,Bool.not_true,Bool.not_false]) | ((with_reducible apply And.intro);focus (first | trivial | omega | decide | (simp -implicitDefEqProofs only [maxLen];omega) | (simp [maxLen,aj,aq,ax,aG,av,aF,aE] <;> omega))) | fail)
 refine dm (ι:=Nat) (fun k=>[(27,.rv (.int .i64 k)),(26,.rv (.int .i64 l.length)),(3,.row 3 0 l.length),(4,.row 4 0 l.length),(0,.ptr 0 0)]) (fun k=>some (.var [.rv (cq l),.rv (.sl 21 (cJ bx)),.rv (.sl 4 (cL cl)),.row 1 0 l.length,.row 2 0 l.length,.rv .bZ])::some (.row 1 0 (js l k))::some (.row 1 0 (jt l k))::some (.row 1 0 (ah (aS (fF l k))))::some (.row 1 0 (ah (aS (eT l k))))::eN l k) (fun k=>k≤l.length) (fun k=>l.length - k) 0 (by simp) ?_ (fun k hk K' hN hX hR=>?_)
 ·refine (bB (env':=[(27,.rv (.int .i64 0)),(26,.rv (.int .i64 l.length)),(3,.row 3 0 l.length),(4,.row 4 0 l.length),(0,.ptr 0 0)]) (by simp [lk])).trans ?_
  refine (xh (r:=1) (v:=0) (n:=l.length) (e:=1) rfl).trans ?_
  refine (xh (r:=2) (v:=0) (n:=l.length) (e:=1) rfl).trans ?_
  have e1:js l 0=dS 5 l.length l.length:=Im
  have e2:jt l 0=dS (5+l.length) l.length l.length:=Im
  have e3:eN l 0=eg l.length 1++eg l.length 1:=by unfold eN;rw [Ij,Ij]
  have e4:fF l 0=List.replicate l.length 0:=IU
  have e5:eT l 0=List.replicate l.length 0:=IU
  rw [e1,e2,e3,e4,e5]
  simp -implicitDefEqProofs only [List.length_append,List.length_cons,List.length_nil,List.length_set,eg,List.length_replicate]
  simp [cK]
 simp -implicitDefEqProofs only [go_sem,Int.reduceNegSucc]
 refine ak (fun hg=>?_) (fun hg=>?_)
 ·have aA:k<l.length:=by simp at hg;omega
  have wu:=dr (k:=k) (by omega)
  have dV:=ze l k
  have uT:=GA (l:=l) (k:=k)
  have uU:=av (fF l k)
  have uR:=Ec (l:=l) (k:=k)
  have xC:=av (eT l k)
  have uS:=ff (l:=fF l k) (i:=k) (by omega)
  have xB:=ff (l:=eT l k) (i:=k) (by omega)
  cases hm:aT l k with
  | false=>
    rw [hm] at dV
    have y_2:=dV;repeat' (first | (simp -implicitDefEqProofs only [go_sem,Int.reduceNegSucc,wu]) | (with_reducible refine aC ?_) | (with_reducible first | refine aM y_2 ?_ | refine aN y_2 ?_) | ((first | refine ak (fun hg=>?_) (fun hg=>?_) | refine aI (fun hg=>?_) (fun hg=>?_) | refine aJ (fun hg=>?_) (fun hg=>?_)) <;> try simp -implicitDefEqProofs only [hg,Bool.not_true,Bool.not_false]) | ((with_reducible apply And.intro);focus (first | trivial | omega | decide | (simp -implicitDefEqProofs only [maxLen];omega) | (simp [maxLen,aj,aq,ax,aG,av,aF,aE] <;> omega))) | fail)
    refine hN (k+1) _ _ (by omega) (by omega) ?_
    have hle:cY l k=false:=by
     cases h:cY l k with
     | false=>rfl
     | true=>rw [gQ h] at hm;cases hm
    obtain ⟨a1,a2,a3⟩:=Dl (l:=l) (k:=k) (fun p=>BP (.inl hm)) (fun p=>yJ (.inl hle))
    have a4:fF l (k+1)=fF l k:=CR hm
    have a5:eT l (k+1)=eT l k:=CR (by simp [hm])
    rw [a1,a2,a3,a4,a5]
    exact bB (by simp [lk])
  | true=>
    rw [hm] at dV
    have oN:=Ix l k
    have tB:=Sn l k
    have fe:tM l k=aU l k:=by simp [tM,oR aA]
    by_cases dw:0<k
    ·have hgt:decide ((k:Int)>0)=true:=decide_eq_true (by omega)
     obtain ⟨p,hp,hpk,kZ⟩:=Ca hs dw aA hm
     obtain ⟨N,uV⟩:∃ N,N=l.length+l.length:=⟨_,rfl⟩
     have jJ:=rB (l:=l) (k:=k)
     rw [← uV] at jJ
     have hfr:=Iw l p
     rw [fe,hp] at tB
     have tf:=ff (l:=eT l k) (i:=p) (by omega)
     have AA:=ff (l:=fF l k) (i:=p) (by omega)
     have xQ:=fun (x:Option HB) C=>Js (l:=l) (k:=k) (N:=N) uV (x:=x) (C:=C)
     have xR:=fun (r:Nat) (hb x:Option HB) C=>Jt (l:=l) (k:=k) (N:=N) uV (r:=r) (hb:=hb) (x:=x) (C:=C)
     have xJ:=KK hs dw aA hm hp
     obtain ⟨u,pU,xK,TX,Nw⟩:=Aa hs dw hm
     have Bn:(eT l k).set k (u:Int)=eT l (k+1):=by rw [← xK];exact zi (f:=fun j=>eG l j) (q:=fun j=>decide (0<j) && aT l j) (by simp [dw,hm]) aA
     have ER:(eT l (k+1)).length=l.length:=Ec
     have ES:=av (eT l (k+1))
     have Ax:=ff (l:=eT l (k+1)) (i:=k) (by omega)
     have Mo:(eT l (k+1)).getD k 0=(u:Int):=by rw [← xK];exact zh (f:=fun j=>eG l j) (q:=fun j=>decide (0<j) && aT l j) (by simp [dw,hm]) (by omega) aA
     rw [Mo] at Ax
     have AB:∀ z:Int,((eT l k).set k z).length=l.length:=fun z=>by simp [uR]
     have EY:=fun z:Int=>av ((eT l k).set k z)
     have EZ:∀ z:Int,(aS ((eT l k).set k z))[k]?.getD []=[.int .i64 z]:=fun z=>by
      rw [ff (by rw [AB];exact aA),List.getD_eq_getElem?_getD,List.getElem?_set_self (by omega)];rfl
     have EX:∀ z:Int,((eT l k).set k z).set k (u:Int)=eT l (k+1):=fun z=>by rw [List.set_set];exact Bn
     have Fj:dB l p=false→(eT l k).getD p 0=(u:Int):=fun hf=>by
      rw [hf] at xJ
      simp -implicitDefEqProofs only [Bool.false_eq_true,if_false] at xJ
      have gl:0<p:=by
       apply Nat.pos_of_ne_zero
       rintro rfl
       have:=uO (l:=l) (by simpa using GY hs hm)
       simp at hf
       rw [this] at hf;cases hf
      rw [← xK,xJ]
      exact zh (f:=fun j=>eG l j) (q:=fun j=>decide (0<j) && aT l j) (by simp [gl,kZ]) hpk (by omega)
     have Fk:dB l p=true→p=u:=fun hf=>by
      rw [hf,if_pos rfl] at xJ
      omega
     cases hle:cY l k with
     | true=>
       rw [hle] at oN
       have oJ:dU l k=k:=xA hle
       have vq:(fF l k).set k (k:Int)=fF l (k+1):=by
        have:=zi (f:=fun j=>dU l j) (q:=fun j=>aT l j) (L:=l.length) (k:=k) hm aA
        rw [oJ] at this;exact this
       obtain ⟨r,hr⟩:∃ r,r=u+l.length:=⟨_,rfl⟩
       have Bi:r<N:=by omega
       obtain ⟨o1,o2⟩:=QV hle xK Nw
       obtain ⟨a1,a2,a3⟩:=Jv pU hr o1 o2 (fun p=>BP (.inr hle))
       have eE:=Hy (l:=l) (k:=k)
       have vn:=QO (k:=k) pU hr
       have vo:=fun C=>Dj (k:=k) (C:=C) pU hr
       have hsp:=fun (y:Option HB) C=>Dk (l:=l) (k:=k) uV (y:=y) (C:=C) Bi
       have q0:(r=N)=False:=eq_false (by omega)
       have q1:(r=N+1)=False:=eq_false (by omega)
       have q2:(r=N+2)=False:=eq_false (by omega)
       have cX:(bq (bG (cu l u) k)).length=(bG (cu l u) k).length:=by simp [bq]
       have ig:=av (bq (bG (cu l u) k))
       have fR:(aS (bq (bG (cu l u) k))).take (bG (cu l u) k).length=aS (bq (bG (cu l u) k)):=List.take_of_length_le (by omega)
       have hkk:=za (q:=cu l u) (k:=k)
       cases hf:dB l p with
       | true=>
         have Be:=Fk hf
         subst Be
         rw [hf] at hfr
         have di:=dV;have dH:=tB;have dX:=hfr;have eS:=oN;repeat' (first | (simp -implicitDefEqProofs only [go_sem,Int.reduceNegSucc,hgt,uR,xC,tf,xB,iu,AB,EY,EZ,EX,uT,uU,uS,vq,eE,ER,ES,Ax,vn,jJ,xQ,xR,vo,hsp,List.append_assoc,q0,q1,q2,cX,ig,fR,qR,a1,a2,wu]) | (with_reducible refine aC ?_) | (with_reducible first | refine aM di ?_ | refine aN di ?_) | (with_reducible first | refine aM dH ?_ | refine aN dH ?_) | (with_reducible first | refine aM dX ?_ | refine aN dX ?_) | (with_reducible first | refine aM eS ?_ | refine aN eS ?_) | ((first | refine ak (fun hg=>?_) (fun hg=>?_) | refine aI (fun hg=>?_) (fun hg=>?_) | refine aJ (fun hg=>?_) (fun hg=>?_)) <;> try simp -implicitDefEqProofs only [hg,Bool.not_true,Bool.not_false]) | ((with_reducible apply And.intro);focus (first | trivial | omega | decide | (simp -implicitDefEqProofs only [maxLen];omega) | (simp [maxLen,aj,aq,ax,aG,av,aF,aE] <;> omega) | (simp (decide:=true) [jd,kf,gV,jC,Nat.testBit,q0,q1,q2];done))) | fail)
         rw [← a3]
         exact hN (k+1) _ _ (by omega) (by omega) (yV (l:=l) (bx:=bx) (cl:=cl) (k:=k+1) (by simp [eM,lk,gh,oD,fq]))
       | false=>
         rw [hf] at hfr
         have rQ:=Fj hf
         rw [rQ] at tf
         have fB:=dV;have gu:=tB;have iB:=hfr;have jy:=oN;repeat' (first | (simp -implicitDefEqProofs only [go_sem,Int.reduceNegSucc,hgt,uR,xC,tf,xB,iu,Bn,uT,uU,uS,vq,eE,ER,ES,Ax,vn,jJ,xQ,xR,vo,hsp,List.append_assoc,q0,q1,q2,cX,ig,fR,qR,a1,a2,wu]) | (with_reducible refine aC ?_) | (with_reducible first | refine aM fB ?_ | refine aN fB ?_) | (with_reducible first | refine aM gu ?_ | refine aN gu ?_) | (with_reducible first | refine aM iB ?_ | refine aN iB ?_) | (with_reducible first | refine aM jy ?_ | refine aN jy ?_) | ((first | refine ak (fun hg=>?_) (fun hg=>?_) | refine aI (fun hg=>?_) (fun hg=>?_) | refine aJ (fun hg=>?_) (fun hg=>?_)) <;> try simp -implicitDefEqProofs only [hg,Bool.not_true,Bool.not_false]) | ((with_reducible apply And.intro);focus (first | trivial | omega | decide | (simp -implicitDefEqProofs only [maxLen];omega) | (simp [maxLen,aj,aq,ax,aG,av,aF,aE] <;> omega) | (simp (decide:=true) [jd,kf,gV,jC,Nat.testBit,q0,q1,q2];done))) | fail)
         rw [← a3]
         exact hN (k+1) _ _ (by omega) (by omega) (yV (l:=l) (bx:=bx) (cl:=cl) (k:=k+1) (by simp [eM,lk,gh,oD,fq]))
     | false=>
       rw [hle] at oN
       obtain ⟨g,oJ,xN,MN⟩:=LU hs hm
       have xM:=LV hs dw aA hm hle hp
       have MQ:(fF l k).getD p 0=(g:Int):=by
        rw [← xN,xM]
        exact zh (f:=fun j=>dU l j) (q:=fun j=>aT l j) kZ hpk (by omega)
       rw [MQ] at AA
       have vq:(fF l k).set k (g:Int)=fF l (k+1):=by
        rw [← xN];exact zi (f:=fun j=>dU l j) (q:=fun j=>aT l j) (L:=l.length) (k:=k) hm aA
       have EU:(fF l (k+1)).length=l.length:=GA
       have EV:=av (fF l (k+1))
       have Ay:=ff (l:=fF l (k+1)) (i:=k) (by omega)
       have Ms:(fF l (k+1)).getD k 0=(g:Int):=by rw [← xN];exact zh (f:=fun j=>dU l j) (q:=fun j=>aT l j) hm (by omega) aA
       rw [Ms] at Ay
       have Bi:g<N:=by omega
       obtain ⟨o1,o2⟩:=Qp hle xN MN
       obtain ⟨a1,a2,a3⟩:=Ju oJ o1 o2 (fun p=>yJ (.inl hle))
       have eE:=GS (l:=l) (k:=k)
       have vn:=Qj (k:=k) oJ
       have vo:=fun C=>Di (k:=k) (C:=C) oJ
       have hsp:=fun (y:Option HB) C=>Dk (l:=l) (k:=k) uV (y:=y) (C:=C) Bi
       have q0:(g=N)=False:=eq_false (by omega)
       have q1:(g=N+1)=False:=eq_false (by omega)
       have q2:(g=N+2)=False:=eq_false (by omega)
       have cX:(bq (bG (cA l g) k)).length=(bG (cA l g) k).length:=by simp [bq]
       have ig:=av (bq (bG (cA l g) k))
       have fR:(aS (bq (bG (cA l g) k))).take (bG (cA l g) k).length=aS (bq (bG (cA l g) k)):=List.take_of_length_le (by omega)
       have hkk:=za (q:=cA l g) (k:=k)
       cases hf:dB l p with
       | true=>
         have Be:=Fk hf
         subst Be
         rw [hf] at hfr
         have ot:=dV;have ou:=tB;have ov:=hfr;have ow:=oN;repeat' (first | (simp -implicitDefEqProofs only [go_sem,Int.reduceNegSucc,hgt,uR,xC,tf,xB,iu,AB,EY,EZ,EX,uT,uU,uS,AA,vq,EU,EV,Ay,eE,vn,jJ,xQ,xR,vo,hsp,List.append_assoc,q0,q1,q2,cX,ig,fR,qR,a1,a2,wu]) | (with_reducible refine aC ?_) | (with_reducible first | refine aM ot ?_ | refine aN ot ?_) | (with_reducible first | refine aM ou ?_ | refine aN ou ?_) | (with_reducible first | refine aM ov ?_ | refine aN ov ?_) | (with_reducible first | refine aM ow ?_ | refine aN ow ?_) | ((first | refine ak (fun hg=>?_) (fun hg=>?_) | refine aI (fun hg=>?_) (fun hg=>?_) | refine aJ (fun hg=>?_) (fun hg=>?_)) <;> try simp -implicitDefEqProofs only [hg,Bool.not_true,Bool.not_false]) | ((with_reducible apply And.intro);focus (first | trivial | omega | decide | (simp -implicitDefEqProofs only [maxLen];omega) | (simp [maxLen,aj,aq,ax,aG,av,aF,aE] <;> omega) | (simp (decide:=true) [jd,kf,gV,jC,Nat.testBit,q0,q1,q2];done))) | fail)
         rw [← a3]
         exact hN (k+1) _ _ (by omega) (by omega) (yV (l:=l) (bx:=bx) (cl:=cl) (k:=k+1) (by simp [eM,lk,gh,oD,fq]))
       | false=>
         rw [hf] at hfr
         have rQ:=Fj hf
         rw [rQ] at tf
         have qZ:=dV;have ri:=tB;have rj:=hfr;have rm:=oN;repeat' (first | (simp -implicitDefEqProofs only [go_sem,Int.reduceNegSucc,hgt,uR,xC,tf,xB,iu,Bn,uT,uU,uS,AA,vq,EU,EV,Ay,eE,vn,jJ,xQ,xR,vo,hsp,List.append_assoc,q0,q1,q2,cX,ig,fR,qR,a1,a2,wu]) | (with_reducible refine aC ?_) | (with_reducible first | refine aM qZ ?_ | refine aN qZ ?_) | (with_reducible first | refine aM ri ?_ | refine aN ri ?_) | (with_reducible first | refine aM rj ?_ | refine aN rj ?_) | (with_reducible first | refine aM rm ?_ | refine aN rm ?_) | ((first | refine ak (fun hg=>?_) (fun hg=>?_) | refine aI (fun hg=>?_) (fun hg=>?_) | refine aJ (fun hg=>?_) (fun hg=>?_)) <;> try simp -implicitDefEqProofs only [hg,Bool.not_true,Bool.not_false]) | ((with_reducible apply And.intro);focus (first | trivial | omega | decide | (simp -implicitDefEqProofs only [maxLen];omega) | (simp [maxLen,aj,aq,ax,aG,av,aF,aE] <;> omega) | (simp (decide:=true) [jd,kf,gV,jC,Nat.testBit,q0,q1,q2];done))) | fail)
         rw [← a3]
         exact hN (k+1) _ _ (by omega) (by omega) (yV (l:=l) (bx:=bx) (cl:=cl) (k:=k+1) (by simp [eM,lk,gh,oD,fq]))
    ·obtain rfl:k=0:=by omega
     have hgt:decide (((0:Nat):Int)>0)=false:=rfl
     have hlt:cY l ((0:Nat):Int)=true:=GB hm
     rw [hlt] at oN
     have oJ:dU l ((0:Nat):Int)=((0:Nat):Int):=xA hlt
     have rZ:(fF l 0).set 0 ((0:Nat):Int)=fF l (0+1):=by rw [← oJ];exact zi (f:=fun j=>dU l j) hm aA
     have wz:=dV;have Jp:=tB;have Jq:=oN;repeat' (first | (simp -implicitDefEqProofs only [go_sem,Int.reduceNegSucc,hgt,uT,uU,uS,iu,rZ,wu]) | (with_reducible refine aC ?_) | (with_reducible first | refine aM wz ?_ | refine aN wz ?_) | (with_reducible first | refine aM Jp ?_ | refine aN Jp ?_) | (with_reducible first | refine aM Jq ?_ | refine aN Jq ?_) | ((first | refine ak (fun hg=>?_) (fun hg=>?_) | refine aI (fun hg=>?_) (fun hg=>?_) | refine aJ (fun hg=>?_) (fun hg=>?_)) <;> try simp -implicitDefEqProofs only [hg,Bool.not_true,Bool.not_false]) | ((with_reducible apply And.intro);focus (first | trivial | omega | decide | (simp -implicitDefEqProofs only [maxLen];omega) | (simp [maxLen,aj,aq,ax,aG,av,aF,aE] <;> omega))) | fail)
     refine hN 1 _ _ (by omega) (by omega) ?_
     obtain ⟨a1,a2,a3⟩:=Dl (l:=l) (k:=0) (fun p=>BP (.inr hlt)) (fun p=>yJ (.inr rfl))
     have a5:eT l (0+1)=eT l 0:=CR (by simp)
     rw [a1,a2,a3,a5]
     exact bB (by simp [lk])
 ·have aA:k=l.length:=by simp at hg;omega
  subst aA
  simp -implicitDefEqProofs only [go_sem,Int.reduceNegSucc]
  refine hX _ _ _ ?_
  repeat' (first | (simp -implicitDefEqProofs only [go_sem,Int.reduceNegSucc]) | (with_reducible refine aC ?_) | ((first | refine ak (fun hg=>?_) (fun hg=>?_) | refine aI (fun hg=>?_) (fun hg=>?_) | refine aJ (fun hg=>?_) (fun hg=>?_)) <;> try simp -implicitDefEqProofs only [hg,Bool.not_true,Bool.not_false]) | ((with_reducible apply And.intro);focus (first | trivial | omega | decide | (simp -implicitDefEqProofs only [maxLen];omega) | (simp [maxLen,aj,aq,ax,aG,av,aF,aE] <;> omega))) | fail)
  refine (hK _ _ _ _ [] (cK _ _) ?_).1
  simp -implicitDefEqProofs only [cw,List.map_cons,List.map_nil,List.append_nil]
  have hfz:∀ (q:Nat→Nat→Bool) (j:Nat) (b:Nat) (h:Hp),h j=some (.row 1 0 (eR q b l.length l.length))→0<j→0<b→(∀ p,p<l.length→h (p+b)=some (.row 1 (bG (q p) l.length).length (ah (aS (bq (bG (q p) l.length))))))→Fz (cB [some i]) h (.row j 0 l.length) (.sl 1 (eA q l.length)):=fun q j b h hj h0 hb0 hr=>by
   refine .row j 1 0 l.length _ _ (by match j,h0 with | j+1,_=>rfl) hj (by simp [eA]) (by rw [yY];exact Nat.le_refl _) (fun i x r hx hr=>?_) (fun i r k q hr hq=>?_) (fun i' x r k y q' hx hr' hy hq=>?_)
   ·obtain ⟨_,rfl⟩:=List.getElem?_eq_some_iff.1 hx
    obtain ⟨_,rfl⟩:=List.getElem?_eq_some_iff.1 hr
    simp [eR,eA]
   ·obtain ⟨_,rfl⟩:=List.getElem?_eq_some_iff.1 hr
    have:=List.mem_of_getElem? hq
    simp [eA] at this
    rw [this];rfl
   ·obtain ⟨hl,rfl⟩:=List.getElem?_eq_some_iff.1 hx
    obtain ⟨_,rfl⟩:=List.getElem?_eq_some_iff.1 hr'
    rw [yY] at hl
    cases k with
    | succ k=>simp [eR] at hy
    | zero=>
      simp [eR] at hy
      simp [eA] at hq
      subst hy;subst hq
      exact kj (xs:=aS (bq (bG (q i') l.length))) (hr i' hl) (by obtain ⟨m,hm⟩:∃ m,i'+b=m+1:=⟨i'+b - 1,by omega⟩;rw [hm];rfl) (by simp [aS,bq]) (qG _)
  have f1:=hfz (cA l) 1 5 (ag (some (.var [.rv (cq l),.rv (.sl 21 (cJ bx)),.rv (.sl 4 (cL cl)),.row 1 0 l.length,.row 2 0 l.length,.rv .bZ])::some (.row 1 0 (js l l.length))::some (.row 1 0 (jt l l.length))::some (.row 1 0 (ah (aS (fF l l.length))))::some (.row 1 0 (ah (aS (eT l l.length))))::eN l l.length)) rfl (by decide) (by decide) (fun p hp=>by
   have:=Di (l:=l) (k:=l.length) (C:=[]) hp
   rw [List.append_nil] at this
   exact this)
  have f2:=hfz (cu l) 2 (5+l.length) (ag (some (.var [.rv (cq l),.rv (.sl 21 (cJ bx)),.rv (.sl 4 (cL cl)),.row 1 0 l.length,.row 2 0 l.length,.rv .bZ])::some (.row 1 0 (js l l.length))::some (.row 1 0 (jt l l.length))::some (.row 1 0 (ah (aS (fF l l.length))))::some (.row 1 0 (ah (aS (eT l l.length))))::eN l l.length)) rfl (by decide) (by omega) (fun p hp=>by
   have:=Dj (l:=l) (k:=l.length) (C:=[]) hp rfl
   rw [List.append_nil] at this
   rw [show p+(5+l.length)=(p+l.length)+5 by omega]
   exact this)
  refine ⟨by simp [aQ],trivial,⟨.head _,trivial⟩,⟨?_,trivial⟩,trivial,.aR _ _ rfl (fun i x y hx=>by simp [bO] at hx)⟩
  simp -implicitDefEqProofs only [bW,cj,if_true,List.zip_cons_cons,List.zip_nil_right]
  exact ⟨bh.2 rfl,bh.2 rfl,bh.2 rfl,.fz _ _ f1,.fz _ _ f2,bh.2 rfl,trivial⟩
end Go.ay

namespace Go.ay
open Go
theorem Ox:bC Go.Proofs.Try.prog 140 22 (fc Go.Proofs.Try.prog 140 22 [(.t 4)]) [(.t 4)]:=bP (by kernel_rfl)
structure aH where
 key:Int
 tie:Int
 n:Int
 deriving DecidableEq
def aH.cells (e:aH):List RV:=[.int .i64 e.key,.int .i64 e.tie,.int .i64 e.n]
def aH.sv (e:aH):U:=.agg [.rv (.int .i64 e.key),.rv (.int .i64 e.tie),.rv (.int .i64 e.n)]
def fP (x y:Int):Int:=if x<y then -1 else if x>y then 1 else 0
theorem IB (x:Int):aP Go.Proofs.Try.prog 145 [.rv (.int .i64 x)] [] [] (.rv (.bool false)):=by
 refine sR OG [.int .i64 x] _ (by simp) (fun K hK=>?_)
 conv in fc _ _ _ _=>reduce
 simp -implicitDefEqProofs only [go_sem,Int.reduceNegSucc,bw,br,bt,bu]
 refine (hK _ _ ?_).2
 simp [bF,bH,lk,bO,bh]
theorem IC (x:Int):aP Go.Proofs.Try.prog 144 [.rv (.int .i64 x)] [] [] (.rv (.bool false)):=by
 refine sR OH [.int .i64 x] _ (by simp) (fun K hK=>?_)
 conv in fc _ _ _ _=>reduce
 simp -implicitDefEqProofs only [go_sem,Int.reduceNegSucc,bw,br,bt,bu]
 refine (hK _ _ ?_).2
 simp [bF,bH,lk,bO,bh]
theorem Sx (x y:Int):aP Go.Proofs.Try.prog 143 [.rv (.int .i64 x),.rv (.int .i64 y)] [] [] (.rv (.int .i64 (fP x y))):=by
 refine sR OD [.int .i64 x,.int .i64 y] _ (by simp) (fun K hK=>?_)
 conv in fc _ _ _ _=>reduce
 simp -implicitDefEqProofs only [go_sem,Int.reduceNegSucc,bw,br,bt,bu]
 refine aM (IB x) ?_
 simp -implicitDefEqProofs only [go_sem,Int.reduceNegSucc,bw,br,bt,bu]
 refine aM (IB y) ?_
 simp -implicitDefEqProofs only [go_sem,Int.reduceNegSucc,bw,br,bt,bu]
 split
 ·refine (hK _ _ ?_).2
  simp [bF,bH,lk,bO,bh,fP, *]
 split
 ·refine (hK _ _ ?_).2
  simp [bF,bH,lk,bO,bh,fP, *]
 ·refine (hK _ _ ?_).2
  simp [bF,bH,lk,bO,bh,fP, *]
theorem IA (x y:Int):aP Go.Proofs.Try.prog 142 [.rv (.int .i64 x),.rv (.int .i64 y)] [] [] (.rv (.int .i64 (fP x y))):=by
 refine sR OE [.int .i64 x,.int .i64 y] _ (by simp) (fun K hK=>?_)
 conv in fc _ _ _ _=>reduce
 simp -implicitDefEqProofs only [go_sem,Int.reduceNegSucc,bw,br,bt,bu]
 refine aM (IC x) ?_
 simp -implicitDefEqProofs only [go_sem,Int.reduceNegSucc,bw,br,bt,bu]
 refine aM (IC y) ?_
 simp -implicitDefEqProofs only [go_sem,Int.reduceNegSucc,bw,br,bt,bu]
 split
 ·refine (hK _ _ ?_).2
  simp [bF,bH,lk,bO,bh,fP, *]
 split
 ·refine (hK _ _ ?_).2
  simp [bF,bH,lk,bO,bh,fP, *]
 ·refine (hK _ _ ?_).2
  simp [bF,bH,lk,bO,bh,fP, *]
def qF (ys:List Int):List (List RV):=ys.map fun n=>[.int .i64 n]
def jO:List Int→Int
 | []=>0
 | n::r=>if n≠0 then n else jO r
theorem QK {ys:List Int} {k:Nat} (hk:k<ys.length) (h0:∀ j,j<k→ys[j]?=some 0) (hn:ys[k]≠0):jO ys=ys[k]:=by
 induction ys generalizing k with
 | nil=>simp at hk
 | cons a r ih=>
   cases k with
   | zero=>simp at hn;simp [jO,hn]
   | succ k=>
     have:=h0 0 (by omega)
     simp at this
     subst this
     simp -implicitDefEqProofs only [jO,ne_eq,not_true_eq_false,↓reduceIte,List.getElem_cons_succ]
     exact ih (by simpa using hk) (fun j hj=>by simpa using h0 (j+1) (by omega)) (by simpa using hn)
theorem QL {ys:List Int} (h0:∀ j,j<ys.length→ys[j]?=some 0):jO ys=0:=by
 induction ys with
 | nil=>rfl
 | cons a r ih=>
   have:=h0 0 (by simp)
   simp at this
   subst this
   simp -implicitDefEqProofs only [jO,ne_eq,not_true_eq_false,↓reduceIte]
   exact ih (fun j hj=>by simpa using h0 (j+1) (by simpa using hj))
theorem Sy (ys:List Int) (hl:ys.length<1000000):aP Go.Proofs.Try.prog 141 [.rv (.sl 1 (qF ys))] [] [] (.rv (.int .i64 (jO ys))):=by
 have hlen:(qF ys).length=ys.length:=by simp [qF]
 refine sR OF [.sl 1 (qF ys)] _ (by simp) (fun K hK=>?_)
 conv in fc _ _ _ _=>reduce
 simp -implicitDefEqProofs only [hlen,go_sem,Int.reduceNegSucc,bw,br,bt,bu]
 refine dm (ι:=Nat) (fun k=>[(8,.rv (.int .i64 k)),(7,.rv (.int .i64 ys.length)),(6,.rv (.sl 1 (qF ys))),(3,.rv (.int .i64 0))]) (fun _=>[]) (fun k=>k≤ys.length∧∀ j,j<k→ys[j]?=some 0) (fun k=>ys.length - k) 0 (by simp) (bB (by simp [lk])) (fun k hk K' hn he hr=>?_)
 simp -implicitDefEqProofs only [hlen,go_sem,Int.reduceNegSucc,bw,br,bt,bu]
 split
 ·rename_i hlt
  have cX:k<ys.length:=by omega
  have hx:(qF ys)[k]?.getD []=[.int .i64 ys[k]]:=by simp [qF,cX]
  simp -implicitDefEqProofs only [hx,hlen,go_sem,Int.reduceNegSucc,bw,br,bt,bu]
  refine ⟨by omega,?_⟩
  by_cases h0:ys[k]=0
  ·simp -implicitDefEqProofs only [h0,go_sem,Int.reduceNegSucc,bw,br,bt,bu]
   refine aC ?_
   simp -implicitDefEqProofs only [go_sem,Int.reduceNegSucc,bw,br,bt,bu]
   rw [wrap_i64 (by omega) (by omega)]
   refine hn (k+1) _ _ ⟨by omega,fun j hj=>?_⟩ (by omega) (bB (by simp [lk]))
   by_cases tn:j=k
   ·subst tn;rw [List.getElem?_eq_getElem cX,h0]
   ·exact hk.2 j (by omega)
  ·have hb:(ys[k] != 0)=true:=by simp [h0]
   simp -implicitDefEqProofs only [hb,go_sem,Int.reduceNegSucc,bw,br,bt,bu]
   refine hr _ _ ((hK _ _ ?_).2)
   simp [bF,bH,lk,bO,bh,QK cX hk.2 h0]
 ·rename_i hge
  refine he _ _ _ ?_
  simp -implicitDefEqProofs only [go_sem,Int.reduceNegSucc,bw,br,bt,bu]
  refine aC ?_
  simp -implicitDefEqProofs only [go_sem,Int.reduceNegSucc,bw,br,bt,bu]
  refine (hK _ _ ?_).2
  have:k=ys.length:=by omega
  subst this
  simp [bF,bH,lk,bO,bh,QL hk.2]
def dI (a b:aH):Int:=jO [fP a.key b.key,fP a.tie b.tie,fP a.n b.n]
theorem Sr (a b:aH):aP Go.Proofs.Try.prog 140 [a.sv,b.sv] [] [] (.rv (.int .i64 (dI a b))):=by
 refine eY Ox [] [] [] [a.sv,b.sv] [a.sv,b.sv] [] _ (by simp) (by simp [aW,aH.sv,bS,bD]) rfl (by simp [aQ]) (by simp [cI]) (fun K hK=>?_)
 conv in fc _ _ _ _=>reduce
 simp -implicitDefEqProofs only [aH.sv,go_sem,Int.reduceNegSucc,bw,br,bt,bu]
 refine aN (IA a.key b.key) ?_
 simp -implicitDefEqProofs only [go_sem,Int.reduceNegSucc,bw,br,bt,bu]
 refine aN (IA a.tie b.tie) ?_
 simp -implicitDefEqProofs only [go_sem,Int.reduceNegSucc,bw,br,bt,bu]
 refine aN (Sx a.n b.n) ?_
 simp -implicitDefEqProofs only [go_sem,Int.reduceNegSucc,bw,br,bt,bu]
 refine dY (pre:=[(2,.row 1 0 (ah [[.int .i64 (fP a.key b.key)],[.int .i64 (fP a.tie b.tie)],[.int .i64 (fP a.n b.n)]]))]) (us:=[]) (zK (rs:=[.sl 1 (qF [fP a.key b.key,fP a.tie b.tie,fP a.n b.n])]) (Sy [fP a.key b.key,fP a.tie b.tie,fP a.n b.n] (by simp)) (fun hp hpre=>⟨xz (len:=3) (hpre _ (.head _)) rfl (by simp) (by simp [RV.one]),trivial⟩) rfl (.rv _ (.int _ _)) (by simp)) (by simp [aV,ag,ah]) trivial ?_
 simp -implicitDefEqProofs only [go_sem,Int.reduceNegSucc,bw,br,bt,bu]
 refine ⟨by decide,?_⟩
 refine (hK _ _ _ _ [] (cK _ _) ?_).2
 simp [cw,aQ,newL,cD,ct,bH,bF,lk,bO,bh,dI]
end Go.ay

namespace Go.ay
open Go
theorem Oy:bC Go.Proofs.Try.prog 137 5 (fc Go.Proofs.Try.prog 137 5 [(.t 2)]) [(.t 2)]:=bP (by kernel_rfl)
theorem Oz:bC Go.Proofs.Try.prog 138 17 (fc Go.Proofs.Try.prog 138 17 [(.t 6)]) [(.t 6)]:=bP (by kernel_rfl)
theorem OC:bC Go.Proofs.Try.prog 139 20 (fc Go.Proofs.Try.prog 139 20 []) []:=bP (by kernel_rfl)
theorem OA:bC Go.Proofs.Try.prog 147 23 (fc Go.Proofs.Try.prog 147 23 [(.t 2)]) [(.t 2)]:=bP (by kernel_rfl)
theorem OB:bC Go.Proofs.Try.prog 148 20 (fc Go.Proofs.Try.prog 148 20 []) []:=bP (by kernel_rfl)
abbrev bE (es:List aH):List (List RV):=es.map aH.cells
theorem rF {es:List aH} {i:Nat} (h:i<es.length):((bE es)[i]?).getD []=[.int .i64 es[i].key,.int .i64 es[i].tie,.int .i64 es[i].n]:=by
 simp [bE,h,aH.cells]
theorem DJ {es:List aH} {i:Nat} {e:aH}:(ah (bE es)).set i [.rv (.int .i64 e.key),.rv (.int .i64 e.tie),.rv (.int .i64 e.n)]=ah (bE (es.set i e)):=by
 rw [show ([.rv (.int .i64 e.key),.rv (.int .i64 e.tie),.rv (.int .i64 e.n)]:List U)=e.cells.map U.rv from rfl,RP]
 simp [bE,List.map_set]
theorem Kl {es:List aH} {i:Nat}:(((bE es)[i]?.getD []).map U.rv).drop 3=[]:=by
 rw [List.drop_eq_nil_iff]
 by_cases h:i<es.length
 ·rw [rF h];simp
 ·rw [List.getElem?_eq_none (by simp [bE];omega)];simp
theorem Iz (i1 v n:Nat) (es:List aH):aP Go.Proofs.Try.prog 137 [.row i1 v n] [(i1,.row 3 v (ah (bE es)))] [] (.rv (.int .i64 n)):=by
 refine eY Oy [i1] [.row 3 v (ah (bE es))] [.row 3 v (ah (bE es))] [.row 0 v n] [.row i1 v n] [] _ (by simp) (by simp [aW,dP]) rfl (by simp [aQ]) (by simp [cI,er]) (fun K hK=>?_)
 conv in fc _ _ _ _=>reduce
 simp -implicitDefEqProofs only [go_sem,Int.reduceNegSucc,bw,br,bt,bu]
 refine (hK _ _ _ _ [] (cK _ _) ?_).2
 simp [cw,aQ,newL,cD,ct,bH,bF,lk,bO,bh,bV,cj,bW,ag,cC]
theorem Ss (i1 v n:Nat) (es:List aH) (i j:Nat) (hn:n≤es.length) (hi:i<n) (hj:j<n) :
 aP Go.Proofs.Try.prog 138 [.row i1 v n,.rv (.int .i64 i),.rv (.int .i64 j)] [(i1,.row 3 v (ah (bE es)))] [] (.rv (.bool (decide (dI es[i] es[j]<0)))):=by
 refine eY Oz [i1] [.row 3 v (ah (bE es))] [.row 3 v (ah (bE es))] [.row 0 v n,.rv (.int .i64 i),.rv (.int .i64 j)] [.row i1 v n,.rv (.int .i64 i),.rv (.int .i64 j)] [] _ (by simp) (by simp [aW,dP,bD]) rfl (by simp [aQ]) (by simp [cI,er]) (fun K hK=>?_)
 conv in fc _ _ _ _=>reduce
 simp -implicitDefEqProofs only [rF (show i<es.length by omega),rF (show j<es.length by omega),go_sem,Int.reduceNegSucc,bw,br,bt,bu]
 refine ⟨by omega,by omega,by omega,by omega,?_⟩
 refine aN (Sr es[i] es[j]) ?_
 simp -implicitDefEqProofs only [go_sem,Int.reduceNegSucc,bw,br,bt,bu]
 refine ⟨by decide,?_⟩
 refine (hK _ _ _ _ [] (cK _ _) ?_).2
 simp [cw,aQ,newL,cD,ct,bH,bF,lk,bO,bh,bV,cj,bW,ag,cC]
def CQ (es:List aH) (i j:Nat) (hi:i<es.length) (hj:j<es.length):List aH:=(es.set i es[j]).set j es[i]
theorem Sw (i1 v n:Nat) (es:List aH) (i j:Nat) (hn:n≤es.length) (hi:i<n) (hj:j<n) :
 aP Go.Proofs.Try.prog 139 [.row i1 v n,.rv (.int .i64 i),.rv (.int .i64 j)] [(i1,.row 3 v (ah (bE es)))] [(i1,.row 3 v (ah (bE (CQ es i j (by omega) (by omega)))))] (.aR []):=by
 refine eY OC [i1] [.row 3 v (ah (bE es))] [.row 3 v (ah (bE es))] [.row 0 v n,.rv (.int .i64 i),.rv (.int .i64 j)] [.row i1 v n,.rv (.int .i64 i),.rv (.int .i64 j)] _ _ (by simp) (by simp [aW,dP,bD]) rfl (by simp [aQ]) (by simp [cI,er]) (fun K hK=>?_)
 conv in fc _ _ _ _=>reduce
 simp -implicitDefEqProofs only [rF (show i<es.length by omega),rF (show j<es.length by omega),go_sem,Int.reduceNegSucc,bw,br,bt,bu]
 simp -implicitDefEqProofs only [DJ,Kl,Ic,List.length_set]
 refine ⟨by omega,by omega,by omega,by omega,by omega,by omega,by omega,by omega,by decide,?_⟩
 refine (hK _ _ _ _ [] (cK _ _) ?_).1
 simp [cw,aQ,newL,cD,ct,bH,bF,lk,bO,bV,cj,bW,ag,DJ,cC,CQ,cO,cc]
theorem Su (i0 i1 v n:Nat) (es:List aH) (hi:i0≠i1) (hn:n≤es.length) (h0:0<n) (hb:n<1000000) :
 aP Go.Proofs.Try.prog 147 [.ptr i0 0] [(i0,.var [.row i1 v n]),(i1,.row 3 v (ah (bE es)))] [(i0,.var [.row i1 v (n - 1)])] (.aX 138 (es[n-1]).sv):=by
 refine eY OA [i0,i1] [.var [.row 1 v n],.row 3 v (ah (bE es))] [.var [.row i1 v n],.row 3 v (ah (bE es))] [.ptr 0 0] [.ptr i0 0] _ _ (by simp) (by simp [aW,eB]) rfl (by simp [aQ,hi]) (by simp [cI,er,aW,dP]) (fun K hK=>?_)
 have hw:IntKind.i64.wrap ((n:Int) - 1)=((n - 1:Nat):Int):=by rw [wrap_i64 (by omega) (by omega)];omega
 conv in fc _ _ _ _=>reduce
 simp -implicitDefEqProofs only [hw,rF (show n - 1<es.length by omega),go_sem,Int.reduceNegSucc,bw,br,bt,bu]
 refine ⟨by omega,by omega,by omega,?_⟩
 refine (hK _ _ _ _ [] (cK _ _) ?_).2
 simp [cw,aQ,newL,cD,ct,bH,bF,lk,bO,bV,cj,bW,cU,cT,ag,cC,cO,bh,bT,cn,de,cS,dc,cc,cB,cz,hi,Ne.symm hi,aH.sv]
theorem Sv (i0 i1 v n:Nat) (es:List aH) (e:aH) (hi:i0≠i1) (hn:n≤es.length) (hb:n<1000000) :
 aP Go.Proofs.Try.prog 148 [.ptr i0 0,.aX 138 e.sv] [(i0,.var [.row i1 v n]),(i1,.row 3 v (ah (bE es)))] [(i0,.var [.row i1 (v+1) (n+1)]),(i1,.row 3 (v+1) (ah (bE (es.take n++[e]))))] (.aR []):=by
 refine eY OB [i0,i1] [.var [.row 1 v n],.row 3 v (ah (bE es))] [.var [.row i1 v n],.row 3 v (ah (bE es))] [.ptr 0 0,.aX 138 e.sv] [.ptr i0 0,.aX 138 e.sv] _ _ (by simp) (by simp [aW,eB,fC,bS,bD,aH.sv]) rfl (by simp [aQ,hi]) (by simp [cI,er,aW,dP]) (fun K hK=>?_)
 conv in fc _ _ _ _=>reduce
 simp -implicitDefEqProofs only [aH.sv,go_sem,Int.reduceNegSucc,bw,br,bt,bu]
 refine ⟨⟨by omega,by simp -implicitDefEqProofs only [maxLen];omega,by omega⟩,by decide,aC ?_⟩
 simp -implicitDefEqProofs only [go_sem,Int.reduceNegSucc,bw,br,bt,bu]
 refine (hK _ _ _ _ [] (cK _ _) ?_).1
 have hx:ah (List.take n (bE es))++[[U.rv (.int .i64 e.key),.rv (.int .i64 e.tie),.rv (.int .i64 e.n)]]=ah (bE (es.take n++[e])):=by
  rw [show ([[U.rv (.int .i64 e.key),.rv (.int .i64 e.tie),.rv (.int .i64 e.n)]]:List (List U))=ah [e.cells] from rfl,Ia]
  simp [bE,List.map_take]
 simp [hx,cw,aQ,newL,cD,ct,bH,bF,lk,bO,bV,cj,bW,cU,cT,ag,cC,cO,bh,bT,cn,de,cS,dc,cc,cB,cz,hi,Ne.symm hi]
end Go.ay

namespace Go.ay
open Go
theorem OL:bC Go.Proofs.Try.prog 118 23 (fc Go.Proofs.Try.prog 118 23 []) []:=bP (by kernel_rfl)
theorem OK:bC Go.Proofs.Try.prog 119 48 (fc Go.Proofs.Try.prog 119 48 [(.t 6)]) [(.t 6)]:=bP (by kernel_rfl)
theorem OJ:bC Go.Proofs.Try.prog 111 12 (fc Go.Proofs.Try.prog 111 12 []) []:=bP (by kernel_rfl)
theorem OI:bC Go.Proofs.Try.prog 113 15 (fc Go.Proofs.Try.prog 113 15 [(.t 2)]) [(.t 2)]:=bP (by kernel_rfl)
instance:Inhabited aH:=⟨⟨0,0,0⟩⟩
def ga (es:List aH) (i:Nat):aH:=es.getD i ⟨0,0,0⟩
theorem iP {es:List aH} {i:Nat} (h:i<es.length):es[i]=ga es i:=by simp [ga,h]
def sw (es:List aH) (i j:Nat):List aH:=(es.set i (ga es j)).set j (ga es i)
theorem oq {es:List aH} {i j:Nat}:(sw es i j).length=es.length:=by simp [sw]
theorem vA : iK Go.Proofs.Try.prog 154 "Less" = some (138, some (1, false)) := by kernel_rfl
theorem Bu : iK Go.Proofs.Try.prog 154 "Swap" = some (139, some (1, false)) := by kernel_rfl
theorem FX : iK Go.Proofs.Try.prog 154 "Len" = some (137, some (1, false)) := by kernel_rfl
theorem NK : iK Go.Proofs.Try.prog 154 "Push" = some (148, none) := by kernel_rfl
theorem NJ : iK Go.Proofs.Try.prog 154 "Pop" = some (147, none) := by kernel_rfl
theorem zd (i1 v n:Nat) (es:List aH) (i j:Nat) (hn:n≤es.length) (hi:i<n) (hj:j<n) :
 aP Go.Proofs.Try.prog 138 [.row i1 v n,.rv (.int .i64 i),.rv (.int .i64 j)] [(i1,.row 3 v (ah (bE es)))] [] (.rv (.bool (decide (dI (ga es i) (ga es j)<0)))):=by
 have:=Ss i1 v n es i j hn hi hj
 rwa [iP,iP] at this
theorem CD (i1 v n:Nat) (es:List aH) (i j:Nat) (hn:n≤es.length) (hi:i<n) (hj:j<n) :
 aP Go.Proofs.Try.prog 139 [.row i1 v n,.rv (.int .i64 i),.rv (.int .i64 j)] [(i1,.row 3 v (ah (bE es)))] [(i1,.row 3 v (ah (bE (sw es i j))))] (.aR []):=by
 have:=Sw i1 v n es i j hn hi hj
 unfold CQ at this
 rwa [iP,iP] at this
theorem qd {hp:Hp} {a:Nat} {hb:HB} (h:hp a=some hb):aV hp [(a,hb)]:=fun q hq=>by simp at hq;subst hq;exact h
theorem tR {hp:Hp} {a b:Nat} {x y:HB} (h:hp a=some x) (k:hp b=some y):aV hp [(a,x),(b,y)]:=fun q hq=>by
 simp at hq
 rcases hq with rfl | rfl
 ·exact h
 ·exact k
theorem tL {h:List (Option HB)} {a:Nat} {x y:HB} {pre:List (Nat×HB)} (hg:ag h a=some y) (hm:(a,y)∈pre:=by simp):bf pre h [(a,x)]:=by
 refine ⟨.inr ⟨?_,y,hm⟩,trivial⟩
 unfold ag at hg
 cases hl:h[a]? with
 | none=>simp [hl] at hg
 | some z=>exact (List.getElem?_eq_some_iff.1 hl).1
def jw (es:List aH) (j:Nat):List aH:=
 if h:j=0 then es else if dI (ga es j) (ga es ((j - 1) / 2))<0 then jw (sw es ((j - 1) / 2) j) ((j - 1) / 2) else es
termination_by j
decreasing_by omega
theorem Ts (es:List aH) (j:Nat):(jw es j).length=es.length:=by
 induction j using Nat.strongRecOn generalizing es with
 | _ j ih=>
   unfold jw
   split
   ·rfl
   ·split
    ·rw [ih _ (by omega),oq]
    ·rfl
theorem SC (i0 i1 v n:Nat) (es:List aH) (j:Nat) (hi:i0≠i1) (hn:n≤es.length) (hj:j<n) (hb:n<1000000) :
 aP Go.Proofs.Try.prog 118 [.aX 154 (.ptr i0 0),.rv (.int .i64 j)] [(i0,.var [.row i1 v n]),(i1,.row 3 v (ah (bE es)))] [(i1,.row 3 v (ah (bE (jw es j))))] (.aR []):=by
 refine eY OL [i0,i1] [.var [.row 1 v n],.row 3 v (ah (bE es))] [.var [.row i1 v n],.row 3 v (ah (bE es))] [.aX 154 (.ptr 0 0),.rv (.int .i64 j)] [.aX 154 (.ptr i0 0),.rv (.int .i64 j)] _ _ (by simp) (by simp [aW,eB,dP,bD,bS,fC,bU,fN,fM,cI,er,aQ]) rfl (by simp [aQ,hi]) (by simp [aW,eB,dP,bD,bS,fC,bU,fN,fM,cI,er,aQ]) (fun K hK=>?_)
 conv in fc _ _ _ _=>reduce
 simp -implicitDefEqProofs only [go_sem,Int.reduceNegSucc,bw,br,bt,bu]
 refine dm (ι:=List aH×Nat) (fun x=>[(1,.rv (.int .i64 x.2)),(0,.aX 154 (.ptr 0 0))]) (fun x=>[some (.var [.row 1 v n]),some (.row 3 v (ah (bE x.1)))]) (fun x=>n≤x.1.length∧x.2<n∧jw x.1 x.2=jw es j) (fun x=>x.2) (es,j) ⟨hn,hj,rfl⟩ (bB (by simp [lk])) (fun x hx K' hN hX hR=>?_)
 obtain ⟨fs,i⟩:=x
 obtain ⟨hn',hi',hu⟩:=hx
 dsimp only at hn' hi' hu ⊢
 have hq:IntKind.i64.wrap ((IntKind.i64.wrap ((i:Int) - 1)).tdiv 2)=(((i - 1) / 2:Nat):Int):=by
  rw [wrap_i64 (n:=(i:Int) - 1) (by omega) (by omega)]
  by_cases h0:i=0
  ·subst h0;decide
  ·rw [show ((i:Int) - 1)=((i - 1:Nat):Int) by omega,show ((2:Int))=((2:Nat):Int) from rfl,← Int.ofNat_tdiv,wrap_i64 (by omega) (by omega)]
 have fin:∀ (e:List (Nat×U)),jw fs i=fs→K' (.exit 0) ⟨e,[some (.var [.row 1 v n]),some (.row 3 v (ah (bE fs)))]⟩:=fun e hf=>by
  refine hX 0 _ _ ?_
  simp -implicitDefEqProofs only [go_sem,Int.reduceNegSucc,bw,br,bt,bu]
  refine aC ?_
  simp -implicitDefEqProofs only [go_sem,Int.reduceNegSucc,bw,br,bt,bu]
  refine (hK _ _ _ _ [] (cK _ _) ?_).1
  rw [← hu,hf]
  simp [cw,aQ,newL,cD,ct,bH,bF,lk,bO,bV,cj,bW,cU,cT,ag,cC,cO,bh,bT,cn,de,cS,dc,cc,cB,cz,hi,Ne.symm hi]
 by_cases h0:i=0
 ·subst h0
  have he:((((0 - 1) / 2:Nat):Int) ==((0:Nat):Int))=true:=by decide
  simp -implicitDefEqProofs only [hq,he,go_sem,Int.reduceNegSucc,bw,br,bt,bu]
  exact ⟨by decide,fin _ (by unfold jw;simp)⟩
 ·have he:((((i - 1) / 2:Nat):Int) ==(i:Int))=false:=by simp;omega
  simp -implicitDefEqProofs only [hq,he,vA,go_sem,Int.reduceNegSucc,bw,br,bt,bu]
  refine ⟨by decide,ck (zd 1 v n fs i ((i - 1) / 2) hn' hi' (by omega)) (qd rfl) trivial ?_⟩
  by_cases hc:dI (ga fs i) (ga fs ((i - 1) / 2))<0
  ·simp -implicitDefEqProofs only [hc,decide_true,Bool.not_true,Bu,go_sem,Int.reduceNegSucc,bw,br,bt,bu]
   refine ck (CD 1 v n fs ((i - 1) / 2) i hn' (by omega) hi') (qd rfl) (tL rfl) ?_
   simp -implicitDefEqProofs only [go_sem,Int.reduceNegSucc,bw,br,bt,bu]
   refine aC ?_
   simp -implicitDefEqProofs only [go_sem,Int.reduceNegSucc,bw,br,bt,bu]
   refine hN (sw fs ((i - 1) / 2) i,(i - 1) / 2) _ _ ⟨by rw [oq];exact hn',by dsimp only;omega,?_⟩ (by dsimp only;omega) (bB (by simp [lk]))
   rw [← hu]
   conv=>rhs;unfold jw
   simp [h0,hc]
  ·simp -implicitDefEqProofs only [hc,decide_false,Bool.not_false,go_sem,Int.reduceNegSucc,bw,br,bt,bu]
   exact fin _ (by unfold jw;simp [h0,hc])
def fW (es:List aH) (i m:Nat):Nat:=if 2*i+2<m∧dI (ga es (2*i+2)) (ga es (2*i+1))<0 then 2*i+2 else 2*i+1
theorem yL (es:List aH) (i m:Nat):i<fW es i m:=by unfold fW;split <;> omega
theorem HF (es:List aH) (i m:Nat) (h:2*i+1<m):fW es i m<m:=by unfold fW;split <;> omega
def gY (es:List aH) (i m:Nat):List aH:=
 if h:2*i+1<m then if dI (ga es (fW es i m)) (ga es i)<0 then gY (sw es i (fW es i m)) (fW es i m) m else es else es
termination_by m - i
decreasing_by have:=yL es i m;omega
theorem Eh (m:Nat):∀ (k i:Nat) (es:List aH),m - i=k→(gY es i m).length=es.length:=by
 intro k
 induction k using Nat.strongRecOn with
 | _ k ih=>
   intro i es hk
   unfold gY
   split
   ·split
    ·have:=yL es i m
     rw [ih _ (by omega) _ _ rfl,oq]
    ·rfl
   ·rfl
theorem SB (i0 i1 v n:Nat) (es:List aH) (s m:Nat) (hi:i0≠i1) (hn:n≤es.length) (hm:m≤n) (hs:s≤m) (hb:n<1000000) :
 aP Go.Proofs.Try.prog 119 [.aX 154 (.ptr i0 0),.rv (.int .i64 s),.rv (.int .i64 m)] [(i0,.var [.row i1 v n]),(i1,.row 3 v (ah (bE es)))] [(i1,.row 3 v (ah (bE (gY es s m))))] .dead:=by
 refine eY OK [i0,i1] [.var [.row 1 v n],.row 3 v (ah (bE es))] [.var [.row i1 v n],.row 3 v (ah (bE es))] [.aX 154 (.ptr 0 0),.rv (.int .i64 s),.rv (.int .i64 m)] [.aX 154 (.ptr i0 0),.rv (.int .i64 s),.rv (.int .i64 m)] _ _ (by simp) (by simp [aW,eB,dP,bD,bS,fC,bU,fN,fM,cI,er,aQ]) rfl (by simp [aQ,hi]) (by simp [aW,eB,dP,bD,bS,fC,bU,fN,fM,cI,er,aQ]) (fun K hK=>?_)
 conv in fc _ _ _ _=>reduce
 simp -implicitDefEqProofs only [go_sem,Int.reduceNegSucc,bw,br,bt,bu]
 refine dm (ι:=List aH×Nat) (fun x=>[(7,.rv (.int .i64 x.2)),(0,.aX 154 (.ptr 0 0)),(1,.rv (.int .i64 s)),(2,.rv (.int .i64 m))]) (fun x=>[some (.var [.row 1 v n]),some (.row 3 v (ah (bE x.1)))]) (fun x=>n≤x.1.length∧x.2≤m∧gY x.1 x.2 m=gY es s m) (fun x=>m - x.2) (es,s) ⟨hn,hs,rfl⟩ (bB (by simp [lk])) (fun x hx K' hN hX hR=>?_)
 obtain ⟨fs,i⟩:=x
 obtain ⟨hn',hi',hu⟩:=hx
 dsimp only at hn' hi' hu ⊢
 have h1:IntKind.i64.wrap (IntKind.i64.wrap (2*(i:Int))+1)=((2*i+1:Nat):Int):=by
  rw [wrap_i64 (n:=2*(i:Int)) (by omega) (by omega),wrap_i64 (by omega) (by omega)];omega
 have h2:IntKind.i64.wrap (((2*i+1:Nat):Int)+1)=((2*i+2:Nat):Int):=by
  rw [wrap_i64 (by omega) (by omega)];omega
 have fin:∀ (e:List (Nat×U)),gY fs i m=fs→lk e 7 = .rv (.int .i64 i)→lk e 1 = .rv (.int .i64 s)→K' (.exit 0) ⟨e,[some (.var [.row 1 v n]),some (.row 3 v (ah (bE fs)))]⟩:=fun e hf l7 l1=>by
  refine hX 0 _ _ ?_
  simp -implicitDefEqProofs only [go_sem,Int.reduceNegSucc,bw,br,bt,bu]
  refine aC ?_
  simp -implicitDefEqProofs only [l7,l1,go_sem,Int.reduceNegSucc,bw,br,bt,bu]
  refine (hK _ _ _ _ [] (cK _ _) ?_).2
  rw [← hu,hf]
  simp [cw,aQ,newL,cD,ct,bH,bF,lk,bO,bV,cj,bW,cU,cT,ag,cC,cO,bh,bT,cn,de,cS,dc,cc,cB,cz,hi,Ne.symm hi]
 by_cases hc:2*i+1<m
 ·have e1:decide (((2*i+1:Nat):Int)≥(m:Int))=false:=by simp;omega
  have e2:decide (((2*i+1:Nat):Int)<0)=false:=by simp;omega
  have hcs:(2*i+2<m∧dI (ga fs (2*i+2)) (ga fs (2*i+1))<0∧fW fs i m=2*i+2)∨(2*i+2<m∧¬ dI (ga fs (2*i+2)) (ga fs (2*i+1))<0∧fW fs i m=2*i+1)∨(¬ 2*i+2<m∧fW fs i m=2*i+1):=by
   unfold fW
   by_cases ha:2*i+2<m <;> by_cases hb:dI (ga fs (2*i+2)) (ga fs (2*i+1))<0 <;> simp [ha,hb]
  have AV:=yL fs i m
  have hj2:=HF fs i m hc
  rcases hcs with ⟨a,b,p⟩ | ⟨a,b,p⟩ | ⟨a,p⟩
  case' pos.inl=>
   have e3:decide (((2*i+2:Nat):Int)<(m:Int))=true:=by simp;omega
   simp -implicitDefEqProofs only [h1,h2,e1,e2,e3,vA,go_sem,Int.reduceNegSucc,bw,br,bt,bu]
   refine ck (zd 1 v n fs (2*i+2) (2*i+1) hn' (by omega) (by omega)) (qd rfl) trivial ?_
   simp -implicitDefEqProofs only [b,decide_true,go_sem,Int.reduceNegSucc,bw,br,bt,bu]
  case' pos.inr.inl=>
   have e3:decide (((2*i+2:Nat):Int)<(m:Int))=true:=by simp;omega
   simp -implicitDefEqProofs only [h1,h2,e1,e2,e3,vA,go_sem,Int.reduceNegSucc,bw,br,bt,bu]
   refine ck (zd 1 v n fs (2*i+2) (2*i+1) hn' (by omega) (by omega)) (qd rfl) trivial ?_
   simp -implicitDefEqProofs only [b,decide_false,go_sem,Int.reduceNegSucc,bw,br,bt,bu]
  case' pos.inr.inr=>
   have e3:decide (((2*i+2:Nat):Int)<(m:Int))=false:=by simp;omega
   simp -implicitDefEqProofs only [h1,h2,e1,e2,e3,vA,go_sem,Int.reduceNegSucc,bw,br,bt,bu]
  all_goals
   refine Lu [(9,.rv (.int .i64 (fW fs i m:Nat))),(7,.rv (.int .i64 i)),(0,.aX 154 (.ptr 0 0)),(1,.rv (.int .i64 s)),(2,.rv (.int .i64 m))] _ (bB (by simp [lk,p])) ?_
   simp -implicitDefEqProofs only [vA,go_sem,Int.reduceNegSucc,bw,br,bt,bu]
   refine ck (zd 1 v n fs (fW fs i m) i hn' (by omega) (by omega)) (qd rfl) trivial ?_
   by_cases hd:dI (ga fs (fW fs i m)) (ga fs i)<0
   ·simp -implicitDefEqProofs only [hd,decide_true,Bool.not_true,Bu,go_sem,Int.reduceNegSucc,bw,br,bt,bu]
    refine ck (CD 1 v n fs i (fW fs i m) hn' (by omega) (by omega)) (qd rfl) (tL rfl) ?_
    simp -implicitDefEqProofs only [go_sem,Int.reduceNegSucc,bw,br,bt,bu]
    refine aC ?_
    simp -implicitDefEqProofs only [go_sem,Int.reduceNegSucc,bw,br,bt,bu]
    refine hN (sw fs i (fW fs i m),fW fs i m) _ _ ⟨by rw [oq];exact hn',by dsimp only;omega,?_⟩ (by dsimp only;omega) (bB (by simp [lk]))
    rw [← hu]
    conv=>rhs;unfold gY
    simp [hc,hd]
   ·simp -implicitDefEqProofs only [hd,decide_false,Bool.not_false,go_sem,Int.reduceNegSucc,bw,br,bt,bu]
    exact fin _ (by unfold gY;simp [hc,hd]) (by simp [lk]) (by simp [lk])
 ·have e1:decide (((2*i+1:Nat):Int)≥(m:Int))=true:=by simp;omega
  simp -implicitDefEqProofs only [h1,e1,go_sem,Int.reduceNegSucc,bw,br,bt,bu]
  exact fin _ (by unfold gY;simp [hc]) (by simp [lk]) (by simp [lk])
end Go.ay
