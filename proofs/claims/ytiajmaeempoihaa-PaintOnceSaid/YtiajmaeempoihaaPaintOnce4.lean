/- Part 4 of the proof: Q4, Q6, Q9, Q10, Q11, QT, QS, V6, V7, V8, V9, V10, V11, V12, V13, V14, V15, V16. -/
import Derived.Test.YtiajmaeempoihaaPaintOnce3
set_option linter.unusedSimpArgs false
set_option linter.unusedVariables false
set_option maxRecDepth 100000
set_option maxHeartbeats 16000000
namespace Go.ay
open Go
theorem Ov:bC Go.Proofs.Try.prog 93 13 (fc Go.Proofs.Try.prog 93 13 []) []:=bP (by kernel_rfl)
theorem Gs:bC Go.Proofs.Try.prog 96 28 (fc Go.Proofs.Try.prog 96 28 [(.c 2 3 true),(.t 3)]) [(.c 2 3 true),(.t 3)]:=bP (by kernel_rfl)
theorem Ow:bC Go.Proofs.Try.prog 95 21 (fc Go.Proofs.Try.prog 95 21 [(.c 2 3 true),(.t 3)]) [(.c 2 3 true),(.t 3)]:=bP (by kernel_rfl)
theorem BV {h:List (Option HB)} {a b:Nat} {x y x' y':HB} {pre:List (Nat×HB)} (ha:ag h a=some x) (hb:ag h b=some y) (hm:(a,x)∈pre:=by simp) (hm':(b,y)∈pre:=by simp):bf pre h [(a,x'),(b,y')]:=by
 have lt:∀ {i:Nat} {z:HB},ag h i=some z→i<h.length:=fun {i z} hg=>by
  unfold ag at hg
  cases hl:h[i]? with
  | none=>simp [hl] at hg
  | some z=>exact (List.getElem?_eq_some_iff.1 hl).1
 refine ⟨.inr ⟨lt ha,x,hm⟩,.inr ⟨?_,y,hm'⟩,trivial⟩
 have:=sE h (a,x')
 have:=lt hb
 omega
def oU (es:List aH) (n:Nat) (e:aH):List aH:=jw (es.take n++[e]) n
def fl (es:List aH) (n:Nat):List aH:=gY (sw es 0 (n - 1)) 0 (n - 1)
theorem SA (i0 i1 v n:Nat) (es:List aH) (e:aH) (hi:i0≠i1) (hn:n≤es.length) (hb:n<100000) :
 aP Go.Proofs.Try.prog 111 [.aX 154 (.ptr i0 0),.aX 138 e.sv] [(i0,.var [.row i1 v n]),(i1,.row 3 v (ah (bE es)))] [(i0,.var [.row i1 (v+1) (n+1)]),(i1,.row 3 (v+1) (ah (bE (oU es n e))))] (.aR []):=by
 refine eY OJ [i0,i1] [.var [.row 1 v n],.row 3 v (ah (bE es))] [.var [.row i1 v n],.row 3 v (ah (bE es))] [.aX 154 (.ptr 0 0),.aX 138 e.sv] [.aX 154 (.ptr i0 0),.aX 138 e.sv] _ _ (by simp) (by simp [aW,eB,dP,bD,bS,fC,bU,fN,fM,cI,er,aQ,aH.sv]) rfl (by simp [aQ,hi]) (by simp [aW,eB,dP,bD,bS,fC,bU,fN,fM,cI,er,aQ]) (fun K hK=>?_)
 conv in fc _ _ _ _=>reduce
 simp -implicitDefEqProofs only [NK,go_sem,Int.reduceNegSucc,bw,br,bt,bu]
 refine ck (Sv 0 1 v n es e (by decide) hn (by omega)) (tR rfl rfl) (BV rfl rfl) ?_
 simp -implicitDefEqProofs only [FX,go_sem,Int.reduceNegSucc,bw,br,bt,bu]
 refine ck (Iz 1 (v+1) (n+1) _) (qd rfl) trivial ?_
 have hw:IntKind.i64.wrap (((n+1:Nat):Int) - 1)=((n:Nat):Int):=by rw [wrap_i64 (by omega) (by omega)];omega
 simp -implicitDefEqProofs only [hw,go_sem,Int.reduceNegSucc,bw,br,bt,bu]
 refine ck (SC 0 1 (v+1) (n+1) (es.take n++[e]) n (by decide) (by simp;omega) (by omega) (by omega)) (tR rfl rfl) (tL rfl) ?_
 simp -implicitDefEqProofs only [go_sem,Int.reduceNegSucc,bw,br,bt,bu]
 refine (hK _ _ _ _ [] (cK _ _) ?_).1
 simp [cw,aQ,newL,cD,ct,bH,bF,lk,bO,bV,cj,bW,cU,cT,ag,cC,cO,bh,bT,cn,de,cS,dc,cc,cB,cz,hi,Ne.symm hi,oU]
theorem Sz (i0 i1 v n:Nat) (es:List aH) (hi:i0≠i1) (hn:n≤es.length) (h0:0<n) (hb:n<100000) :
 aP Go.Proofs.Try.prog 113 [.aX 154 (.ptr i0 0)] [(i0,.var [.row i1 v n]),(i1,.row 3 v (ah (bE es)))] [(i0,.var [.row i1 v (n - 1)]),(i1,.row 3 v (ah (bE (fl es n))))] (.aX 138 (ga (fl es n) (n - 1)).sv):=by
 refine eY OI [i0,i1] [.var [.row 1 v n],.row 3 v (ah (bE es))] [.var [.row i1 v n],.row 3 v (ah (bE es))] [.aX 154 (.ptr 0 0)] [.aX 154 (.ptr i0 0)] _ _ (by simp) (by simp [aW,eB,dP,bD,bS,fC,bU,fN,fM,cI,er,aQ]) rfl (by simp [aQ,hi]) (by simp [aW,eB,dP,bD,bS,fC,bU,fN,fM,cI,er,aQ]) (fun K hK=>?_)
 have hw:IntKind.i64.wrap ((n:Int) - 1)=((n - 1:Nat):Int):=by rw [wrap_i64 (by omega) (by omega)];omega
 conv in fc _ _ _ _=>reduce
 simp -implicitDefEqProofs only [FX,go_sem,Int.reduceNegSucc,bw,br,bt,bu]
 refine ck (Iz 1 v n es) (qd rfl) trivial ?_
 simp -implicitDefEqProofs only [hw,Bu,go_sem,Int.reduceNegSucc,bw,br,bt,bu]
 refine ck (CD 1 v n es 0 (n - 1) hn h0 (by omega)) (qd rfl) (tL rfl) ?_
 simp -implicitDefEqProofs only [go_sem,Int.reduceNegSucc,bw,br,bt,bu]
 refine ck (SB 0 1 v n (sw es 0 (n - 1)) 0 (n - 1) (by decide) (by rw [oq];exact hn) (by omega) (by omega) (by omega)) (tR rfl rfl) (tL rfl) ?_
 simp -implicitDefEqProofs only [NJ,go_sem,Int.reduceNegSucc,bw,br,bt,bu]
 have hlen:n≤(gY (sw es 0 (n - 1)) 0 (n - 1)).length:=by rw [Eh _ _ _ _ rfl,oq];exact hn
 have hp:=Su 0 1 v n (gY (sw es 0 (n - 1)) 0 (n - 1)) (by decide) hlen h0 (by omega)
 rw [iP] at hp
 refine ck hp (tR rfl rfl) (tL rfl) ?_
 simp -implicitDefEqProofs only [go_sem,Int.reduceNegSucc,bw,br,bt,bu]
 refine (hK _ _ _ _ [] (cK _ _) ?_).2
 simp [cw,aQ,newL,cD,ct,bH,bF,lk,bO,bV,cj,bW,cU,cT,ag,cC,cO,bh,bT,cn,de,cS,dc,cc,cB,cz,hi,Ne.symm hi,fl,aH.sv]
theorem Sq (i0 i1 v n:Nat) (es:List aH) (e:aH) (hi:i0≠i1) (hn:n≤es.length) (hb:n<100000) :
 aP Go.Proofs.Try.prog 93 [.ptr i0 0,e.sv] [(i0,.var [.row i1 v n]),(i1,.row 3 v (ah (bE es)))] [(i0,.var [.row i1 (v+1) (n+1)]),(i1,.row 3 (v+1) (ah (bE (oU es n e))))] (.aR []):=by
 refine eY Ov [i0,i1] [.var [.row 1 v n],.row 3 v (ah (bE es))] [.var [.row i1 v n],.row 3 v (ah (bE es))] [.ptr 0 0,e.sv] [.ptr i0 0,e.sv] _ _ (by simp) (by simp [aW,eB,dP,bD,bS,fC,bU,fN,fM,cI,er,aQ,aH.sv]) rfl (by simp [aQ,hi]) (by simp [aW,eB,dP,bD,bS,fC,bU,fN,fM,cI,er,aQ]) (fun K hK=>?_)
 conv in fc _ _ _ _=>reduce
 simp -implicitDefEqProofs only [aH.sv,go_sem,Int.reduceNegSucc,bw,br,bt,bu]
 refine dY (SA 0 1 v n es e (by decide) hn hb) (tR rfl rfl) (BV rfl rfl) ?_
 simp -implicitDefEqProofs only [go_sem,Int.reduceNegSucc,bw,br,bt,bu]
 refine ⟨by decide,aC ?_⟩
 simp -implicitDefEqProofs only [go_sem,Int.reduceNegSucc,bw,br,bt,bu]
 refine (hK _ _ _ _ [] (cK _ _) ?_).1
 simp [cw,aQ,newL,cD,ct,bH,bF,lk,bO,bV,cj,bW,cU,cT,ag,cC,cO,bh,bT,cn,de,cS,dc,cc,cB,cz,hi,Ne.symm hi]
theorem Iy (i0 i1 v n:Nat) (es:List aH) (hi:i0≠i1) (hn:n≤es.length) :
 aP Go.Proofs.Try.prog 95 [.ptr i0 0] [(i0,.var [.row i1 v n]),(i1,.row 3 v (ah (bE es)))] [] (.aR [if n=0 then (⟨0,0,0⟩:aH).sv else (ga es 0).sv,.rv (.bool (decide (n≠0)))]):=by
 refine eY Ow [i0,i1] [.var [.row 1 v n],.row 3 v (ah (bE es))] [.var [.row i1 v n],.row 3 v (ah (bE es))] [.ptr 0 0] [.ptr i0 0] _ _ (by simp) (by simp [aW,eB,dP,bD,bS,fC,bU,fN,fM,cI,er,aQ]) rfl (by simp [aQ,hi]) (by simp [aW,eB,dP,bD,bS,fC,bU,fN,fM,cI,er,aQ]) (fun K hK=>?_)
 by_cases h0:n=0
 ·subst h0
  have he:(((0:Nat):Int) == 0)=true:=by decide
  conv in fc _ _ _ _=>reduce
  simp -implicitDefEqProofs only [he,go_sem,Int.reduceNegSucc,bw,br,bt,bu]
  refine (hK _ _ _ _ [] (cK _ _) ?_).2
  simp [cw,aQ,newL,cD,ct,bH,bF,lk,bO,bV,cj,bW,cU,cT,ag,cC,cO,bh,bT,cn,de,cS,dc,cc,cB,cz,hi,Ne.symm hi,eK,aH.sv]
 ·have he:((n:Int) == 0)=false:=by simp;omega
  have hx:=rF (show 0<es.length by omega)
  rw [iP] at hx
  have Me:(0:Int).toNat=0:=rfl
  conv in fc _ _ _ _=>reduce
  simp -implicitDefEqProofs only [he,hx,Me,go_sem,Int.reduceNegSucc,bw,br,bt,bu]
  refine ⟨by omega,by omega,?_⟩
  refine (hK _ _ _ _ [] (cK _ _) ?_).2
  simp [cw,aQ,newL,cD,ct,bH,bF,lk,bO,bV,cj,bW,cU,cT,ag,cC,cO,bh,bT,cn,de,cS,dc,cc,cB,cz,hi,Ne.symm hi,eK,aH.sv,h0]
theorem CE (i0 i1 v n:Nat) (es:List aH) (hi:i0≠i1) (hn:n≤es.length) (h0:n≠0) (hb:n<100000) :
 aP Go.Proofs.Try.prog 96 [.ptr i0 0] [(i0,.var [.row i1 v n]),(i1,.row 3 v (ah (bE es)))] [(i0,.var [.row i1 v (n - 1)]),(i1,.row 3 v (ah (bE (fl es n))))] (.aR [(ga (fl es n) (n - 1)).sv,.rv (.bool true)]):=by
 refine eY Gs [i0,i1] [.var [.row 1 v n],.row 3 v (ah (bE es))] [.var [.row i1 v n],.row 3 v (ah (bE es))] [.ptr 0 0] [.ptr i0 0] _ _ (by simp) (by simp [aW,eB,dP,bD,bS,fC,bU,fN,fM,cI,er,aQ]) rfl (by simp [aQ,hi]) (by simp [aW,eB,dP,bD,bS,fC,bU,fN,fM,cI,er,aQ]) (fun K hK=>?_)
 have he:((n:Int) == 0)=false:=by simp;omega
 conv in fc _ _ _ _=>reduce
 simp -implicitDefEqProofs only [he,go_sem,Int.reduceNegSucc,bw,br,bt,bu]
 refine ck (Sz 0 1 v n es (by decide) hn (by omega) hb) (tR rfl rfl) (BV rfl rfl) ?_
 simp -implicitDefEqProofs only [aH.sv,go_sem,Int.reduceNegSucc,bw,br,bt,bu]
 refine (hK _ _ _ _ [] (cK _ _) ?_).2
 simp [cw,aQ,newL,cD,ct,bH,bF,lk,bO,bV,cj,bW,cU,cT,ag,cC,cO,bh,bT,cn,de,cS,dc,cc,cB,cz,hi,Ne.symm hi,eK,aH.sv]
theorem CC (i0 i1 v:Nat) (es:List aH) (hi:i0≠i1) :
 aP Go.Proofs.Try.prog 96 [.ptr i0 0] [(i0,.var [.row i1 v 0]),(i1,.row 3 v (ah (bE es)))] [] (.aR [(⟨0,0,0⟩:aH).sv,.rv (.bool false)]):=by
 refine eY Gs [i0,i1] [.var [.row 1 v 0],.row 3 v (ah (bE es))] [.var [.row i1 v 0],.row 3 v (ah (bE es))] [.ptr 0 0] [.ptr i0 0] _ _ (by simp) (by simp [aW,eB,dP,bD,bS,fC,bU,fN,fM,cI,er,aQ]) rfl (by simp [aQ,hi]) (by simp [aW,eB,dP,bD,bS,fC,bU,fN,fM,cI,er,aQ]) (fun K hK=>?_)
 have he:(((0:Nat):Int) == 0)=true:=by decide
 conv in fc _ _ _ _=>reduce
 simp -implicitDefEqProofs only [he,go_sem,Int.reduceNegSucc,bw,br,bt,bu]
 refine (hK _ _ _ _ [] (cK _ _) ?_).2
 simp [cw,aQ,newL,cD,ct,bH,bF,lk,bO,bV,cj,bW,cU,cT,ag,cC,cO,bh,bT,cn,de,cS,dc,cc,cB,cz,hi,Ne.symm hi,eK,aH.sv]
end Go.ay

namespace Go.ay
open Go
def sk (a b:aH):Bool:=if a.key=b.key then (if a.tie=b.tie then decide (a.n<b.n) else decide (a.tie<b.tie)) else decide (a.key<b.key)
theorem QJ (x y z:Int):jO [x,y,z]=if x=0 then (if y=0 then z else y) else x:=by
 unfold jO jO jO jO
 by_cases h1:x=0 <;> by_cases h2:y=0 <;> by_cases h3:z=0 <;> simp [h1,h2,h3]
theorem uC (a b:aH):dI a b=if a.key<b.key then -1 else if b.key<a.key then 1 else if a.tie<b.tie then -1 else if b.tie<a.tie then 1 else if a.n<b.n then -1 else if b.n<a.n then 1 else 0:=by
 unfold dI fP
 rw [QJ]
 by_cases h1:a.key<b.key
 ·simp [h1]
 ·by_cases h2:b.key<a.key
  ·simp [h1,h2]
  ·by_cases h3:a.tie<b.tie
   ·simp [h1,h2,h3]
   ·by_cases h4:b.tie<a.tie
    ·simp [h1,h2,h3,h4]
    ·simp [h1,h2,h3,h4]
theorem rG (a b:aH):dI a b≤0↔a.key<b.key∨(a.key=b.key∧(a.tie<b.tie∨(a.tie=b.tie∧a.n≤b.n))):=by
 rw [uC]
 repeat' split
 all_goals omega
theorem Ai (p:Prop) [Decidable p]:decide p=if p then true else false:=by by_cases h:p <;> simp [h]
theorem Dw (x y:Int):(x == y)=if x=y then true else false:=by by_cases h:x=y <;> simp [h]
theorem Kv (a b:aH):(dI a b == - dI b a)=true:=by
 rw [Dw,uC a b,uC b a];repeat' split
 all_goals first | rfl | (exfalso;omega)
theorem Kw (a b:aH):((dI a b == -1) == sk a b)=true:=by
 unfold sk
 rw [Dw,Ai,Ai,Ai,uC a b];repeat' split
 all_goals first | rfl | (exfalso;omega)
theorem Kx (a b:aH) : -1≤dI a b∧dI a b≤1:=by
 rw [uC];repeat' split
 all_goals omega
theorem Ky (a b c:aH) (h:¬ dI a b>0) (h':¬ dI b c>0):dI a c≤0:=by
 have l1:=(rG a b).1 (by omega)
 have l2:=(rG b c).1 (by omega)
 rw [rG a c]
 omega
end Go.ay

namespace Go.ay
open Go
def jr (es:List aH):Nat→Int
 | 0=>-1
 | k+1=>if jr es k<0∨sk (ga es k) (ga es (jr es k).toNat)=true then k else jr es k
theorem BH (es:List aH):∀ k,-1≤jr es k∧jr es k<k
 | 0=>by simp [jr]
 | k+1=>by
   have:=BH es k
   unfold jr
   split <;> omega
end Go.ay

namespace Go.ay
open Go
def sG (es:List aH) (i:Nat):List aH:=es.take i++es.drop (i+1)
end Go.ay

namespace Go.ay
open Go
theorem DK {es:List aH}:∀ x∈bE es,∀ r∈x,r.one=true:=by
 intro x hx r hr
 obtain ⟨e,_,rfl⟩:=List.mem_map.1 hx
 simp [aH.cells] at hr
 rcases hr with rfl | rfl | rfl <;> rfl
def lB (es:List aH):Nat:=(jr es es.length).toNat
theorem kA (es:List aH) (h:0<es.length):lB es<es.length:=by
 have:=BH es es.length
 unfold lB;omega
theorem zw {es:List aH} {i:Nat} (h:i<es.length):(sG es i).length=es.length - 1:=by
 simp [sG];omega
def fH (es:List aH):List aH:=
 if h:0<es.length then ga es (lB es)::fH (sG es (lB es)) else []
termination_by es.length
decreasing_by rw [zw (kA es h)];omega
end Go.ay

namespace Go.ay
open Go
def ep (a b:aH):Prop:=dI a b≤0
theorem Kr (a b:aH):dI a b = -dI b a:=by have:=Kv a b;simpa using this
theorem yj (a:aH):ep a a:=by unfold ep;rw [rG];omega
theorem vL {a b c:aH} (h:ep a b) (h':ep b c):ep a c:=Ky a b c (by unfold ep at h;omega) (by unfold ep at h';omega)
theorem vK {a b:aH} (h:dI a b<0):ep a b:=by unfold ep;omega
theorem yh {a b:aH} (h:¬ dI a b<0):ep b a:=by unfold ep;have:=Kr b a;omega
theorem Gz {a b:aH} (h:ep a b) (h':ep b a):a=b:=by
 unfold ep at h h'
 rw [rG] at h h'
 obtain ⟨a1,a2,a3⟩:=a
 obtain ⟨b1,b2,b3⟩:=b
 simp only at h h'
 simp -implicitDefEqProofs only [aH.mk.injEq]
 omega
theorem GI {a b:aH}:sk a b=true↔dI a b<0:=by
 have h:=Kw a b
 have hr:=Kx a b
 have h:(dI a b == -1)=sk a b:=by simpa using h
 rw [← h];simp;omega
theorem Av {es:List aH} {i:Nat} (h:i<es.length):ga es i∈es:=by rw [← iP h];exact List.getElem_mem h
theorem Aw {es:List aH} {i j:Nat} (hi:i<es.length) (hj:j<es.length) (k:Nat):ga (sw es i j) k=if k=j then ga es i else if k=i then ga es j else ga es k:=by
 unfold sw
 by_cases h1:k=j
 ·subst h1;rw [if_pos rfl]
  show ((es.set i (ga es k)).set k (ga es i)).getD k _=_
  rw [List.getD_eq_getElem?_getD,List.getElem?_set_self (by simpa using hj)];rfl
 ·rw [if_neg h1]
  show ((es.set i (ga es j)).set j (ga es i)).getD k _=_
  rw [List.getD_eq_getElem?_getD,List.getElem?_set_ne (by omega)]
  by_cases h2:k=i
  ·subst h2;rw [if_pos rfl,List.getElem?_set_self hi];rfl
  ·rw [if_neg h2,List.getElem?_set_ne (by omega)]
   show _=es.getD k _
   rw [List.getD_eq_getElem?_getD]
theorem CO {es:List aH} {i j:Nat} (hi:i<es.length) (hj:j<es.length):(sw es i j).Perm es:=by
 have h:=Array.swap_perm (xs:=es.toArray) (i:=i) (j:=j) (by simpa using hi) (by simpa using hj)
 rw [Array.perm_iff_toList_perm,Array.toList_swap] at h
 simp -implicitDefEqProofs only [List.getElem_toArray,iP hi,iP hj] at h
 exact h
theorem CS {es:List aH} {n k:Nat} (h:k<n):ga (es.take n) k=ga es k:=by
 show (es.take n).getD k _=es.getD k _
 rw [List.getD_eq_getElem?_getD,List.getD_eq_getElem?_getD,List.getElem?_take_of_lt h]
theorem CP {es:List aH} {i j m:Nat} (hi:i<m) (hj:j<m) (hm:m≤es.length):(sw es i j).take m=sw (es.take m) i j:=by
 have e1:ga (es.take m) i=ga es i:=CS hi
 have e2:ga (es.take m) j=ga es j:=CS hj
 simp -implicitDefEqProofs only [sw,e1,e2,List.take_set]
def jX (es:List aH) (n:Nat):Prop:=∀ k,0<k→k<n→ep (ga es ((k - 1) / 2)) (ga es k)
theorem Fm {es:List aH} {n:Nat} (h:jX es n):∀ m k,k≤m→k<n→ep (ga es 0) (ga es k)
 | m,k,hm,hk=>by
   by_cases h0:k=0
   ·subst h0;exact yj _
   ·match m,hm with
    | 0,hm=>omega
    | m+1,hm=>exact vL (Fm h m ((k - 1) / 2) (by omega) (by omega)) (h k (by omega) hk)
def zB (es:List aH) (n j:Nat):Prop:=(∀ k,0<k→k<n→k≠j→ep (ga es ((k - 1) / 2)) (ga es k))∧(∀ k,0<k→k<n→(k - 1) / 2=j→0<j→ep (ga es ((j - 1) / 2)) (ga es k))
theorem Jc (n:Nat):∀ (m j:Nat) (es:List aH),j≤m→j<n→n≤es.length→zB es n j→jX (jw es j) n∧((jw es j).take n).Perm (es.take n)
 | m,j,es,hm,hj,hl,⟨h1,h2⟩=>by
   unfold jw
   by_cases h0:j=0
   ·rw [dif_pos h0]
    exact ⟨fun k a b=>h1 k a b (by omega),List.Perm.refl _⟩
   ·rw [dif_neg h0]
    by_cases hc:dI (ga es j) (ga es ((j - 1) / 2))<0
    ·rw [if_pos hc]
     have hp:(j - 1) / 2<j:=by omega
     generalize hq:(j - 1) / 2=p at *
     have g:=fun k=>Aw (es:=es) (i:=p) (j:=j) (by omega) (by omega) k
     have hU:zB (sw es p j) n p:=by
      refine ⟨fun k a b c=>?_,fun k a b c d=>?_⟩
      ·rw [g k,g ((k - 1) / 2)]
       by_cases e1:k=j
       ·subst e1
        rw [if_pos rfl,hq,if_neg (by omega),if_pos rfl]
        exact vK hc
       ·rw [if_neg e1,if_neg c]
        by_cases e2:(k - 1) / 2=j
        ·rw [if_pos e2];exact h2 k a b e2 (by omega)
        ·rw [if_neg e2]
         by_cases e3:(k - 1) / 2=p
         ·rw [if_pos e3]
          have:=h1 k a b e1
          rw [e3] at this
          exact vL (vK hc) this
         ·rw [if_neg e3];exact h1 k a b e1
      ·rw [g k,g ((p - 1) / 2),if_neg (by omega),if_neg (by omega)]
       have fE:=h1 p d (by omega) (by omega)
       by_cases e1:k=j
       ·rw [if_pos e1];exact fE
       ·rw [if_neg e1,if_neg (by omega)]
        have:=h1 k a b e1
        rw [c] at this
        exact vL fE this
     match m,hm with
     | 0,hm=>omega
     | m+1,hm=>
       obtain ⟨r1,r2⟩:=Jc n m p (sw es p j) (by omega) (by omega) (by rw [oq];exact hl) hU
       refine ⟨r1,r2.trans ?_⟩
       rw [CP (by omega) hj hl]
       exact CO (by simp;omega) (by simp;omega)
    ·rw [if_neg hc]
     refine ⟨fun k a b=>?_,List.Perm.refl _⟩
     by_cases e1:k=j
     ·subst e1;exact yh hc
     ·exact h1 k a b e1
def zy (es:List aH) (m i:Nat):Prop:=(∀ k,0<k→k<m→(k - 1) / 2≠i→ep (ga es ((k - 1) / 2)) (ga es k))∧(∀ k,0<k→k<m→(k - 1) / 2=i→0<i→ep (ga es ((i - 1) / 2)) (ga es k))
theorem QY {es:List aH} {i m:Nat} (h:2*i+1<m):(fW es i m - 1) / 2=i∧∀ k,0<k→k<m→(k - 1) / 2=i→ep (ga es (fW es i m)) (ga es k):=by
 unfold fW
 by_cases hc:2*i+2<m∧dI (ga es (2*i+2)) (ga es (2*i+1))<0
 ·rw [if_pos hc]
  refine ⟨by omega,fun k a b c=>?_⟩
  have:k=2*i+1∨k=2*i+2:=by omega
  rcases this with rfl | rfl
  ·exact vK hc.2
  ·exact yj _
 ·rw [if_neg hc]
  refine ⟨by omega,fun k a b c=>?_⟩
  have:k=2*i+1∨k=2*i+2:=by omega
  rcases this with rfl | rfl
  ·exact yj _
  ·exact yh fun h'=>hc ⟨b,h'⟩
theorem Ei (m:Nat):∀ (d i:Nat) (es:List aH),m - i≤d→m≤es.length→i≤m→zy es m i→jX (gY es i m) m∧((gY es i m).take m).Perm (es.take m)∧∀ k,m≤k→ga (gY es i m) k=ga es k
 | d,i,es,hd,hl,Fu,⟨h1,h2⟩=>by
   unfold gY
   by_cases h0:2*i+1<m
   ·rw [dif_pos h0]
    obtain ⟨p1,p2⟩:=QY (es:=es) h0
    have p3:=yL es i m
    have p4:=HF es i m h0
    generalize fW es i m=j at *
    by_cases hc:dI (ga es j) (ga es i)<0
    ·rw [if_pos hc]
     have g:=fun k=>Aw (es:=es) (i:=i) (j:=j) (by omega) (by omega) k
     have hD:zy (sw es i j) m j:=by
      refine ⟨fun k a b c=>?_,fun k a b c e=>?_⟩
      ·rw [g k,g ((k - 1) / 2),if_neg c]
       by_cases e1:(k - 1) / 2=i
       ·rw [if_pos e1]
        by_cases e2:k=j
        ·rw [if_pos e2];exact vK hc
        ·rw [if_neg e2,if_neg (by omega)];exact p2 k a b e1
       ·rw [if_neg e1,if_neg (by intro h;subst h;exact e1 p1)]
        by_cases e2:k=i
        ·rw [if_pos e2]
         subst e2
         exact h2 j (by omega) p4 p1 a
        ·rw [if_neg e2];exact h1 k a b e1
      ·rw [g k,g ((j - 1) / 2),p1,if_neg (by omega),if_pos rfl,if_neg (by omega),if_neg (by omega)]
       have:=h1 k a b (by omega)
       rw [c] at this
       exact this
     match d,hd with
     | 0,hd=>omega
     | d+1,hd=>
       obtain ⟨r1,r2,r3⟩:=Ei m d j (sw es i j) (by omega) (by rw [oq];exact hl) (by omega) hD
       refine ⟨r1,r2.trans ?_,fun k hk=>?_⟩
       ·rw [CP (by omega) p4 hl]
        exact CO (by simp;omega) (by simp;omega)
       ·rw [r3 k hk,g k,if_neg (by omega),if_neg (by omega)]
    ·rw [if_neg hc]
     refine ⟨fun k a b=>?_,List.Perm.refl _,fun _ _=>rfl⟩
     by_cases e1:(k - 1) / 2=i
     ·rw [e1];exact vL (yh hc) (p2 k a b e1)
     ·exact h1 k a b e1
   ·rw [dif_neg h0]
    exact ⟨fun k a b=>h1 k a b (by omega),List.Perm.refl _,fun _ _=>rfl⟩
theorem Rh {es:List aH} {n:Nat} {e:aH} (hl:n≤es.length) (h:jX es n):jX (oU es n e) (n+1)∧(oU es n e).Perm (e::es.take n)∧(oU es n e).length=n+1:=by
 have hlen:(es.take n++[e]).length=n+1:=by simp;omega
 have g:∀ k,k<n→ga (es.take n++[e]) k=ga es k:=fun k hk=>by
  rw [← iP (by omega),← iP (by omega),List.getElem_append_left (by simp;omega)];simp
 have hU:zB (es.take n++[e]) (n+1) n:=by
  refine ⟨fun k a b c=>?_,fun k a b c d=>by omega⟩
  rw [g k (by omega),g _ (by omega)]
  exact h k a (by omega)
 obtain ⟨r1,r2⟩:=Jc (n+1) n n _ (Nat.le_refl _) (by omega) (by omega) hU
 have rW:(oU es n e).length=n+1:=by unfold oU;rw [Ts,hlen]
 refine ⟨r1,?_,rW⟩
 unfold oU at rW ⊢
 rw [List.take_of_length_le (Nat.le_of_eq rW),List.take_of_length_le (Nat.le_of_eq hlen)] at r2
 exact r2.trans (List.perm_append_comm.trans (by simp))
theorem yM {es:List aH} {n:Nat} (hl:n≤es.length) (h0:0<n) (h:jX es n):jX (fl es n) (n - 1)∧ga (fl es n) (n - 1)=ga es 0∧(es.take n).Perm (ga es 0::(fl es n).take (n - 1))∧(fl es n).length=es.length:=by
 have g:=fun k=>Aw (es:=es) (i:=0) (j:=n - 1) (by omega) (by omega) k
 have hD:zy (sw es 0 (n - 1)) (n - 1) 0:=by
  refine ⟨fun k a b c=>?_,fun k a b c d=>by omega⟩
  rw [g k,g ((k - 1) / 2),if_neg (by omega),if_neg c,if_neg (by omega),if_neg (by omega)]
  exact h k a (by omega)
 obtain ⟨r1,r2,r3⟩:=Ei (n - 1) (n - 1) 0 (sw es 0 (n - 1)) (by omega) (by rw [oq];omega) (by omega) hD
 have e0:ga (sw es 0 (n - 1)) (n - 1)=ga es 0:=by rw [g,if_pos rfl]
 refine ⟨r1,by unfold fl;rw [r3 _ (Nat.le_refl _),e0],?_,by unfold fl;rw [Eh _ _ _ _ rfl,oq]⟩
 have h1:((sw es 0 (n - 1)).take n).Perm (es.take n):=by
  rw [CP (by omega) (by omega) hl]
  exact CO (by simp;omega) (by simp;omega)
 have h2:(sw es 0 (n - 1)).take n=(sw es 0 (n - 1)).take (n - 1)++[ga es 0]:=by
  have hlt:n - 1<(sw es 0 (n - 1)).length:=by rw [oq];omega
  have h3:=List.take_succ_eq_append_getElem hlt
  rw [iP hlt,e0,show n - 1+1=n by omega] at h3
  exact h3
 rw [h2] at h1
 refine h1.symm.trans (List.perm_append_comm.trans ?_)
 simp -implicitDefEqProofs only [List.singleton_append]
 exact List.Perm.cons _ r2.symm
end Go.ay

namespace Go.ay
open Go
theorem GC (es:List aH):∀ k,k≤es.length→∀ j,j<k→ep (ga es (jr es k).toNat) (ga es j)
 | 0,_,j,hj=>by omega
 | k+1,hk,j,hj=>by
   have ih:=GC es k (by omega)
   unfold jr
   by_cases hc:jr es k<0∨sk (ga es k) (ga es (jr es k).toNat)=true
   ·rw [if_pos hc,Int.toNat_natCast]
    by_cases e:j=k
    ·subst e;exact yj _
    ·have hj2:j<k:=by omega
     rcases hc with hc | hc
     ·exfalso
      have:∃ q,k=q+1:=⟨k - 1,by omega⟩
      obtain ⟨q,rfl⟩:=this
      have:=BH es q
      unfold jr at hc
      split at hc <;> omega
     ·exact vL (vK (GI.1 hc)) (ih j hj2)
   ·rw [if_neg hc]
    have ko:¬ sk (ga es k) (ga es (jr es k).toNat)=true:=fun h=>hc (.inr h)
    rw [GI] at ko
    by_cases e:j=k
    ·subst e;exact yh ko
    ·exact ih j (by omega)
theorem least_le {es:List aH} {x:aH} (h:x∈es):ep (ga es (lB es)) x:=by
 obtain ⟨j,hj,rfl⟩:=List.getElem_of_mem h
 rw [iP hj]
 exact GC es es.length (Nat.le_refl _) j hj
theorem wv {es:List aH} {i:Nat} (h:i<es.length):es.Perm (ga es i::sG es i):=by
 unfold sG
 rw [← iP h]
 have:es=es.take i++(es[i]::es.drop (i+1)):=by rw [← List.drop_eq_getElem_cons h,List.take_append_drop]
 conv=>lhs;rw [this]
 exact List.perm_middle
theorem PM {a b:List aH} (h:a.Perm b) (h0:0<a.length):ga a (lB a)=ga b (lB b):=by
 have hb:0<b.length:=by rw [← h.length_eq];exact h0
 exact Gz (least_le (h.symm.subset (Av (kA b hb)))) (least_le (h.subset (Av (kA a h0))))
theorem uc:fH []=[]:=by unfold fH;rfl
theorem we {es:List aH} (h:0<es.length):fH es=ga es (lB es)::fH (sG es (lB es)):=by
 rw [fH,dif_pos h]
theorem CA:∀ (m:Nat) (a b:List aH),a.length≤m→a.Perm b→fH a=fH b
 | m,a,b,hm,h=>by
   by_cases h0:0<a.length
   ·have hb:0<b.length:=by rw [← h.length_eq];exact h0
    have e:=PM h h0
    rw [we h0,we hb,e]
    congr 1
    match m,hm with
    | 0,hm=>omega
    | m+1,hm=>
      refine CA m _ _ (by rw [zw (kA a h0)];omega) ?_
      have h1:=(wv (kA a h0)).symm.trans (h.trans (wv (kA b hb)))
      rw [e] at h1
      exact h1.cons_inv
   ·have ha:a=[]:=List.eq_nil_of_length_eq_zero (by omega)
    subst ha
    have hb:b=[]:=h.symm.eq_nil
    rw [hb]
theorem Sg {es r:List aH} {x:aH} (h:es.Perm (x::r)) (hx:∀ y∈es,ep x y):fH es=x::fH r:=by
 have h0:0<es.length:=by rw [h.length_eq];simp
 have e:ga es (lB es)=x:=Gz (least_le (h.symm.subset (by simp))) (hx _ (Av (kA es h0)))
 rw [we h0,e]
 congr 1
 refine CA _ _ _ (Nat.le_refl _) ?_
 have h1:=(wv (kA es h0)).symm.trans h
 rw [e] at h1
 exact h1.cons_inv
def Sh (es:List aH):Nat→Bool
 | 0=>true
 | k+1=>if dI (ga es (k+1)) (ga es k)<0 then false else Sh es k
theorem AP {es:List aH} {n:Nat} (hl:n≤es.length) (h0:0<n) (h:jX es n):fH (es.take n)=ga (fl es n) (n - 1)::fH ((fl es n).take (n - 1)):=by
 obtain ⟨r1,r2,r3,r4⟩:=yM hl h0 h
 rw [r2]
 refine Sg r3 fun y hy=>?_
 obtain ⟨j,hj,rfl⟩:=List.getElem_of_mem hy
 rw [iP hj,CS (by simp at hj;omega)]
 exact Fm h j j (Nat.le_refl _) (by simp at hj;omega)
end Go.ay

namespace Go.ay
open Go
theorem zc:∀ (m:Nat) (es:List aH),es.length≤m→(fH es).Perm es
 | m,es,hm=>by
   by_cases h0:0<es.length
   ·rw [we h0]
    match m,hm with
    | 0,hm=>omega
    | m+1,hm=>exact ((zc m _ (by rw [zw (kA es h0)];omega)).cons _).trans (wv (kA es h0)).symm
   ·obtain rfl:es=[]:=List.eq_nil_of_length_eq_zero (by omega)
    rw [uc]
theorem CB:∀ (m:Nat) (es:List aH),es.length≤m→(fH es).Pairwise ep
 | m,es,hm=>by
   by_cases h0:0<es.length
   ·rw [we h0]
    match m,hm with
    | 0,hm=>omega
    | m+1,hm=>
      have hl:(sG es (lB es)).length≤m:=by rw [zw (kA es h0)];omega
      refine List.pairwise_cons.2 ⟨fun y hy=>least_le ?_,CB m _ hl⟩
      exact (wv (kA es h0)).symm.subset (.tail _ ((zc m _ hl).subset hy))
   ·obtain rfl:es=[]:=List.eq_nil_of_length_eq_zero (by omega)
    rw [uc];exact .nil
def fG (l:List Nd) (n:Nat):List Nat:=bG (cA l n) l.length
def eP (l:List Nd) (n:Nat):List Nat:=bG (cu l n) l.length
def dj (l:List Nd) (m:Nat):aH:=⟨(eu l m).z,m,0⟩
def iN (l:List Nd) (n:Nat):List aH:=fH ((eP l n).map (dj l))
def ec (l:List Nd) (n:Nat):List aH:=(iN l n).takeWhile fun e=>decide (e.key<0)
def cW (l:List Nd) (n:Nat):List aH:=(iN l n).dropWhile fun e=>decide (e.key<0)
def fk (l:List Nd) (f:Nat→List Nat) (m:Nat):List Nat:=if dB l m=true then f m else m::fG l m
def dQ (l:List Nd):Nat→Nat→List Nat
 | 0,_=>[]
 | d+1,n=>[n]++((ec l n).flatMap fun e=>fk l (dQ l d) e.tie.toNat)++fG l n++((cW l n).flatMap fun e=>fk l (dQ l d) e.tie.toNat)
theorem yp {q:Nat→Bool} {k x:Nat}:x∈bG q k↔x<k∧q x=true:=by simp [bG]
theorem qK (l:List Nd) (n:Nat):ec l n++cW l n=iN l n:=List.takeWhile_append_dropWhile
theorem CL {l:List Nd} {n:Nat} {e:aH}:e∈iN l n↔∃ m∈eP l n,e=dj l m:=by
 unfold iN
 rw [(zc _ _ (Nat.le_refl _)).mem_iff,List.mem_map]
 exact ⟨fun ⟨m,h1,h2⟩=>⟨m,h1,h2.symm⟩,fun ⟨m,h1,h2⟩=>⟨m,h1,h2.symm⟩⟩
theorem CU {α:Type} {p:α→Bool}:∀ {xs:List α} {x:α},x∈xs.takeWhile p→p x=true
 | [],x,h=>by simp at h
 | y::ys,x,h=>by
   rw [List.takeWhile_cons] at h
   split at h
   ·rename_i hp
    rcases List.mem_cons.1 h with rfl | h
    ·exact hp
    ·exact CU h
   ·simp at h
theorem Ek:∀ {xs:List aH} {x:aH},xs.Pairwise ep→x∈xs.dropWhile (fun e=>decide (e.key<0))→0≤x.key
 | [],x,_,h=>by simp at h
 | y::ys,x,hp,h=>by
   rw [List.dropWhile_cons] at h
   rw [List.pairwise_cons] at hp
   split at h
   ·exact Ek hp.2 h
   ·rename_i hk
    have hk:0≤y.key:=by simpa using hk
    rcases List.mem_cons.1 h with rfl | h
    ·exact hk
    ·have:=hp.1 x h
     unfold ep at this
     rw [rG] at this;omega
theorem GR {l:List Nd} {n:Nat} {e:aH} (h:e∈ec l n):e.key<0:=by simpa using CU h
theorem Ft {l:List Nd} {n:Nat} {e:aH} (h:e∈cW l n):0≤e.key:=Ek (CB _ _ (Nat.le_refl _)) h
theorem BK {l:List Nd} {n:Nat} {e:aH} (h:e∈ec l n):∃ m∈eP l n,e=dj l m:=CL.1 (by rw [← qK];exact List.mem_append_left _ h)
theorem xO {l:List Nd} {n:Nat} {e:aH} (h:e∈cW l n):∃ m∈eP l n,e=dj l m:=CL.1 (by rw [← qK];exact List.mem_append_right _ h)
theorem RY (q:Nat→Bool) (k:Nat):(bG q k).Nodup:=by unfold bG;exact List.Pairwise.filter _ List.nodup_range
theorem KS {l:List Nd} {a b:Nat} (h:a≠b):dj l a≠dj l b:=fun e=>h (by have:=congrArg aH.tie e;simp [dj] at this;omega)
theorem Tc (l:List Nd) (n:Nat):(iN l n).Pairwise fun a b=>ep a b∧a≠b:=by
 have h1:=CB _ ((eP l n).map (dj l)) (Nat.le_refl _)
 have h2:(iN l n).Nodup:=by
  refine (zc _ ((eP l n).map (dj l)) (Nat.le_refl _)).symm.nodup ?_
  exact List.Pairwise.map _ (fun a b hab=>KS hab) (RY _ _)
 exact h1.and h2
def qL (l:List Nd) (a b:Nat):Prop:=ez (gT l a) (gT l b)<0
theorem Ku (h x y:List ef):ez (h++x) (h++y)=ez x y:=by
 induction h with
 | nil=>rfl
 | cons a h ih=>rw [List.cons_append,List.cons_append,ez,if_neg (by simp [uE]),ih]
def kQ (l:List Nd) (n:Nat) (s:ef) (x:Nat):Prop:=∃ w,gT l x=tj l n++s::w
theorem qh {l:List Nd} {n x y:Nat} {s t:ef} (hx:kQ l n s x) (hy:kQ l n t y) (h:gB s t<0):qL l x y:=by
 obtain ⟨u,hu⟩:=hx
 obtain ⟨v,hv⟩:=hy
 unfold qL
 rw [hu,hv,Ku,ez,if_pos (by omega)];exact h
theorem vY {l:List Nd} {n:Nat} (h:cY l n=true):kQ l n ⟨0,0,0⟩ n:=by
 refine ⟨[],?_⟩
 have hg:=xA h
 simp -implicitDefEqProofs only [gT,gQ h,if_true,zu,hg,yg,tj,List.reverse_cons]
theorem yq {l:List Nd} {n m:Nat} (h:m∈fG l n):m<l.length∧aT l m=true∧dU l m=n∧m≠n:=by
 obtain ⟨h1,h2⟩:=yp.1 h
 simp -implicitDefEqProofs only [cA,Bool.and_eq_true,decide_eq_true_eq,beq_iff_eq] at h2
 refine ⟨h1,?_,h2.2,h2.1⟩
 cases hm:aT l m with
 | true=>rfl
 | false=>have:=h2.2;simp [dU,hm] at this
theorem pZ {l:List Nd} {n m:Nat} (h:m∈fG l n):kQ l n ⟨2,0,m⟩ m:=by
 obtain ⟨_,hm,hg,hne⟩:=yq h
 refine ⟨[],?_⟩
 simp -implicitDefEqProofs only [gT,hm,if_true,zu,hg,yg,tj,List.reverse_cons]
 rw [if_neg (by omega)]
theorem tN {l:List Nd} {n p:Nat} (h:p∈eP l n):p<l.length∧cY l p=true∧eG l p=n∧p≠n∧0<p:=by
 obtain ⟨h1,h2⟩:=yp.1 h
 have h3:=h2
 simp -implicitDefEqProofs only [cu,Bool.and_eq_true,decide_eq_true_eq,beq_iff_eq] at h2
 refine ⟨h1,h2.1.2,h2.2,h2.1.1,?_⟩
 apply Nat.pos_of_ne_zero
 rintro rfl
 rw [yJ (.inr rfl)] at h3;cases h3
theorem QX {l:List Nd} {n p:Nat} (h:p∈eP l n):tj l p=tj l n++[iy l p]:=by
 obtain ⟨_,_,hc,_,h0⟩:=tN h
 unfold tj
 rw [iF (by omega),hc,List.map_cons,List.reverse_cons]
theorem uh {l:List Nd} {n p x:Nat} {s:ef} (h:p∈eP l n) (hx:kQ l p s x):kQ l n (iy l p) x:=by
 obtain ⟨w,hw⟩:=hx
 exact ⟨s::w,by rw [hw,QX h];simp⟩
theorem HE {l:List Nd} (hs:cP l) {n p:Nat} (h:p∈eP l n):n<p:=by
 obtain ⟨h1,h2,h3,h4,h5⟩:=tN h
 have:=wX (l:=l) (n:=(p:Int)) (by omega)
 omega
theorem rH {l:List Nd}:∀ (d n x:Nat),dB l n=true→x∈dQ l d n→(x<l.length∧aT l x=true)∧∃ s,kQ l n s x
 | 0,n,x,_,h=>by simp [dQ] at h
 | d+1,n,x,hf,h=>by
   have hP:∀ e,(∃ m∈eP l n,e=dj l m)→x∈fk l (dQ l d) e.tie.toNat→(x<l.length∧aT l x=true)∧∃ s,kQ l n s x:=fun e he hx=>by
    obtain ⟨m,hm,rfl⟩:=he
    obtain ⟨h1,h2,h3,h4,h5⟩:=tN hm
    have ht:(dj l m).tie.toNat=m:=by simp [dj]
    rw [ht] at hx
    unfold fk at hx
    split at hx
    ·rename_i gN
     obtain ⟨a,s,hu⟩:=rH d m x gN hx
     exact ⟨a,_,uh hm hu⟩
    ·rcases List.mem_cons.1 hx with rfl | hx
     ·exact ⟨⟨h1,gQ h2⟩,_,uh hm (vY h2)⟩
     ·obtain ⟨a,b,_,_⟩:=yq hx
      exact ⟨⟨a,b⟩,_,uh hm (pZ hx)⟩
   rw [dQ] at h
   simp -implicitDefEqProofs only [List.mem_append,List.mem_flatMap,List.mem_singleton] at h
   rcases h with ((rfl | ⟨e,he,hx⟩) | hx) | ⟨e,he,hx⟩
   ·have:=oF hf
    have hm:=gQ this
    exact ⟨⟨by simp [aT,dD] at hm;exact hm.1,hm⟩,_,vY this⟩
   ·exact hP e (BK he) hx
   ·obtain ⟨a,b,_,_⟩:=yq hx
    exact ⟨⟨a,b⟩,_,pZ hx⟩
   ·exact hP e (xO he) hx
end Go.ay

namespace Go.ay
open Go
theorem Te {l:List Nd} {a b:Nat} (h:(eu l a).z<(eu l b).z∨((eu l a).z=(eu l b).z∧a<b)):gB (iy l a) (iy l b)<0:=by
 rw [wU]
 unfold iy
 split <;> split <;>(try split) <;>(try split) <;> simp <;> omega
theorem CM {l:List Nd} {a:Nat} (h:(eu l a).z<0):(iy l a).fS=1:=by unfold iy;rw [if_pos h]
theorem Td {l:List Nd} {a:Nat} (h:0≤(eu l a).z):3≤(iy l a).fS:=by
 unfold iy
 rw [if_neg (by omega)]
 split <;> simp
theorem sj {a b:ef} (h:a.fS<b.fS):gB a b<0:=wU.2 (.inl h)
theorem Hf {l:List Nd} {n:Nat}:(fG l n).Pairwise (qL l):=by
 have h:(fG l n).Pairwise (·< ·):=by unfold fG bG;exact List.Pairwise.filter _ List.pairwise_lt_range
 refine List.Pairwise.imp_of_mem (fun {a b} ha hb hab=>?_) h
 exact qh (pZ ha) (pZ hb) (wU.2 (.inr ⟨rfl,.inr ⟨rfl,by simpa using hab⟩⟩))
theorem yK {l:List Nd} {d n p x:Nat} (hp:p∈eP l n) (hx:x∈fk l (dQ l d) p):kQ l n (iy l p) x:=by
 unfold fk at hx
 split at hx
 ·rename_i gN
  obtain ⟨a,s,hu⟩:=rH d p x gN hx
  exact uh hp hu
 ·rcases List.mem_cons.1 hx with rfl | hx
  ·exact uh hp (vY (tN hp).2.1)
  ·exact uh hp (pZ hx)
theorem Ab {l:List Nd}:∀ (d n:Nat),dB l n=true→(dQ l d n).Pairwise (qL l)
 | 0,n,_=>.nil
 | d+1,n,hf=>by
   have fE:∀ p,p∈eP l n→(fk l (dQ l d) p).Pairwise (qL l):=fun p hp=>by
    unfold fk
    split
    ·rename_i h;exact Ab d p h
    ·refine List.pairwise_cons.2 ⟨fun y hy=>?_,Hf⟩
     exact qh (vY (tN hp).2.1) (pZ hy) (sj (by simp))
   have hE:∀ (E:List aH),(∀ e∈E,∃ m∈eP l n,e=dj l m)→E.Pairwise (fun a b=>ep a b∧a≠b)→(E.flatMap fun e=>fk l (dQ l d) e.tie.toNat).Pairwise (qL l):=fun E hm No=>by
    rw [List.pairwise_flatMap]
    refine ⟨fun e he=>?_,List.Pairwise.imp_of_mem (fun {a b} ha hb hab x hx y hy=>?_) No⟩
    ·obtain ⟨m,h1,rfl⟩:=hm e he
     have ht:(dj l m).tie.toNat=m:=by simp [dj]
     rw [ht];exact fE m h1
    ·obtain ⟨m,h1,rfl⟩:=hm a ha
     obtain ⟨k,h2,rfl⟩:=hm b hb
     have t1:(dj l m).tie.toNat=m:=by simp [dj]
     have t2:(dj l k).tie.toNat=k:=by simp [dj]
     rw [t1] at hx
     rw [t2] at hy
     refine qh (yK h1 hx) (yK h2 hy) (Te ?_)
     obtain ⟨q1,q2⟩:=hab
     unfold ep at q1
     rw [rG] at q1
     have hmk:m≠k:=fun e=>q2 (by rw [e])
     simp -implicitDefEqProofs only [dj] at q1
     omega
   have hsp:=Tc l n
   rw [← qK,List.pairwise_append] at hsp
   have eL:∀ e∈ec l n,∃ m∈eP l n,e=dj l m:=fun e he=>BK he
   have eH:∀ e∈cW l n,∃ m∈eP l n,e=dj l m:=fun e he=>xO he
   have uL:∀ x,x∈((ec l n).flatMap fun e=>fk l (dQ l d) e.tie.toNat)→∃ p∈eP l n,(eu l p).z<0∧kQ l n (iy l p) x:=fun x hx=>by
    obtain ⟨e,he,hx⟩:=List.mem_flatMap.1 hx
    have hk:=GR he
    obtain ⟨m,h1,rfl⟩:=eL e he
    have ht:(dj l m).tie.toNat=m:=by simp [dj]
    rw [ht] at hx
    exact ⟨m,h1,hk,yK h1 hx⟩
   have uH:∀ x,x∈((cW l n).flatMap fun e=>fk l (dQ l d) e.tie.toNat)→∃ p∈eP l n,0≤(eu l p).z∧kQ l n (iy l p) x:=fun x hx=>by
    obtain ⟨e,he,hx⟩:=List.mem_flatMap.1 hx
    have hk:=Ft he
    obtain ⟨m,h1,rfl⟩:=eH e he
    have ht:(dj l m).tie.toNat=m:=by simp [dj]
    rw [ht] at hx
    exact ⟨m,h1,hk,yK h1 hx⟩
   have u0:=vY (oF hf)
   rw [dQ,List.pairwise_append,List.pairwise_append,List.pairwise_append]
   refine ⟨⟨⟨List.pairwise_singleton _ _,hE _ eL hsp.1,fun a ha b hb=>?_⟩,Hf,fun a ha b hb=>?_⟩,hE _ eH hsp.2.1,fun a ha b hb=>?_⟩
   ·obtain ⟨p,h1,h2,h3⟩:=uL b hb
    rw [List.mem_singleton] at ha
    subst ha
    exact qh u0 h3 (sj (by rw [CM h2];simp))
   ·rcases List.mem_append.1 ha with ha | ha
    ·rw [List.mem_singleton] at ha
     subst ha
     exact qh u0 (pZ hb) (sj (by simp))
    ·obtain ⟨p,h1,h2,h3⟩:=uL a ha
     exact qh h3 (pZ hb) (sj (by rw [CM h2];simp))
   ·obtain ⟨p,h1,h2,h3⟩:=uH b hb
    have h4:=Td h2
    rcases List.mem_append.1 ha with ha | ha
    ·rcases List.mem_append.1 ha with ha | ha
     ·rw [List.mem_singleton] at ha
      subst ha
      exact qh u0 h3 (sj (by simp;omega))
     ·obtain ⟨p',g1,g2,g3⟩:=uL a ha
      exact qh g3 h3 (sj (by rw [CM g2];omega))
    ·exact qh (pZ ha) h3 (sj (by simp;omega))
theorem Qr {l:List Nd} {d n p x:Nat} (hp:p∈eP l n) (hx:x∈fk l (dQ l d) p):x∈dQ l (d+1) n:=by
 have h1:dj l p∈iN l n:=CL.2 ⟨p,hp,rfl⟩
 have ht:(dj l p).tie.toNat=p:=by simp [dj]
 rw [← qK] at h1
 rw [dQ]
 rcases List.mem_append.1 h1 with h1 | h1
 ·exact List.mem_append_left _ (List.mem_append_left _ (List.mem_append_right _ (List.mem_flatMap.2 ⟨_,h1,by rw [ht];exact hx⟩)))
 ·exact List.mem_append_right _ (List.mem_flatMap.2 ⟨_,h1,by rw [ht];exact hx⟩)
theorem DN {l:List Nd}:∀ (m:Nat) (g:Int) (u:List Int) (p:Int) (r:List Int),g.toNat≤m→chain l g=u++p::r→0<p∧r=chain l (eG l p)
 | m,g,u,p,r,hm,h=>by
   by_cases h0:0<g
   ·rw [iF h0] at h
    match u with
    | []=>
      rw [List.nil_append,List.cons.injEq] at h
      obtain ⟨rfl,rfl⟩:=h
      exact ⟨h0,rfl⟩
    | a::u=>
      rw [List.cons_append,List.cons.injEq] at h
      have hlt:=wX (l:=l) h0
      match m,hm with
      | 0,hm=>omega
      | m+1,hm=>exact DN m _ u p r (by omega) h.2
   ·rw [oC h0] at h;simp at h
theorem wS {l:List Nd} (hs:cP l):∀ (m:Nat) (g:Int) (c:Int),g.toNat≤m→aT l g=true→c∈chain l g→c=g∨dB l c=true
 | m,g,c,hm,hg,h=>by
   by_cases h0:0<g
   ·rw [iF h0] at h
    rcases List.mem_cons.1 h with rfl | h
    ·exact .inl rfl
    ·have hlt:=wX (l:=l) h0
     obtain ⟨k,hk⟩:∃ k:Nat,g=k:=⟨g.toNat,by omega⟩
     subst hk
     obtain ⟨u,a,b,e,f⟩:=Aa hs (by omega) hg
     match m,hm with
     | 0,hm=>omega
     | m+1,hm=>
       rcases wS hs m _ c (by omega) (by rw [b];exact gQ (oF e)) h with h | h
       ·rw [b] at h
        rw [h];exact .inr e
       ·exact .inr h
   ·rw [oC h0] at h;simp at h
theorem Ed {l:List Nd} (hs:cP l):∀ (d n x:Nat),dB l n=true→l.length<n+d→x<l.length→aT l x=true→n∈aL l x→x∈dQ l d n
 | 0,n,x,hf,hd,hx,hm,hn=>by have:=oT x n hn;omega
 | d+1,n,x,hf,hd,hx,hm,hn=>by
   obtain ⟨i,hi,h1,h2,h3⟩:=EL hn (oF hf)
   have hg:dU l x=(aL l x)[i]:=by simp [dU,hm,h1]
   rw [Ck x i hi] at h3
   have MR:=List.getElem_mem hi
   have oJ:=tU hx hi
   generalize (aL l x)[i]=g at *
   obtain ⟨u,hu⟩:=DM hf _ _ (Nat.le_refl _) oJ (gQ h2) h3
   have sg:x=g∨x∈fG l g:=by
    by_cases e:x=g
    ·exact .inl e
    ·exact .inr (yp.2 ⟨hx,by simp [cA,hg,e]⟩)
   rcases List.eq_nil_or_concat u with rfl | ⟨u',p,rfl⟩
   ·have MP:g=n:=by
     rw [List.nil_append] at hu
     by_cases g0:0<g
     ·by_cases n0:0<n
      ·rw [iF (by omega),iF (n:=(n:Int)) (by omega),List.cons.injEq] at hu;omega
      ·rw [iF (by omega),oC (n:=(n:Int)) (by omega)] at hu;simp at hu
     ·by_cases n0:0<n
      ·rw [oC (by omega),iF (n:=(n:Int)) (by omega)] at hu;simp at hu
      ·omega
    subst MP
    rw [dQ]
    refine List.mem_append_left _ ?_
    rcases sg with rfl | sg
    ·exact List.mem_append_left _ (List.mem_append_left _ (by simp))
    ·exact List.mem_append_right _ sg
   ·rw [List.concat_eq_append,List.append_assoc,List.singleton_append] at hu
    obtain ⟨gl,hr⟩:=DN _ _ _ _ _ (Nat.le_refl _) hu
    have kZ:p∈chain l g:=by rw [hu];simp
    obtain ⟨k,rfl,dw,MX⟩:=DL _ _ (Nat.le_refl _) oJ (gQ h2) p kZ
    have hkm:aT l k=true:=by
     rcases wS hs _ _ _ (Nat.le_refl _) (gQ h2) kZ with e | e
     ·rw [e];exact gQ h2
     ·exact gQ (oF e)
    have cX:cY l k=true:=by
     rcases wS hs _ _ _ (Nat.le_refl _) (gQ h2) kZ with e | e
     ·rw [e];exact h2
     ·exact oF e
    have MW:k<l.length:=by simp [aT,dD] at hkm;exact hkm.1
    obtain ⟨c,c1,c2,c3,c4⟩:=Aa hs dw hkm
    have ie:c=n:=by
     rw [c2] at hr
     by_cases n0:0<n
     ·rw [iF (n:=(n:Int)) (by omega)] at hr
      by_cases c0:0<c
      ·rw [iF (n:=(c:Int)) (by omega),List.cons.injEq] at hr;omega
      ·rw [oC (n:=(c:Int)) (by omega)] at hr;simp at hr
     ·rw [oC (n:=(n:Int)) (by omega)] at hr
      by_cases c0:0<c
      ·rw [iF (n:=(c:Int)) (by omega)] at hr;simp at hr
      ·omega
    subst ie
    have fE:k∈eP l c:=yp.2 ⟨MW,by simp [cu,cX,c2];omega⟩
    have hlt:=HE hs fE
    refine Qr fE ?_
    unfold fk
    split
    ·rename_i AU
     exact Ed hs d k x AU (by omega) hx hm (yO MR _ MX)
    ·rename_i AU
     rcases wS hs _ _ _ (Nat.le_refl _) (gQ h2) kZ with e | e
     ·have e:k=g:=by omega
      subst e
      rcases sg with rfl | sg
      ·exact .head _
      ·exact .tail _ sg
     ·exact absurd e AU
end Go.ay

namespace Go.ay
open Go
def dW (x:bA):kP:=⟨x.node,x.kind⟩
def gP (l:List Nd) (a b:bA):Prop:=fT l (dW a) (dW b)=true
def iM (l:List Nd) (bx:List Bx) (cl:List Rc):List bA:=(dQ l (l.length+1) 0).flatMap (bK l bx cl)
section
variable {l:List Nd} {bx:List Bx} {cl:List Rc}
theorem su {n:Nat} {x:bA} (h:x∈bK l bx cl n):x.node=n∧(x.kind=0∨x.kind=1):=by
 unfold bK iV rC sn at h
 rcases List.mem_append.1 h with h | h
 ·split at h
  ·simp at h
  ·simp at h;subst h;exact ⟨rfl,.inl rfl⟩
 ·split at h
  ·simp at h
  ·simp at h;subst h;exact ⟨rfl,.inr rfl⟩
theorem QN {n:Nat}:(bK l bx cl n).length≤2:=by
 unfold bK iV rC sn
 split <;> split <;> simp
theorem Hx {n:Nat} (hm:aT l n=true):(bK l bx cl n).Pairwise (gP l):=by
 unfold bK iV rC sn
 split <;> split <;> simp
 unfold gP fT dW
 simp [hm]
theorem Hz (hs:cP l) (h0:aT l 0=true) {x:bA}:x∈iM l bx cl↔∃ n,n<l.length∧aT l n=true∧x∈bK l bx cl n:=by
 have hf:=uO h0
 unfold iM
 rw [List.mem_flatMap]
 constructor
 ·rintro ⟨n,hn,hx⟩
  obtain ⟨⟨a,b⟩,_⟩:=rH _ 0 n hf hn
  exact ⟨n,a,b,hx⟩
 ·rintro ⟨n,hn,hm,hx⟩
  exact ⟨n,Ed hs _ 0 n hf (by omega) hn hm (wA hs n n (by omega) hn),hx⟩
theorem HA (h0:aT l 0=true):(iM l bx cl).Pairwise (gP l):=by
 have hf:=uO h0
 unfold iM
 rw [List.pairwise_flatMap]
 refine ⟨fun n hn=>Hx (rH _ 0 n hf hn).1.2,List.Pairwise.imp_of_mem (fun {a b} ha hb hab x hx y hy=>?_) (Ab _ 0 hf)⟩
 obtain ⟨⟨a1,a2⟩,_⟩:=rH _ 0 a hf ha
 obtain ⟨⟨b1,b2⟩,_⟩:=rH _ 0 b hf hb
 obtain ⟨x1,_⟩:=su hx
 obtain ⟨y1,_⟩:=su hy
 unfold gP
 rw [vN]
 have hne:a≠b:=fun e=>by
  subst e
  unfold qL at hab
  rw [uF.2 rfl] at hab;omega
 simp -implicitDefEqProofs only [dW,x1,y1]
 exact ⟨a2,b2,.inr ⟨by omega,hab⟩⟩
theorem Gc {a:bA}:¬ gP l a a:=fun h=>yl h h
theorem Iu:∀ {xs ys:List bA},xs.Pairwise (gP l)→ys.Pairwise (gP l)→(∀ a,a∈xs↔a∈ys)→xs=ys
 | [],[],_,_,_=>rfl
 | [],y::ys,_,_,h=>by have:=(h y).2 (.head _);simp at this
 | x::xs,[],_,_,h=>by have:=(h x).1 (.head _);simp at this
 | x::xs,y::ys,hx,hy,h=>by
   rw [List.pairwise_cons] at hx hy
   have e:x=y:=by
    rcases List.mem_cons.1 ((h x).1 (.head _)) with e | h1
    ·exact e
    ·rcases List.mem_cons.1 ((h y).2 (.head _)) with e | h2
     ·exact e.symm
     ·exact absurd (hx.1 y h2) (fun q=>yl q (hy.1 x h1))
   subst e
   congr 1
   refine Iu hx.2 hy.2 (fun a=>⟨fun ha=>?_,fun ha=>?_⟩)
   ·rcases List.mem_cons.1 ((h a).1 (.tail _ ha)) with e | h1
    ·subst e;exact absurd (hx.1 a ha) Gc
    ·exact h1
   ·rcases List.mem_cons.1 ((h a).2 (.tail _ ha)) with e | h1
    ·subst e;exact absurd (hy.1 a ha) Gc
    ·exact h1
def Bt (l:List Nd) (x:bA) (out:List bA):Nat:=(out.takeWhile fun y=>fT l (dW y) (dW x)).length
def qE (l:List Nd) (x:bA) (out:List bA):List bA:=out.take (Bt l x out)++[x]++out.drop (Bt l x out)
theorem CV {α:Type} {p:α→Bool}:∀ {xs:List α},xs.take (xs.takeWhile p).length=xs.takeWhile p∧xs.drop (xs.takeWhile p).length=xs.dropWhile p
 | []=>⟨rfl,rfl⟩
 | x::xs=>by
   rw [List.takeWhile_cons,List.dropWhile_cons]
   split
   ·obtain ⟨a,b⟩:=CV (p:=p) (xs:=xs)
    exact ⟨by rw [List.length_cons,List.take_succ_cons,a],by rw [List.length_cons,List.drop_succ_cons,b]⟩
   ·exact ⟨rfl,rfl⟩
theorem FT {x:bA} {out:List bA}:qE l x out=(out.takeWhile fun y=>fT l (dW y) (dW x))++x::(out.dropWhile fun y=>fT l (dW y) (dW x)):=by
 unfold qE Bt
 rw [CV.1,CV.2];simp
theorem FU {x a:bA} {out:List bA}:a∈qE l x out↔a=x∨a∈out:=by
 rw [FT,List.mem_append,List.mem_cons]
 constructor
 ·rintro (h | h | h)
  ·exact .inr ((List.takeWhile_sublist _).subset h)
  ·exact .inl h
  ·exact .inr ((List.dropWhile_sublist _).subset h)
 ·rintro (h | h)
  ·exact .inr (.inl h)
  ·rw [← List.takeWhile_append_dropWhile (p:=fun y=>fT l (dW y) (dW x)) (l:=out),List.mem_append] at h
   exact h.elim .inl (fun h=>.inr (.inr h))
theorem Ej {x:bA}:∀ {out:List bA} {y:bA} {r:List bA},(out.dropWhile fun y=>fT l (dW y) (dW x))=y::r→fT l (dW y) (dW x)=false
 | [],y,r,h=>by simp at h
 | z::zs,y,r,h=>by
   rw [List.dropWhile_cons] at h
   split at h
   ·exact Ej h
   ·rename_i hz;cases h;simpa using hz
theorem NI {x:bA} {out:List bA} (hp:out.Pairwise (gP l)) (hx:aT l x.node=true) (ho:∀ y∈out,aT l y.node=true∧dW y≠dW x):(qE l x out).Pairwise (gP l):=by
 have hsplit:=List.takeWhile_append_dropWhile (p:=fun y=>fT l (dW y) (dW x)) (l:=out)
 rw [FT]
 have h2:=hp
 rw [← hsplit,List.pairwise_append] at h2
 obtain ⟨p1,p2,p3⟩:=h2
 have hgt:∀ y∈(out.dropWhile fun y=>fT l (dW y) (dW x)),gP l x y:=by
  cases hd:(out.dropWhile fun y=>fT l (dW y) (dW x)) with
  | nil=>intro y hy;simp at hy
  | cons z r=>
    have hz:=Ej hd
    have FP:z∈out:=(List.dropWhile_sublist _).subset (by rw [hd];exact .head _)
    have hxz:gP l x z:=by
     rcases PV hx (ho z FP).1 (Ne.symm (ho z FP).2) with h | h
     ·exact h
     ·rw [hz] at h;cases h
    rw [hd,List.pairwise_cons] at p2
    intro y hy
    rcases List.mem_cons.1 hy with rfl | hy
    ·exact hxz
    ·exact PW hxz (p2.1 y hy)
 rw [List.pairwise_append,List.pairwise_cons]
 refine ⟨p1,⟨hgt,p2⟩,fun a ha b hb=>?_⟩
 rcases List.mem_cons.1 hb with rfl | hb
 ·exact CU (p:=fun y=>fT l (dW y) (dW b)) ha
 ·exact p3 a ha b hb
theorem FR:∀ (xs out:List bA),out.Pairwise (gP l)→(∀ x∈xs,aT l x.node=true)→xs.Pairwise (fun a b=>dW a≠dW b)→(∀ y∈out,aT l y.node=true∧∀ x∈xs,dW y≠dW x)→
 (xs.foldl (fun o x=>qE l x o) out).Pairwise (gP l)∧∀ a,a∈xs.foldl (fun o x=>qE l x o) out↔a∈out∨a∈xs
 | [],out,hp,_,_,_=>⟨hp,fun a=>by simp⟩
 | x::xs,out,hp,hm,hd,ho=>by
   rw [List.pairwise_cons] at hd
   rw [List.foldl_cons]
   obtain ⟨h1,h2⟩:=FR xs (qE l x out) (NI hp (hm x (.head _)) (fun y hy=>⟨(ho y hy).1,(ho y hy).2 x (.head _)⟩)) (fun y hy=>hm y (.tail _ hy)) hd.2 (fun y hy=>by
    rcases FU.1 hy with rfl | hy
    ·exact ⟨hm y (.head _),fun z hz=>hd.1 z hz⟩
    ·exact ⟨(ho y hy).1,fun z hz=>(ho y hy).2 z (.tail _ hz)⟩)
   refine ⟨h1,fun a=>?_⟩
   rw [h2,FU,List.mem_cons]
   constructor
   ·rintro ((h | h) | h)
    ·exact .inr (.inl h)
    ·exact .inl h
    ·exact .inr (.inr h)
   ·rintro (h | h | h)
    ·exact .inl (.inr h)
    ·exact .inl (.inl h)
    ·exact .inr h
end
def oV (l:List Nd) (bx:List Bx) (cl:List Rc):Nat→List bA
 | 0=>[]
 | k+1=>if aT l k=true then (bK l bx cl k).foldl (fun o x=>qE l x o) (oV l bx cl k) else oV l bx cl k
section
variable {l:List Nd} {bx:List Bx} {cl:List Rc}
theorem HN:∀ k:Nat,(oV l bx cl k).Pairwise (gP l)∧∀ a,a∈oV l bx cl k↔∃ n,n<k∧aT l n=true∧a∈bK l bx cl n
 | 0=>⟨.nil,fun a=>by simp [oV]⟩
 | k+1=>by
   obtain ⟨h1,h2⟩:=HN k
   rw [oV]
   split
   ·rename_i hm
    have hmem:=fun x (hx:x∈bK l bx cl k)=>su hx
    obtain ⟨g1,g2⟩:=FR (bK l bx cl k) (oV l bx cl k) h1 (fun x hx=>by rw [(hmem x hx).1];exact hm)
     (List.Pairwise.imp (fun {a b} hab e=>by unfold gP at hab;rw [e] at hab;exact yl hab hab) (Hx hm))
     (fun y hy=>by
       obtain ⟨n,hn,hnm,Ni⟩:=(h2 y).1 hy
       obtain ⟨y1,_⟩:=su Ni
       refine ⟨by rw [y1];exact hnm,fun x hx e=>?_⟩
       have:=congrArg kP.n e
       simp -implicitDefEqProofs only [dW,y1,(hmem x hx).1] at this
       omega)
    refine ⟨g1,fun a=>?_⟩
    rw [g2,h2]
    constructor
    ·rintro (⟨n,a1,a2,a3⟩ | h)
     ·exact ⟨n,by omega,a2,a3⟩
     ·exact ⟨k,by omega,hm,h⟩
    ·rintro ⟨n,a1,a2,a3⟩
     by_cases e:n=k
     ·subst e;exact .inr a3
     ·exact .inl ⟨n,by omega,a2,a3⟩
   ·rename_i hm
    refine ⟨h1,fun a=>?_⟩
    rw [h2]
    constructor
    ·rintro ⟨n,a1,a2,a3⟩;exact ⟨n,by omega,a2,a3⟩
    ·rintro ⟨n,a1,a2,a3⟩
     by_cases e:n=k
     ·subst e;exact absurd a2 hm
     ·exact ⟨n,by omega,a2,a3⟩
theorem Rv (hs:cP l) (h0:aT l 0=true):oV l bx cl l.length=iM l bx cl:=by
 obtain ⟨h1,h2⟩:=HN (l:=l) (bx:=bx) (cl:=cl) l.length
 exact Iu h1 (HA h0) fun a=>by rw [h2,Hz hs h0]
theorem BT:∀ (L:Nat) (xs:List Nat),xs.Nodup→(∀ x∈xs,x<L)→xs.length≤L
 | 0,xs,_,h=>by
   cases xs with
   | nil=>exact Nat.le_refl _
   | cons x xs=>have:=h x (.head _);omega
 | L+1,xs,hn,h=>by
   by_cases hL:L∈xs
   ·have h1:=BT L (xs.erase L) (hn.erase L) (fun x hx=>by
     have h2:=h x (List.mem_of_mem_erase hx)
     have h3:x≠L:=fun e=>by subst e;exact (List.Nodup.mem_erase_iff hn).1 hx |>.1 rfl
     omega)
    rw [List.length_erase_of_mem hL] at h1;omega
   ·have:=BT L xs hn (fun x hx=>by
     have h2:=h x hx
     have h3:x≠L:=fun e=>hL (e▸hx)
     omega)
    omega
theorem Ee {d n:Nat} (hf:dB l n=true):(dQ l d n).length≤l.length:=by
 refine BT _ _ ?_ (fun x hx=>(rH d n x hf hx).1.1)
 exact List.Pairwise.imp (fun {a b} h e=>by
  subst e
  unfold qL at h
  rw [uF.2 rfl] at h;omega) (Ab d n hf)
theorem At:∀ (ns:List Nat),(ns.flatMap (bK l bx cl)).length≤2*ns.length
 | []=>by simp
 | n::ns=>by
   have h1:=At ns
   have h2:=QN (l:=l) (bx:=bx) (cl:=cl) (n:=n)
   rw [List.flatMap_cons,List.length_append,List.length_cons];omega
end
end Go.ay

namespace Go.ay
open Go
theorem Pj:bC Go.Proofs.Try.prog 98 22 (fc Go.Proofs.Try.prog 98 22 []) []:=bP (by kernel_rfl)
def pM (l:List Nd):RV:=.sl 1 (eA (cA l) l.length)
def pP (l:List Nd):RV:=.sl 1 (eA (cu l) l.length)
def sM (f:Nat) (l:List Nd) (bx:List Bx) (cl:List Rc) (n:Nat) (ys:List bA):Prop:=
 ∀ i q:Nat,i≠q→∀ xs:List bA,(xs++ys).length≤100000000→
  aP Go.Proofs.Try.prog f [.ptr i 0,.rv (.int .i64 n)] [(i,cR l bx cl (pM l) (pP l) q xs),(q,.row 15 xs.length (ah (cE xs)))] [(i,cR l bx cl (pM l) (pP l) q (xs++ys)),(q,.row 15 (xs++ys).length (ah (cE (xs++ys))))] (.aR [])
theorem Cj (l:List Nd) (hb:l.length≤1000) (bx:List Bx) (cl:List Rc) (eU:bx.length=l.length) (dM:cl.length=l.length) (hf:bx.all iG=true) (n:Nat) (hn:n<l.length):sM 94 l bx cl n (bK l bx cl n):=
 fun i q dZ xs hx=>SI l hb bx cl eU dM hf (pM l) (pP l) rfl rfl i q dZ xs (by rw [List.length_append] at hx;omega) n hn
theorem He (q:Nat→Nat→Bool) (L:Nat):(eA q L).length=L:=by simp [eA]
theorem GZ {q:Nat→Nat→Bool} {L n:Nat} (h:n<L):(eA q L)[n]?.getD []=[.sl 1 (aS (bq (bG (q n) L)))]:=by simp [eA,h]
theorem Hl {xs:List Nat} {i:Nat} (h:i<xs.length):(aS (bq xs))[i]?.getD []=[.int .i64 ((xs[i]'h:Nat):Int)]:=by simp [aS,bq,h]
theorem Lg {ms:List Nat} {g:Nat→List bA} {k:Nat} (h:k<ms.length):(ms.take (k+1)).flatMap g=(ms.take k).flatMap g++g (ms[k]'h):=by
 rw [List.take_succ_eq_append_getElem h,List.flatMap_append];simp
theorem Le {ms:List Nat} {g:Nat→List bA} {k:Nat}:((ms.take k).flatMap g).length≤(ms.flatMap g).length:=by
 conv=>rhs;rw [← List.take_append_drop k ms,List.flatMap_append,List.length_append]
 omega
theorem Ci (l:List Nd) (hb:l.length≤1000) (bx:List Bx) (cl:List Rc) (eU:bx.length=l.length) (dM:cl.length=l.length) (hf:bx.all iG=true) (n:Nat) (hn:n<l.length):sM 98 l bx cl n ((fG l n).flatMap (bK l bx cl)):=by
 intro i q dZ xs hx
 refine eY Pj [i,q] [cR l bx cl (pM l) (pP l) 1 xs,.row 15 xs.length (ah (cE xs))] [cR l bx cl (pM l) (pP l) q xs,.row 15 xs.length (ah (cE xs))] [.ptr 0 0,.rv (.int .i64 n)] [.ptr i 0,.rv (.int .i64 n)] _ _ (by simp) (by simp [aW,eB,bD]) rfl (by simp [aQ,dZ]) (by simp [cI,cR,er,aW,bD,dP]) (fun K hK=>?_)
 have hml:=He (cA l) l.length
 have tu:=GZ (q:=cA l) hn
 have Ng:∀ m∈fG l n,m<l.length:=fun m hm=>(yq hm).1
 have hlen:(fG l n).length≤l.length:=za
 have pR:(aS (bq (fG l n))).length=(fG l n).length:=by simp [aS,bq]
 change _=[RV.sl 1 (aS (bq (fG l n)))] at tu
 conv in fc _ _ _ _=>reduce
 simp -implicitDefEqProofs only [cR,pM,pP,go_sem,Int.reduceNegSucc]
 generalize fG l n=ms at *
 repeat' (first | (simp -implicitDefEqProofs only [go_sem,Int.reduceNegSucc,hml,tu,pR]) | (with_reducible refine aC ?_) | ((first | refine ak (fun hg=>?_) (fun hg=>?_) | refine aI (fun hg=>?_) (fun hg=>?_) | refine aJ (fun hg=>?_) (fun hg=>?_)) <;> try simp -implicitDefEqProofs only [hg,Bool.not_true,Bool.not_false]) | ((with_reducible apply And.intro);focus (first | trivial | omega | decide | (simp -implicitDefEqProofs only [maxLen];omega) | (simp [maxLen,aj,aq,ax,aG,av,aF,aE] <;> omega))) | fail)
 refine dm (ι:=Nat) (fun k=>[(14,.rv (.int .i64 k)),(13,.rv (.int .i64 ms.length)),(12,.rv (.sl 1 (aS (bq ms)))),(0,.ptr 0 0)]) (fun k=>[some (.var [.rv (cq l),.rv (.sl 21 (cJ bx)),.rv (.sl 4 (cL cl)),.rv (.sl 1 (eA (cA l) l.length)),.rv (.sl 1 (eA (cu l) l.length)),.row 1 (xs++(ms.take k).flatMap (bK l bx cl)).length (xs++(ms.take k).flatMap (bK l bx cl)).length]),some (.row 15 (xs++(ms.take k).flatMap (bK l bx cl)).length (ah (cE (xs++(ms.take k).flatMap (bK l bx cl)))))]) (fun k=>k≤ms.length) (fun k=>ms.length - k) 0 (by simp) (by rw [List.take_zero,List.flatMap_nil,List.append_nil];exact bB (by simp [lk])) (fun k hk K' hN hX hR=>?_)
 obtain ⟨X,eO⟩:∃ X,X=xs++(ms.take k).flatMap (bK l bx cl):=⟨_,rfl⟩
 rw [← eO]
 simp -implicitDefEqProofs only [go_sem,Int.reduceNegSucc]
 refine ak (fun hg=>?_) (fun hg=>?_)
 ·have aA:k<ms.length:=by simp at hg;omega
  have wu:=dr (k:=k) (by omega)
  have hmk:=Hl aA
  have Ua:=Le (ms:=ms) (g:=bK l bx cl) (k:=k+1)
  have Fs:=Lg (g:=bK l bx cl) aA
  have ho:=Cj l hb bx cl eU dM hf (ms[k]'aA) (Ng _ (List.getElem_mem aA)) 0 1 (by decide) (xs++(ms.take k).flatMap (bK l bx cl)) (by rw [List.append_assoc,← Fs];rw [List.length_append] at hx ⊢;omega)
  rw [List.append_assoc xs,← Fs,← eO] at ho
  simp -implicitDefEqProofs only [cR,pM,pP] at ho
  obtain ⟨Y,jE⟩:∃ Y,Y=xs++(ms.take (k+1)).flatMap (bK l bx cl):=⟨_,rfl⟩
  rw [← jE] at ho
  generalize ms[k]'aA=m at *
  have bY:=ho;repeat' (first | (simp -implicitDefEqProofs only [go_sem,Int.reduceNegSucc,pR,hmk,wu]) | (with_reducible refine aC ?_) | (refine ck bY (by simp [aV,ag];done) (by simp [bf,aY];done) ?_) | (refine dY bY (by simp [aV,ag];done) (by simp [bf,aY];done) ?_) | ((first | refine ak (fun hg=>?_) (fun hg=>?_) | refine aI (fun hg=>?_) (fun hg=>?_) | refine aJ (fun hg=>?_) (fun hg=>?_)) <;> try simp -implicitDefEqProofs only [hg,Bool.not_true,Bool.not_false]) | ((with_reducible apply And.intro);focus (first | trivial | omega | decide | (simp -implicitDefEqProofs only [maxLen];omega) | (simp [maxLen,aj,aq,ax,aG,av,aF,aE] <;> omega))) | fail)
  subst jE
  exact hN (k+1) _ _ (by omega) (by omega) (bB (by simp [lk]))
 ·have aA:k=ms.length:=by simp at hg;omega
  subst aA
  simp -implicitDefEqProofs only [go_sem,Int.reduceNegSucc]
  refine hX _ _ _ ?_
  repeat' (first | (simp -implicitDefEqProofs only [go_sem,Int.reduceNegSucc]) | (with_reducible refine aC ?_) | ((first | refine ak (fun hg=>?_) (fun hg=>?_) | refine aI (fun hg=>?_) (fun hg=>?_) | refine aJ (fun hg=>?_) (fun hg=>?_)) <;> try simp -implicitDefEqProofs only [hg,Bool.not_true,Bool.not_false]) | ((with_reducible apply And.intro);focus (first | trivial | omega | decide | (simp -implicitDefEqProofs only [maxLen];omega) | (simp [maxLen,aj,aq,ax,aG,av,aF,aE] <;> omega))) | fail)
  rw [List.take_length] at eO
  subst eO
  refine (hK _ _ _ _ [] (cK _ _) ?_).1
  simp [cw,aQ,newL,cD,ct,bH,bF,lk,bO,bV,cj,bW,cU,cT,ag,cC,cO,bh,bT,cn,de,cS,dc,cc,cB,cz,dZ,Ne.symm dZ,cR,pM,pP]
end Go.ay

namespace Go.ay
open Go
theorem Pm:bC Go.Proofs.Try.prog 97 19 (fc Go.Proofs.Try.prog 97 19 []) []:=bP (by kernel_rfl)
theorem Ph:bC Go.Proofs.Try.prog 71 74 (fc Go.Proofs.Try.prog 71 74 []) []:=bP (by kernel_rfl)
theorem KQ {n0:Nat} {env:List (Nat×U)} {h:List (Option HB)} (i0 e o:Nat) {cs:List U} (hi:ag h i0=some (.var cs)) (ho:cs[o]?=some (.rv .bZ)):cV n0 ⟨env,h⟩ ⟨env,aY (aY h (h.length,.row e 0 [])) (i0,.var (cs.set o (.row h.length 0 0)))⟩:=by
 intro C a w R
 obtain ⟨⟨aa,RF⟩,h1,h0⟩:=R
 have hnone:ag h h.length=none:=by unfold ag;rw [List.getElem?_eq_none (Nat.le_refl _)]
 have uQ:C.h0 h.length=none:=h0 _ h1
 obtain ⟨aD,S⟩:=RF.mem.EO e hi ho hnone uQ
 have iC:=RF.step S
 have hlt:i0<h.length:=by
  apply Classical.byContradiction
  intro hc
  unfold ag at hi
  rw [List.getElem?_eq_none (by omega)] at hi;cases hi
 have e1:=xL (h:=h) (q:=(h.length,.row e 0 [])) (Nat.le_refl _)
 have l1:=sE h (h.length,.row e 0 [])
 have e2:=xL (h:=aY h (h.length,.row e 0 [])) (q:=(i0,.var (cs.set o (.row h.length 0 0)))) (by show i0≤_;omega)
 have l2:=sE (aY h (h.length,.row e 0 [])) (i0,.var (cs.set o (.row h.length 0 0)))
 refine ⟨⟨aD,?_⟩,?_,h0⟩
 ·show gw C (lk env) (ag (aY (aY h (h.length,.row e 0 [])) (i0,.var (cs.set o (.row h.length 0 0))))) a w aD
  rw [e2,e1];exact iC
 ·have Mf:n0≤h.length:=h1
  show n0≤(aY (aY h (h.length,.row e 0 [])) (i0,.var (cs.set o (.row h.length 0 0)))).length
  omega
theorem sy {τ:Nat→Option Nat} {h:Hp} {rs:List RV}:iD τ h (.var (rs.map .rv)) (.var (rs.map .rv)):=.var _ _ (qQ.1 (cz.2 rfl))
theorem ju {τ:Nat→Option Nat} {h:Hp} {e v:Nat} {xs:List (List RV)}:iD τ h (.row e v (ah xs)) (.row e v (ah xs)):=by
 obtain ⟨a,b⟩:=cC (τ:=τ) (h:=h) (xs:=xs) (ys:=xs) |>.2 rfl
 exact .row _ _ _ _ a b
theorem sA {τ:Nat→Option Nat} {h:Hp} {i j v n:Nat} (gE:τ i=some j):iD τ h (.var [.row i v n]) (.var [.row j v n]):=.var _ _ (qQ.1 ⟨bT.2 ⟨gE,rfl,rfl⟩,trivial⟩)
theorem sx {τ:Nat→Option Nat} {h:Hp} {a b c d e:RV} {i j v n:Nat} (gE:τ i=some j):iD τ h (.var [.rv a,.rv b,.rv c,.rv d,.rv e,.row i v n]) (.var [.rv a,.rv b,.rv c,.rv d,.rv e,.row j v n]):=
 .var _ _ (qQ.1 ⟨bh.2 rfl,bh.2 rfl,bh.2 rfl,bh.2 rfl,bh.2 rfl,bT.2 ⟨gE,rfl,rfl⟩,trivial⟩)
section
variable (l:List Nd) (hb:l.length≤1000) (bx:List Bx) (cl:List Rc) (eU:bx.length=l.length) (dM:cl.length=l.length) (hf:bx.all iG=true)
include hb eU dM hf
theorem Rf (f:Nat→List Nat) (n:Nat) (hn:n<l.length) (hC:dB l n=true→sM 71 l bx cl n ((f n).flatMap (bK l bx cl))):sM 97 l bx cl n ((fk l f n).flatMap (bK l bx cl)):=by
 intro i q dZ xs hx
 refine eY Pm [i,q] [cR l bx cl (pM l) (pP l) 1 xs,.row 15 xs.length (ah (cE xs))] [cR l bx cl (pM l) (pP l) q xs,.row 15 xs.length (ah (cE xs))] [.ptr 0 0,.rv (.int .i64 n)] [.ptr i 0,.rv (.int .i64 n)] _ _ (by simp) (by simp [aW,eB,bD]) rfl (by simp [aQ,dZ]) (by simp [cI,cR,er,aW,bD,dP]) (fun K hK=>?_)
 have hfr:=Iw l n
 conv in fc _ _ _ _=>reduce
 simp -implicitDefEqProofs only [cR,pM,pP,go_sem,Int.reduceNegSucc]
 cases gN:dB l n with
 | true=>
   rw [gN] at hfr
   have he:fk l f n=f n:=by unfold fk;rw [if_pos gN]
   rw [he] at hx hK
   have hc:=hC gN 0 1 (by decide) xs hx
   simp -implicitDefEqProofs only [cR,pM,pP] at hc
   obtain ⟨Y,hY⟩:∃ Y,Y=xs++(f n).flatMap (bK l bx cl):=⟨_,rfl⟩
   rw [← hY] at hc hK
   have bY:=hfr;have y_2:=hc;repeat' (first | (simp -implicitDefEqProofs only [go_sem,Int.reduceNegSucc]) | (with_reducible refine aC ?_) | (with_reducible first | refine aM bY ?_ | refine aN bY ?_) | (refine ck y_2 (by simp [aV,ag];done) (by simp [bf,aY];done) ?_) | (refine dY y_2 (by simp [aV,ag];done) (by simp [bf,aY];done) ?_) | ((first | refine ak (fun hg=>?_) (fun hg=>?_) | refine aI (fun hg=>?_) (fun hg=>?_) | refine aJ (fun hg=>?_) (fun hg=>?_)) <;> try simp -implicitDefEqProofs only [hg,Bool.not_true,Bool.not_false]) | ((with_reducible apply And.intro);focus (first | trivial | omega | decide | (simp -implicitDefEqProofs only [maxLen];omega) | (simp [maxLen,aj,aq,ax,aG,av,aF,aE] <;> omega))) | fail)
   refine (hK _ _ _ _ [] (cK _ _) ?_).2
   simp [cw,aQ,newL,cD,ct,bH,bF,lk,bO,bV,cj,bW,cU,cT,ag,cC,cO,bh,bT,cn,de,cS,dc,cc,cB,cz,dZ,Ne.symm dZ,cR,pM,pP]
 | false=>
   rw [gN] at hfr
   have he:(fk l f n).flatMap (bK l bx cl)=bK l bx cl n++(fG l n).flatMap (bK l bx cl):=by unfold fk;rw [if_neg (by rw [gN];simp),List.flatMap_cons]
   rw [he] at hx hK
   have ho:=Cj l hb bx cl eU dM hf n hn 0 1 (by decide) xs (by simp -implicitDefEqProofs only [List.length_append] at hx ⊢;omega)
   have hg:=Ci l hb bx cl eU dM hf n hn 0 1 (by decide) (xs++bK l bx cl n) (by rw [List.append_assoc];exact hx)
   rw [List.append_assoc] at hg
   simp -implicitDefEqProofs only [cR,pM,pP] at ho hg
   obtain ⟨Z,hZ⟩:∃ Z,Z=xs++bK l bx cl n:=⟨_,rfl⟩
   obtain ⟨Y,hY⟩:∃ Y,Y=xs++(bK l bx cl n++(fG l n).flatMap (bK l bx cl)):=⟨_,rfl⟩
   rw [← hZ] at ho hg
   rw [← hY] at hg hK
   have di:=hfr;have dH:=ho;have dX:=hg;repeat' (first | (simp -implicitDefEqProofs only [go_sem,Int.reduceNegSucc]) | (with_reducible refine aC ?_) | (with_reducible first | refine aM di ?_ | refine aN di ?_) | (refine ck dH (by simp [aV,ag];done) (by simp [bf,aY];done) ?_) | (refine dY dH (by simp [aV,ag];done) (by simp [bf,aY];done) ?_) | (refine ck dX (by simp [aV,ag];done) (by simp [bf,aY];done) ?_) | (refine dY dX (by simp [aV,ag];done) (by simp [bf,aY];done) ?_) | ((first | refine ak (fun hg=>?_) (fun hg=>?_) | refine aI (fun hg=>?_) (fun hg=>?_) | refine aJ (fun hg=>?_) (fun hg=>?_)) <;> try simp -implicitDefEqProofs only [hg,Bool.not_true,Bool.not_false]) | ((with_reducible apply And.intro);focus (first | trivial | omega | decide | (simp -implicitDefEqProofs only [maxLen];omega) | (simp [maxLen,aj,aq,ax,aG,av,aF,aE] <;> omega))) | fail)
   refine (hK _ _ _ _ [] (cK _ _) ?_).1
   simp [cw,aQ,newL,cD,ct,bH,bF,lk,bO,bV,cj,bW,cU,cT,ag,cC,cO,bh,bT,cn,de,cS,dc,cc,cB,cz,dZ,Ne.symm dZ,cR,pM,pP]
end
end Go.ay

namespace Go.ay
open Go
def tO (es:List aH) (n:Nat):aH:=if n=0 then ⟨0,0,0⟩ else ga es 0
theorem HG (es:List aH) (n:Nat):(if n=0 then (⟨0,0,0⟩:aH).sv else (ga es 0).sv)=(tO es n).sv:=by unfold tO;split <;> rfl
theorem pq (x:aH):(x.cells.map U.rv)[0]?=some (.rv (.int .i64 x.key)):=rfl
theorem pz (x:aH):(x.cells.map U.rv)[1]?=some (.rv (.int .i64 x.tie)):=rfl
theorem pG (x:aH):x.cells.length=3:=rfl
theorem pH (x:aH):(x.cells.map U.rv).length=3:=rfl
theorem pI (x:aH):(x.cells.map U.rv).take 3=x.cells.map U.rv:=rfl
theorem pF (x:aH):(x.cells.map U.rv).drop 3=[]:=rfl
theorem qt (x:aH):x.sv = .agg (x.cells.map U.rv):=rfl
def dy (l:List Nd) (bx:List Bx) (cl:List Rc) (d:Nat) (es:List aH):List bA:=es.flatMap fun e=>(fk l (dQ l d) e.tie.toNat).flatMap (bK l bx cl)
section
variable {l:List Nd} {bx:List Bx} {cl:List Rc} {d n:Nat}
theorem KJ:(dQ l (d+1) n).flatMap (bK l bx cl)=bK l bx cl n++(dy l bx cl d (ec l n)++((fG l n).flatMap (bK l bx cl)++dy l bx cl d (cW l n))):=by
 rw [dQ,List.flatMap_append,List.flatMap_append,List.flatMap_append,List.flatMap_assoc,List.flatMap_assoc]
 simp [dy]
theorem Cc {es:List aH} {j:Nat} (h:j<es.length):dy l bx cl d (es.take (j+1))=dy l bx cl d (es.take j)++(fk l (dQ l d) (es[j]'h).tie.toNat).flatMap (bK l bx cl):=by
 unfold dy
 rw [List.take_succ_eq_append_getElem h,List.flatMap_append];simp
theorem Cb {es:List aH} {j:Nat}:(dy l bx cl d (es.take j)).length≤(dy l bx cl d es).length:=by
 unfold dy
 conv=>rhs;rw [← List.take_append_drop j es,List.flatMap_append,List.length_append]
 omega
theorem Qh {j:Nat} {x:aH} {r:List aH} (hj:j≤(ec l n).length) (hd:(iN l n).drop j=x::r) (hx:x.key<0):∃ h:j<(ec l n).length,(ec l n)[j]'h=x∧(iN l n).drop (j+1)=r:=by
 have AL:(iN l n).drop (j+1)=r:=by
  rw [← List.drop_drop,hd];rfl
 rw [← qK] at hd
 by_cases h:j<(ec l n).length
 ·refine ⟨h,?_,AL⟩
  rw [List.drop_append_of_le_length hj,List.drop_eq_getElem_cons h] at hd
  exact (List.cons.inj hd).1
 ·have:j=(ec l n).length:=by omega
  subst this
  rw [List.drop_left] at hd
  have:=Ft (l:=l) (n:=n) (e:=x) (by rw [hd];exact .head _)
  omega
theorem GQ {j:Nat} (hj:j≤(ec l n).length) (hd:(iN l n).drop j=[]∨∃ x r,(iN l n).drop j=x::r∧¬ x.key<0):j=(ec l n).length:=by
 apply Classical.byContradiction
 intro hne
 have h:j<(ec l n).length:=by omega
 rw [← qK,List.drop_append_of_le_length hj,List.drop_eq_getElem_cons h] at hd
 rcases hd with hd | ⟨x,r,hd,hx⟩
 ·cases hd
 ·rw [List.cons_append] at hd
  rw [← (List.cons.inj hd).1] at hx
  exact hx (GR (List.getElem_mem h))
end
section
variable (l:List Nd) (hs:cP l) (hb:l.length≤1000) (bx:List Bx) (cl:List Rc) (eU:bx.length=l.length) (dM:cl.length=l.length) (hf:bx.all iG=true)
include hs hb eU dM hf
theorem HH:∀ (d n:Nat),dB l n=true→l.length<n+d→sM 71 l bx cl n ((dQ l d n).flatMap (bK l bx cl))
 | 0,n,gN,hd=>by
   have:=gQ (oF gN)
   simp [aT,dD] at this
   omega
 | d+1,n,gN,hd=>by
   have hn:n<l.length:=by
    have:=gQ (oF gN)
    simp [aT,dD] at this
    exact this.1
   have hpart:∀ m,m∈eP l n→sM 97 l bx cl m ((fk l (dQ l d) m).flatMap (bK l bx cl)):=fun m hm=>by
    refine Rf l hb bx cl eU dM hf (dQ l d) m (tN hm).1 (fun hk=>HH d m hk ?_)
    have:=HE hs hm
    omega
   intro i q dZ xs hx
   rw [KJ] at hx ⊢
   refine eY Ph [i,q] [cR l bx cl (pM l) (pP l) 1 xs,.row 15 xs.length (ah (cE xs))] [cR l bx cl (pM l) (pP l) q xs,.row 15 xs.length (ah (cE xs))] [.ptr 0 0,.rv (.int .i64 n)] [.ptr i 0,.rv (.int .i64 n)] _ _ (by simp) (by simp [aW,eB,bD]) rfl (by simp [aQ,dZ]) (by simp [cI,cR,er,aW,bD,dP]) (fun K hK=>?_)
   have hml:=He (cu l) l.length
   have tu:=GZ (q:=cu l) hn
   have eE:(eP l n).length≤l.length:=za
   have pR:(aS (bq (eP l n))).length=(eP l n).length:=by simp [aS,bq]
   change _=[RV.sl 1 (aS (bq (eP l n)))] at tu
   conv in fc _ _ _ _=>reduce
   simp -implicitDefEqProofs only [cR,pM,pP,go_sem,Int.reduceNegSucc]
   obtain ⟨ps,hps⟩:∃ ps,ps=eP l n:=⟨_,rfl⟩
   rw [← hps] at pR tu eE
   repeat' (first | (simp -implicitDefEqProofs only [go_sem,Int.reduceNegSucc,hml,tu,pR]) | (with_reducible refine aC ?_) | ((first | refine ak (fun hg=>?_) (fun hg=>?_) | refine aI (fun hg=>?_) (fun hg=>?_) | refine aJ (fun hg=>?_) (fun hg=>?_)) <;> try simp -implicitDefEqProofs only [hg,Bool.not_true,Bool.not_false]) | ((with_reducible apply And.intro);focus (first | trivial | omega | decide | (simp -implicitDefEqProofs only [maxLen];omega) | (simp [maxLen,aj,aq,ax,aG,av,aF,aE] <;> omega))) | fail)
   refine dm (ι:=Nat×List aH) (fun q=>[(19,.rv (.int .i64 q.1)),(18,.rv (.int .i64 ps.length)),(17,.rv (.sl 1 (aS (bq ps)))),(4,.ptr 2 0),(0,.ptr 0 0),(1,.rv (.int .i64 n))]) (fun q=>[some (.var [.rv (cq l),.rv (.sl 21 (cJ bx)),.rv (.sl 4 (cL cl)),.rv (.sl 1 (eA (cA l) l.length)),.rv (.sl 1 (eA (cu l) l.length)),.row 1 xs.length xs.length]),some (.row 15 xs.length (ah (cE xs))),some (.var [.row 3 q.1 q.1]),some (.row 3 q.1 (ah (bE q.2)))]) (fun q=>q.1≤ps.length∧q.2.length=q.1∧jX q.2 q.1∧q.2.Perm ((ps.take q.1).map (dj l))) (fun q=>ps.length - q.1) (0,[]) ⟨Nat.zero_le _,rfl,fun k a b=>absurd b (by simp),by simp⟩ ((KQ 2 3 0 rfl rfl).trans (bB (by simp [lk,aY]))) (fun q hq K' hN hX hR=>?_)
   obtain ⟨k,es⟩:=q
   obtain ⟨dn,hk2,eV,aA⟩:=hq
   dsimp only at dn hk2 eV aA ⊢
   simp -implicitDefEqProofs only [go_sem,Int.reduceNegSucc]
   refine ak (fun hg=>?_) (fun hg=>?_)
   ·have cX:k<ps.length:=by simp at hg;omega
    have wu:=dr (k:=k) (by omega)
    have hmk:=Hl cX
    have hst:=zf l ((ps[k]'cX:Nat):Int)
    have KN:=kM (eu l ((ps[k]'cX:Nat):Int))
    have ha:=Sq 2 3 k k es (dj l (ps[k]'cX)) (by decide) (by omega) (by omega)
    simp -implicitDefEqProofs only [aH.sv,dj] at ha
    obtain ⟨r1,r2,r3⟩:=Rh (es:=es) (n:=k) (e:=dj l (ps[k]'cX)) (by omega) eV
    have jn:(oU es k (dj l (ps[k]'cX))).Perm ((ps.take (k+1)).map (dj l)):=by
     refine r2.trans ?_
     rw [List.take_of_length_le (by omega),List.take_succ_eq_append_getElem cX,List.map_append]
     exact (List.Perm.cons _ aA).trans (List.perm_append_comm (l₁:=[dj l (ps[k]'cX)]))
    simp -implicitDefEqProofs only [dj] at r1 r3 jn
    generalize ps[k]'cX=m at *
    have bY:=hst;have y_2:=ha;repeat' (first | (simp -implicitDefEqProofs only [go_sem,Int.reduceNegSucc,pR,hmk,KN,aj,wu]) | (with_reducible refine aC ?_) | (with_reducible first | refine aM bY ?_ | refine aN bY ?_) | (refine ck y_2 (by simp [aV,ag];done) (by simp [bf,aY];done) ?_) | (refine dY y_2 (by simp [aV,ag];done) (by simp [bf,aY];done) ?_) | ((first | refine ak (fun hg=>?_) (fun hg=>?_) | refine aI (fun hg=>?_) (fun hg=>?_) | refine aJ (fun hg=>?_) (fun hg=>?_)) <;> try simp -implicitDefEqProofs only [hg,Bool.not_true,Bool.not_false]) | ((with_reducible apply And.intro);focus (first | trivial | omega | decide | (simp -implicitDefEqProofs only [maxLen];omega) | (simp [maxLen,aj,aq,ax,aG,av,aF,aE] <;> omega))) | fail)
    exact hN (k+1,_) _ _ ⟨by dsimp only;omega,r3,r1,jn⟩ (by dsimp only;omega) (bB (by simp [lk]))
   ·have cX:k=ps.length:=by simp at hg;omega
    subst cX
    simp -implicitDefEqProofs only [go_sem,Int.reduceNegSucc]
    refine hX _ _ _ ?_
    clear hN hX hR
    rw [List.take_length] at aA
    have Ns:fH (es.take ps.length)=iN l n:=by
     rw [List.take_of_length_le (by omega)]
     unfold iN
     rw [← hps]
     exact CA _ _ _ (Nat.le_refl _) aA
    have ho:=Cj l hb bx cl eU dM hf n hn 0 1 (by decide) xs (by simp -implicitDefEqProofs only [List.length_append] at hx ⊢;omega)
    simp -implicitDefEqProofs only [cR,pM,pP] at ho
    obtain ⟨X0,qv⟩:∃ X0,X0=xs++bK l bx cl n:=⟨_,rfl⟩
    rw [← qv] at ho
    have hpk:=Iy 2 3 ps.length ps.length es (by decide) (by omega)
    rw [HG,qt] at hpk
    have di:=ho;have dH:=hpk;repeat' (first | (simp -implicitDefEqProofs only [go_sem,Int.reduceNegSucc,pG,pH,pI,pF,pq,pz]) | (with_reducible refine aC ?_) | (refine ck di (by simp [aV,ag];done) (by simp [bf,aY];done) ?_) | (refine dY di (by simp [aV,ag];done) (by simp [bf,aY];done) ?_) | (refine ck dH (by simp [aV,ag];done) (by simp [bf,aY];done) ?_) | (refine dY dH (by simp [aV,ag];done) (by simp [bf,aY];done) ?_) | ((first | refine ak (fun hg=>?_) (fun hg=>?_) | refine aI (fun hg=>?_) (fun hg=>?_) | refine aJ (fun hg=>?_) (fun hg=>?_)) <;> try simp -implicitDefEqProofs only [hg,Bool.not_true,Bool.not_false]) | ((with_reducible apply And.intro);focus (first | trivial | omega | decide | (simp -implicitDefEqProofs only [maxLen];omega) | (simp [maxLen,aj,aq,ax,aG,av,aF,aE] <;> omega))) | fail)
    refine dm (ι:=List aH×Nat×Nat) (fun q=>[(8,.rv (.bool (decide (q.2.1≠0)))),(7,.ptr 4 0),(4,.ptr 2 0),(0,.ptr 0 0),(1,.rv (.int .i64 n))]) (fun q=>[some (.var [.rv (cq l),.rv (.sl 21 (cJ bx)),.rv (.sl 4 (cL cl)),.rv (.sl 1 (eA (cA l) l.length)),.rv (.sl 1 (eA (cu l) l.length)),.row 1 (X0++dy l bx cl d ((ec l n).take q.2.2)).length (X0++dy l bx cl d ((ec l n).take q.2.2)).length]),some (.row 15 (X0++dy l bx cl d ((ec l n).take q.2.2)).length (ah (cE (X0++dy l bx cl d ((ec l n).take q.2.2))))),some (.var [.row 3 ps.length q.2.1]),some (.row 3 ps.length (ah (bE q.1))),some (.var ((tO q.1 q.2.1).cells.map .rv))]) (fun q=>q.2.1≤q.1.length∧q.2.1≤ps.length∧jX q.1 q.2.1∧fH (q.1.take q.2.1)=(iN l n).drop q.2.2∧q.2.2≤(ec l n).length) (fun q=>q.2.1) (es,ps.length,0) ⟨by dsimp only;omega,Nat.le_refl _,eV,Ns,Nat.zero_le _⟩ (by rw [List.take_zero];unfold dy;rw [List.flatMap_nil,List.append_nil];exact bB (by simp [lk])) (fun q hq K' hN hX hR=>?_)
    obtain ⟨zs,v,j⟩:=q
    obtain ⟨p1,p2,p3,p4,p5⟩:=hq
    dsimp only at p1 p2 p3 p4 p5 ⊢
    obtain ⟨X,eO⟩:∃ X,X=X0++dy l bx cl d ((ec l n).take j):=⟨_,rfl⟩
    rw [← eO]
    simp -implicitDefEqProofs only [go_sem,Int.reduceNegSucc]
    by_cases h0:v=0
    ·subst h0
     have d0:decide ((0:Nat)≠0)=false:=rfl
     have AW:=GQ (l:=l) (n:=n) p5 (.inl (by rw [← p4,List.take_zero,uc]))
     repeat' (first | (simp -implicitDefEqProofs only [go_sem,Int.reduceNegSucc,d0]) | (with_reducible refine aC ?_) | ((first | refine ak (fun hg=>?_) (fun hg=>?_) | refine aI (fun hg=>?_) (fun hg=>?_) | refine aJ (fun hg=>?_) (fun hg=>?_)) <;> try simp -implicitDefEqProofs only [hg,Bool.not_true,Bool.not_false]) | ((with_reducible apply And.intro);focus (first | trivial | omega | decide | (simp -implicitDefEqProofs only [maxLen];omega) | (simp [maxLen,aj,aq,ax,aG,av,aF,aE] <;> omega))) | fail)
     refine hX _ _ _ ?_
     clear hN hX hR
     have hj:(ec l n).take j=ec l n:=List.take_of_length_le (by omega)
     rw [hj] at eO
     obtain ⟨X1,pL⟩:∃ X1,X1=X0++dy l bx cl d (ec l n):=⟨_,rfl⟩
     rw [← pL] at eO
     subst eO
     have oK:=Ci l hb bx cl eU dM hf n hn 0 1 (by decide) X (by rw [pL,qv];simp -implicitDefEqProofs only [List.length_append] at hx ⊢;omega)
     simp -implicitDefEqProofs only [cR,pM,pP] at oK
     obtain ⟨X2,rO⟩:∃ X2,X2=X++(fG l n).flatMap (bK l bx cl):=⟨_,rfl⟩
     rw [← rO] at oK
     have hn2:=CC 2 3 ps.length zs (by decide)
     rw [qt] at hn2
     have dX:=oK;have eS:=hn2;repeat' (first | (simp -implicitDefEqProofs only [go_sem,Int.reduceNegSucc,pG,pH,pI,pF,pq,pz]) | (with_reducible refine aC ?_) | (refine ck dX (by simp [aV,ag];done) (by simp [bf,aY];done) ?_) | (refine dY dX (by simp [aV,ag];done) (by simp [bf,aY];done) ?_) | (refine ck eS (by simp [aV,ag];done) (by simp [bf,aY];done) ?_) | (refine dY eS (by simp [aV,ag];done) (by simp [bf,aY];done) ?_) | ((first | refine ak (fun hg=>?_) (fun hg=>?_) | refine aI (fun hg=>?_) (fun hg=>?_) | refine aJ (fun hg=>?_) (fun hg=>?_)) <;> try simp -implicitDefEqProofs only [hg,Bool.not_true,Bool.not_false]) | ((with_reducible apply And.intro);focus (first | trivial | omega | decide | (simp -implicitDefEqProofs only [maxLen];omega) | (simp [maxLen,aj,aq,ax,aG,av,aF,aE] <;> omega))) | fail)
     refine dm (ι:=List aH×Nat×Nat×aH×Bool) (fun q=>[(10,.rv (.bool q.2.2.2.2)),(9,.ptr 4 0),(4,.ptr 2 0),(0,.ptr 0 0)]) (fun q=>[some (.var [.rv (cq l),.rv (.sl 21 (cJ bx)),.rv (.sl 4 (cL cl)),.rv (.sl 1 (eA (cA l) l.length)),.rv (.sl 1 (eA (cu l) l.length)),.row 1 (X2++dy l bx cl d ((cW l n).take q.2.2.1)).length (X2++dy l bx cl d ((cW l n).take q.2.2.1)).length]),some (.row 15 (X2++dy l bx cl d ((cW l n).take q.2.2.1)).length (ah (cE (X2++dy l bx cl d ((cW l n).take q.2.2.1))))),some (.var [.row 3 ps.length q.2.1]),some (.row 3 ps.length (ah (bE q.1))),some (.var (q.2.2.2.1.cells.map .rv))]) (fun q=>q.2.1≤q.1.length∧q.2.1≤ps.length∧jX q.1 q.2.1∧q.2.2.1≤(cW l n).length∧(cW l n).drop q.2.2.1=if q.2.2.2.2=true then q.2.2.2.1::fH (q.1.take q.2.1) else []) (fun q=>q.2.1+if q.2.2.2.2=true then 1 else 0) (zs,0,0,⟨0,0,0⟩,false) ⟨by dsimp only;omega,by dsimp only;omega,p3,Nat.zero_le _,by
      have h1:=p4
      rw [List.take_zero,uc,AW,← qK,List.drop_left] at h1
      simp [← h1]⟩ ?_ (fun q hq K' hN hX hR=>?_)
     ·rw [List.take_zero,show dy l bx cl d []=[] from rfl,List.append_nil]
      refine (rL 4 5 (by decide) (by simp) (by simp) (fun k hk=>?_) (by simp [lk,bh,cn,bT,iZ]))
      simp -implicitDefEqProofs only [List.length_cons,List.length_nil] at hk
      match k,hk with
      | 0,_=>exact ⟨_,_,rfl,rfl,sx rfl⟩
      | 1,_=>exact ⟨_,_,rfl,rfl,ju⟩
      | 2,_=>exact ⟨_,_,rfl,rfl,sA rfl⟩
      | 3,_=>exact ⟨_,_,rfl,rfl,ju⟩
      | 4,_=>exact ⟨_,_,rfl,rfl,sy (rs:=(⟨0,0,0⟩:aH).cells)⟩
     obtain ⟨ys,w,j,x,ok⟩:=q
     obtain ⟨q1,q2,q3,q5,q4⟩:=hq
     dsimp only at q1 q2 q3 q4 q5 ⊢
     obtain ⟨X,eO⟩:∃ X,X=X2++dy l bx cl d ((cW l n).take j):=⟨_,rfl⟩
     rw [← eO]
     simp -implicitDefEqProofs only [go_sem,Int.reduceNegSucc]
     cases ok with
     | false=>
       simp -implicitDefEqProofs only [Bool.false_eq_true,if_false] at q4
       have hj:(cW l n).take j=cW l n:=List.take_of_length_le (List.drop_eq_nil_iff.1 q4)
       rw [hj] at eO
       have AD:X=xs++(bK l bx cl n++(dy l bx cl d (ec l n)++((fG l n).flatMap (bK l bx cl)++dy l bx cl d (cW l n)))):=by rw [eO,rO,pL,qv];simp -implicitDefEqProofs only [List.append_assoc]
       rw [← AD] at hK
       repeat' (first | (simp -implicitDefEqProofs only [go_sem,Int.reduceNegSucc]) | (with_reducible refine aC ?_) | ((first | refine ak (fun hg=>?_) (fun hg=>?_) | refine aI (fun hg=>?_) (fun hg=>?_) | refine aJ (fun hg=>?_) (fun hg=>?_)) <;> try simp -implicitDefEqProofs only [hg,Bool.not_true,Bool.not_false]) | ((with_reducible apply And.intro);focus (first | trivial | omega | decide | (simp -implicitDefEqProofs only [maxLen];omega) | (simp [maxLen,aj,aq,ax,aG,av,aF,aE] <;> omega))) | fail)
       refine hX _ _ _ ?_
       repeat' (first | (simp -implicitDefEqProofs only [go_sem,Int.reduceNegSucc]) | (with_reducible refine aC ?_) | ((first | refine ak (fun hg=>?_) (fun hg=>?_) | refine aI (fun hg=>?_) (fun hg=>?_) | refine aJ (fun hg=>?_) (fun hg=>?_)) <;> try simp -implicitDefEqProofs only [hg,Bool.not_true,Bool.not_false]) | ((with_reducible apply And.intro);focus (first | trivial | omega | decide | (simp -implicitDefEqProofs only [maxLen];omega) | (simp [maxLen,aj,aq,ax,aG,av,aF,aE] <;> omega))) | fail)
       refine (hK _ _ _ _ [] (cK _ _) ?_).1
       simp [cw,aQ,newL,cD,ct,bH,bF,lk,bO,bV,cj,bW,cU,cT,ag,cC,cO,bh,bT,cn,de,cS,dc,cc,cB,cz,dZ,Ne.symm dZ,cR,pM,pP]
     | true=>
       simp -implicitDefEqProofs only [if_true] at q4
       have hjl:j<(cW l n).length:=by
        apply Classical.byContradiction
        intro h
        rw [List.drop_of_length_le (by omega)] at q4;cases q4
       have iJ:(cW l n)[j]'hjl=x∧(cW l n).drop (j+1)=fH (ys.take w):=by
        rw [List.drop_eq_getElem_cons hjl] at q4
        exact List.cons.inj q4
       obtain ⟨m,hmp,vt⟩:=xO (l:=l) (n:=n) (e:=x) (by rw [← iJ.1];exact List.getElem_mem hjl)
       have qC:x.tie=(m:Int):=by rw [vt];rfl
       have lf:=Cc (l:=l) (bx:=bx) (cl:=cl) (d:=d) hjl
       rw [iJ.1,qC,Int.toNat_natCast] at lf
       have fE:=Cb (l:=l) (bx:=bx) (cl:=cl) (d:=d) (es:=cW l n) (j:=j+1)
       have gO:=hpart m hmp 0 1 (by decide) X (by rw [eO,List.append_assoc,← lf,rO,pL,qv];simp -implicitDefEqProofs only [List.length_append] at hx ⊢;omega)
       obtain ⟨Y,jE⟩:∃ Y,Y=X2++dy l bx cl d ((cW l n).take (j+1)):=⟨_,rfl⟩
       have uW:X++(fk l (dQ l d) m).flatMap (bK l bx cl)=Y:=by rw [jE,eO,lf,List.append_assoc]
       rw [uW] at gO
       simp -implicitDefEqProofs only [cR,pM,pP] at gO
       rw [← qC] at gO
       by_cases h0:w=0
       ·subst h0
        have hn:=CC 2 3 ps.length ys (by decide)
        rw [qt] at hn
        have fB:=gO;have gu:=hn;repeat' (first | (simp -implicitDefEqProofs only [go_sem,Int.reduceNegSucc,pG,pH,pI,pF,pq,pz]) | (with_reducible refine aC ?_) | (refine ck fB (by simp [aV,ag];done) (by simp [bf,aY];done) ?_) | (refine dY fB (by simp [aV,ag];done) (by simp [bf,aY];done) ?_) | (refine ck gu (by simp [aV,ag];done) (by simp [bf,aY];done) ?_) | (refine dY gu (by simp [aV,ag];done) (by simp [bf,aY];done) ?_) | ((first | refine ak (fun hg=>?_) (fun hg=>?_) | refine aI (fun hg=>?_) (fun hg=>?_) | refine aJ (fun hg=>?_) (fun hg=>?_)) <;> try simp -implicitDefEqProofs only [hg,Bool.not_true,Bool.not_false]) | ((with_reducible apply And.intro);focus (first | trivial | omega | decide | (simp -implicitDefEqProofs only [maxLen];omega) | (simp [maxLen,aj,aq,ax,aG,av,aF,aE] <;> omega) | (exact ⟨rfl,by decide⟩;done))) | fail)
        rw [List.take_zero,uc] at iJ
        subst jE
        refine hN (ys,0,j+1,⟨0,0,0⟩,false) _ _ ⟨by dsimp only;omega,by dsimp only;omega,q3,by dsimp only;omega,by simp [iJ.2]⟩ (by dsimp only;simp;try omega) (rL 4 5 (by decide) (by simp) (by simp) (fun k hk=>?_) (by simp [lk,bh,cn,bT,iZ]))
        simp -implicitDefEqProofs only [List.length_cons,List.length_nil] at hk
        match k,hk with
        | 0,_=>exact ⟨_,_,rfl,rfl,sx rfl⟩
        | 1,_=>exact ⟨_,_,rfl,rfl,ju⟩
        | 2,_=>exact ⟨_,_,rfl,rfl,sA rfl⟩
        | 3,_=>exact ⟨_,_,rfl,rfl,ju⟩
        | 4,_=>exact ⟨_,_,rfl,rfl,sy (rs:=(⟨0,0,0⟩:aH).cells)⟩
       ·have hn:=CE 2 3 ps.length w ys (by decide) q1 h0 (by omega)
        rw [qt] at hn
        obtain ⟨m1,m2,m3,m4⟩:=yM (es:=ys) (n:=w) q1 (by omega) q3
        have tw:=AP (es:=ys) (n:=w) q1 (by omega) q3
        rw [tw] at iJ
        have iB:=gO;have jy:=hn;repeat' (first | (simp -implicitDefEqProofs only [go_sem,Int.reduceNegSucc,pG,pH,pI,pF,pq,pz]) | (with_reducible refine aC ?_) | (refine ck iB (by simp [aV,ag];done) (by simp [bf,aY];done) ?_) | (refine dY iB (by simp [aV,ag];done) (by simp [bf,aY];done) ?_) | (refine ck jy (by simp [aV,ag];done) (by simp [bf,aY];done) ?_) | (refine dY jy (by simp [aV,ag];done) (by simp [bf,aY];done) ?_) | ((first | refine ak (fun hg=>?_) (fun hg=>?_) | refine aI (fun hg=>?_) (fun hg=>?_) | refine aJ (fun hg=>?_) (fun hg=>?_)) <;> try simp -implicitDefEqProofs only [hg,Bool.not_true,Bool.not_false]) | ((with_reducible apply And.intro);focus (first | trivial | omega | decide | (simp -implicitDefEqProofs only [maxLen];omega) | (simp [maxLen,aj,aq,ax,aG,av,aF,aE] <;> omega) | (exact ⟨rfl,by decide⟩;done))) | fail)
        subst jE
        refine hN (fl ys w,w - 1,j+1,ga (fl ys w) (w - 1),true) _ _ ⟨by dsimp only;omega,by dsimp only;omega,m1,by dsimp only;omega,by simp [iJ.2]⟩ (by dsimp only;simp;try omega) (rL 4 5 (by decide) (by simp) (by simp) (fun k hk=>?_) (by simp [lk,bh,cn,bT,iZ]))
        simp -implicitDefEqProofs only [List.length_cons,List.length_nil] at hk
        match k,hk with
        | 0,_=>exact ⟨_,_,rfl,rfl,sx rfl⟩
        | 1,_=>exact ⟨_,_,rfl,rfl,ju⟩
        | 2,_=>exact ⟨_,_,rfl,rfl,sA rfl⟩
        | 3,_=>exact ⟨_,_,rfl,rfl,ju⟩
        | 4,_=>exact ⟨_,_,rfl,rfl,sy (rs:=(ga (fl ys w) (w - 1)).cells)⟩
    ·have d0:decide (v≠0)=true:=decide_eq_true h0
     have hpx:tO zs v=ga zs 0:=by unfold tO;rw [if_neg h0]
     obtain ⟨m1,m2,m3,m4⟩:=yM (es:=zs) (n:=v) p1 (by omega) p3
     have tw:=AP (es:=zs) (n:=v) p1 (by omega) p3
     have hn2:=CE 2 3 ps.length v zs (by decide) p1 h0 (by omega)
     rw [qt] at hn2
     rw [hpx]
     rw [m2] at tw hn2
     rw [tw] at p4
     generalize sg:ga zs 0=x at *
     by_cases hk:x.key<0
     ·have AX:decide (x.key<0)=true:=decide_eq_true hk
      obtain ⟨hjl,iJ,AL⟩:=Qh p5 p4.symm hk
      obtain ⟨m,hmp,vt⟩:=BK (l:=l) (n:=n) (e:=x) (by rw [← iJ];exact List.getElem_mem hjl)
      have qC:x.tie=(m:Int):=by rw [vt];rfl
      have lf:=Cc (l:=l) (bx:=bx) (cl:=cl) (d:=d) hjl
      rw [iJ,qC,Int.toNat_natCast] at lf
      have fE:=Cb (l:=l) (bx:=bx) (cl:=cl) (d:=d) (es:=ec l n) (j:=j+1)
      have gO:=hpart m hmp 0 1 (by decide) X (by rw [eO,List.append_assoc,← lf,qv];simp -implicitDefEqProofs only [List.length_append] at hx ⊢;omega)
      obtain ⟨Y,jE⟩:∃ Y,Y=X0++dy l bx cl d ((ec l n).take (j+1)):=⟨_,rfl⟩
      have uW:X++(fk l (dQ l d) m).flatMap (bK l bx cl)=Y:=by rw [jE,eO,lf,List.append_assoc]
      rw [uW] at gO
      simp -implicitDefEqProofs only [cR,pM,pP] at gO
      rw [← qC] at gO
      have FH:=Iy 2 3 ps.length (v - 1) (fl zs v) (by decide) (by omega)
      rw [HG,qt] at FH
      have ot:=hn2;have ou:=gO;have ov:=FH;repeat' (first | (simp -implicitDefEqProofs only [go_sem,Int.reduceNegSucc,d0,AX,pG,pH,pI,pF,pq,pz]) | (with_reducible refine aC ?_) | (refine ck ot (by simp [aV,ag];done) (by simp [bf,aY];done) ?_) | (refine dY ot (by simp [aV,ag];done) (by simp [bf,aY];done) ?_) | (refine ck ou (by simp [aV,ag];done) (by simp [bf,aY];done) ?_) | (refine dY ou (by simp [aV,ag];done) (by simp [bf,aY];done) ?_) | (refine ck ov (by simp [aV,ag];done) (by simp [bf,aY];done) ?_) | (refine dY ov (by simp [aV,ag];done) (by simp [bf,aY];done) ?_) | ((first | refine ak (fun hg=>?_) (fun hg=>?_) | refine aI (fun hg=>?_) (fun hg=>?_) | refine aJ (fun hg=>?_) (fun hg=>?_)) <;> try simp -implicitDefEqProofs only [hg,Bool.not_true,Bool.not_false]) | ((with_reducible apply And.intro);focus (first | trivial | omega | decide | (simp -implicitDefEqProofs only [maxLen];omega) | (simp [maxLen,aj,aq,ax,aG,av,aF,aE] <;> omega))) | fail)
      subst jE
      refine hN (fl zs v,v - 1,j+1) _ _ ⟨by dsimp only;omega,by dsimp only;omega,m1,AL.symm,hjl⟩ (by dsimp only;omega) (rL 4 5 (by decide) (by simp) (by simp) (fun k hk=>?_) (by simp [lk,bh,cn,bT,iZ]))
      simp -implicitDefEqProofs only [List.length_cons,List.length_nil] at hk
      match k,hk with
      | 0,_=>exact ⟨_,_,rfl,rfl,sx rfl⟩
      | 1,_=>exact ⟨_,_,rfl,rfl,ju⟩
      | 2,_=>exact ⟨_,_,rfl,rfl,sA rfl⟩
      | 3,_=>exact ⟨_,_,rfl,rfl,ju⟩
      | 4,_=>exact ⟨_,_,rfl,rfl,sy (rs:=(tO (fl zs v) (v - 1)).cells)⟩
     ·have AX:decide (x.key<0)=false:=decide_eq_false hk
      have AW:=GQ (l:=l) (n:=n) p5 (.inr ⟨x,_,p4.symm,hk⟩)
      repeat' (first | (simp -implicitDefEqProofs only [go_sem,Int.reduceNegSucc,d0,AX,pG,pH,pI,pF,pq,pz]) | (with_reducible refine aC ?_) | ((first | refine ak (fun hg=>?_) (fun hg=>?_) | refine aI (fun hg=>?_) (fun hg=>?_) | refine aJ (fun hg=>?_) (fun hg=>?_)) <;> try simp -implicitDefEqProofs only [hg,Bool.not_true,Bool.not_false]) | ((with_reducible apply And.intro);focus (first | trivial | omega | decide | (simp -implicitDefEqProofs only [maxLen];omega) | (simp [maxLen,aj,aq,ax,aG,av,aF,aE] <;> omega))) | fail)
      refine hX _ _ _ ?_
      clear hN hX hR
      have hj:(ec l n).take j=ec l n:=List.take_of_length_le (by omega)
      rw [hj] at eO
      obtain ⟨X1,pL⟩:∃ X1,X1=X0++dy l bx cl d (ec l n):=⟨_,rfl⟩
      rw [← pL] at eO
      subst eO
      have oK:=Ci l hb bx cl eU dM hf n hn 0 1 (by decide) X (by rw [pL,qv];simp -implicitDefEqProofs only [List.length_append] at hx ⊢;omega)
      simp -implicitDefEqProofs only [cR,pM,pP] at oK
      obtain ⟨X2,rO⟩:∃ X2,X2=X++(fG l n).flatMap (bK l bx cl):=⟨_,rfl⟩
      rw [← rO] at oK
      have MT:(cW l n)=x::fH ((fl zs v).take (v - 1)):=by
       have h1:=p4.symm
       rw [AW,← qK,List.drop_left] at h1
       exact h1
      have ow:=oK;have qZ:=hn2;repeat' (first | (simp -implicitDefEqProofs only [go_sem,Int.reduceNegSucc,pG,pH,pI,pF,pq,pz]) | (with_reducible refine aC ?_) | (refine ck ow (by simp [aV,ag];done) (by simp [bf,aY];done) ?_) | (refine dY ow (by simp [aV,ag];done) (by simp [bf,aY];done) ?_) | (refine ck qZ (by simp [aV,ag];done) (by simp [bf,aY];done) ?_) | (refine dY qZ (by simp [aV,ag];done) (by simp [bf,aY];done) ?_) | ((first | refine ak (fun hg=>?_) (fun hg=>?_) | refine aI (fun hg=>?_) (fun hg=>?_) | refine aJ (fun hg=>?_) (fun hg=>?_)) <;> try simp -implicitDefEqProofs only [hg,Bool.not_true,Bool.not_false]) | ((with_reducible apply And.intro);focus (first | trivial | omega | decide | (simp -implicitDefEqProofs only [maxLen];omega) | (simp [maxLen,aj,aq,ax,aG,av,aF,aE] <;> omega))) | fail)
      refine dm (ι:=List aH×Nat×Nat×aH×Bool) (fun q=>[(10,.rv (.bool q.2.2.2.2)),(9,.ptr 4 0),(4,.ptr 2 0),(0,.ptr 0 0)]) (fun q=>[some (.var [.rv (cq l),.rv (.sl 21 (cJ bx)),.rv (.sl 4 (cL cl)),.rv (.sl 1 (eA (cA l) l.length)),.rv (.sl 1 (eA (cu l) l.length)),.row 1 (X2++dy l bx cl d ((cW l n).take q.2.2.1)).length (X2++dy l bx cl d ((cW l n).take q.2.2.1)).length]),some (.row 15 (X2++dy l bx cl d ((cW l n).take q.2.2.1)).length (ah (cE (X2++dy l bx cl d ((cW l n).take q.2.2.1))))),some (.var [.row 3 ps.length q.2.1]),some (.row 3 ps.length (ah (bE q.1))),some (.var (q.2.2.2.1.cells.map .rv))]) (fun q=>q.2.1≤q.1.length∧q.2.1≤ps.length∧jX q.1 q.2.1∧q.2.2.1≤(cW l n).length∧(cW l n).drop q.2.2.1=if q.2.2.2.2=true then q.2.2.2.1::fH (q.1.take q.2.1) else []) (fun q=>q.2.1+if q.2.2.2.2=true then 1 else 0) (fl zs v,v - 1,0,x,true) ⟨by dsimp only;omega,by dsimp only;omega,m1,Nat.zero_le _,by simp [MT]⟩ ?_ (fun q hq K' hN hX hR=>?_)
      ·rw [List.take_zero,show dy l bx cl d []=[] from rfl,List.append_nil]
       refine (rL 4 5 (by decide) (by simp) (by simp) (fun k hk=>?_) (by simp [lk,bh,cn,bT,iZ]))
       simp -implicitDefEqProofs only [List.length_cons,List.length_nil] at hk
       match k,hk with
       | 0,_=>exact ⟨_,_,rfl,rfl,sx rfl⟩
       | 1,_=>exact ⟨_,_,rfl,rfl,ju⟩
       | 2,_=>exact ⟨_,_,rfl,rfl,sA rfl⟩
       | 3,_=>exact ⟨_,_,rfl,rfl,ju⟩
       | 4,_=>exact ⟨_,_,rfl,rfl,sy (rs:=x.cells)⟩
      obtain ⟨ys,w,j,x,ok⟩:=q
      obtain ⟨q1,q2,q3,q5,q4⟩:=hq
      dsimp only at q1 q2 q3 q4 q5 ⊢
      obtain ⟨X,eO⟩:∃ X,X=X2++dy l bx cl d ((cW l n).take j):=⟨_,rfl⟩
      rw [← eO]
      simp -implicitDefEqProofs only [go_sem,Int.reduceNegSucc]
      cases ok with
      | false=>
        simp -implicitDefEqProofs only [Bool.false_eq_true,if_false] at q4
        have hj:(cW l n).take j=cW l n:=List.take_of_length_le (List.drop_eq_nil_iff.1 q4)
        rw [hj] at eO
        have AD:X=xs++(bK l bx cl n++(dy l bx cl d (ec l n)++((fG l n).flatMap (bK l bx cl)++dy l bx cl d (cW l n)))):=by rw [eO,rO,pL,qv];simp -implicitDefEqProofs only [List.append_assoc]
        rw [← AD] at hK
        repeat' (first | (simp -implicitDefEqProofs only [go_sem,Int.reduceNegSucc]) | (with_reducible refine aC ?_) | ((first | refine ak (fun hg=>?_) (fun hg=>?_) | refine aI (fun hg=>?_) (fun hg=>?_) | refine aJ (fun hg=>?_) (fun hg=>?_)) <;> try simp -implicitDefEqProofs only [hg,Bool.not_true,Bool.not_false]) | ((with_reducible apply And.intro);focus (first | trivial | omega | decide | (simp -implicitDefEqProofs only [maxLen];omega) | (simp [maxLen,aj,aq,ax,aG,av,aF,aE] <;> omega))) | fail)
        refine hX _ _ _ ?_
        repeat' (first | (simp -implicitDefEqProofs only [go_sem,Int.reduceNegSucc]) | (with_reducible refine aC ?_) | ((first | refine ak (fun hg=>?_) (fun hg=>?_) | refine aI (fun hg=>?_) (fun hg=>?_) | refine aJ (fun hg=>?_) (fun hg=>?_)) <;> try simp -implicitDefEqProofs only [hg,Bool.not_true,Bool.not_false]) | ((with_reducible apply And.intro);focus (first | trivial | omega | decide | (simp -implicitDefEqProofs only [maxLen];omega) | (simp [maxLen,aj,aq,ax,aG,av,aF,aE] <;> omega))) | fail)
        refine (hK _ _ _ _ [] (cK _ _) ?_).1
        simp [cw,aQ,newL,cD,ct,bH,bF,lk,bO,bV,cj,bW,cU,cT,ag,cC,cO,bh,bT,cn,de,cS,dc,cc,cB,cz,dZ,Ne.symm dZ,cR,pM,pP]
      | true=>
        simp -implicitDefEqProofs only [if_true] at q4
        have hjl:j<(cW l n).length:=by
         apply Classical.byContradiction
         intro h
         rw [List.drop_of_length_le (by omega)] at q4;cases q4
        have iJ:(cW l n)[j]'hjl=x∧(cW l n).drop (j+1)=fH (ys.take w):=by
         rw [List.drop_eq_getElem_cons hjl] at q4
         exact List.cons.inj q4
        obtain ⟨m,hmp,vt⟩:=xO (l:=l) (n:=n) (e:=x) (by rw [← iJ.1];exact List.getElem_mem hjl)
        have qC:x.tie=(m:Int):=by rw [vt];rfl
        have lf:=Cc (l:=l) (bx:=bx) (cl:=cl) (d:=d) hjl
        rw [iJ.1,qC,Int.toNat_natCast] at lf
        have fE:=Cb (l:=l) (bx:=bx) (cl:=cl) (d:=d) (es:=cW l n) (j:=j+1)
        have gO:=hpart m hmp 0 1 (by decide) X (by rw [eO,List.append_assoc,← lf,rO,pL,qv];simp -implicitDefEqProofs only [List.length_append] at hx ⊢;omega)
        obtain ⟨Y,jE⟩:∃ Y,Y=X2++dy l bx cl d ((cW l n).take (j+1)):=⟨_,rfl⟩
        have uW:X++(fk l (dQ l d) m).flatMap (bK l bx cl)=Y:=by rw [jE,eO,lf,List.append_assoc]
        rw [uW] at gO
        simp -implicitDefEqProofs only [cR,pM,pP] at gO
        rw [← qC] at gO
        by_cases h0:w=0
        ·subst h0
         have hn:=CC 2 3 ps.length ys (by decide)
         rw [qt] at hn
         have ri:=gO;have rj:=hn;repeat' (first | (simp -implicitDefEqProofs only [go_sem,Int.reduceNegSucc,pG,pH,pI,pF,pq,pz]) | (with_reducible refine aC ?_) | (refine ck ri (by simp [aV,ag];done) (by simp [bf,aY];done) ?_) | (refine dY ri (by simp [aV,ag];done) (by simp [bf,aY];done) ?_) | (refine ck rj (by simp [aV,ag];done) (by simp [bf,aY];done) ?_) | (refine dY rj (by simp [aV,ag];done) (by simp [bf,aY];done) ?_) | ((first | refine ak (fun hg=>?_) (fun hg=>?_) | refine aI (fun hg=>?_) (fun hg=>?_) | refine aJ (fun hg=>?_) (fun hg=>?_)) <;> try simp -implicitDefEqProofs only [hg,Bool.not_true,Bool.not_false]) | ((with_reducible apply And.intro);focus (first | trivial | omega | decide | (simp -implicitDefEqProofs only [maxLen];omega) | (simp [maxLen,aj,aq,ax,aG,av,aF,aE] <;> omega) | (exact ⟨rfl,by decide⟩;done))) | fail)
         rw [List.take_zero,uc] at iJ
         subst jE
         refine hN (ys,0,j+1,⟨0,0,0⟩,false) _ _ ⟨by dsimp only;omega,by dsimp only;omega,q3,by dsimp only;omega,by simp [iJ.2]⟩ (by dsimp only;simp;try omega) (rL 4 5 (by decide) (by simp) (by simp) (fun k hk=>?_) (by simp [lk,bh,cn,bT,iZ]))
         simp -implicitDefEqProofs only [List.length_cons,List.length_nil] at hk
         match k,hk with
         | 0,_=>exact ⟨_,_,rfl,rfl,sx rfl⟩
         | 1,_=>exact ⟨_,_,rfl,rfl,ju⟩
         | 2,_=>exact ⟨_,_,rfl,rfl,sA rfl⟩
         | 3,_=>exact ⟨_,_,rfl,rfl,ju⟩
         | 4,_=>exact ⟨_,_,rfl,rfl,sy (rs:=(⟨0,0,0⟩:aH).cells)⟩
        ·have hn:=CE 2 3 ps.length w ys (by decide) q1 h0 (by omega)
         rw [qt] at hn
         obtain ⟨m1,m2,m3,m4⟩:=yM (es:=ys) (n:=w) q1 (by omega) q3
         have tw:=AP (es:=ys) (n:=w) q1 (by omega) q3
         rw [tw] at iJ
         have rm:=gO;have wz:=hn;repeat' (first | (simp -implicitDefEqProofs only [go_sem,Int.reduceNegSucc,pG,pH,pI,pF,pq,pz]) | (with_reducible refine aC ?_) | (refine ck rm (by simp [aV,ag];done) (by simp [bf,aY];done) ?_) | (refine dY rm (by simp [aV,ag];done) (by simp [bf,aY];done) ?_) | (refine ck wz (by simp [aV,ag];done) (by simp [bf,aY];done) ?_) | (refine dY wz (by simp [aV,ag];done) (by simp [bf,aY];done) ?_) | ((first | refine ak (fun hg=>?_) (fun hg=>?_) | refine aI (fun hg=>?_) (fun hg=>?_) | refine aJ (fun hg=>?_) (fun hg=>?_)) <;> try simp -implicitDefEqProofs only [hg,Bool.not_true,Bool.not_false]) | ((with_reducible apply And.intro);focus (first | trivial | omega | decide | (simp -implicitDefEqProofs only [maxLen];omega) | (simp [maxLen,aj,aq,ax,aG,av,aF,aE] <;> omega) | (exact ⟨rfl,by decide⟩;done))) | fail)
         subst jE
         refine hN (fl ys w,w - 1,j+1,ga (fl ys w) (w - 1),true) _ _ ⟨by dsimp only;omega,by dsimp only;omega,m1,by dsimp only;omega,by simp [iJ.2]⟩ (by dsimp only;simp;try omega) (rL 4 5 (by decide) (by simp) (by simp) (fun k hk=>?_) (by simp [lk,bh,cn,bT,iZ]))
         simp -implicitDefEqProofs only [List.length_cons,List.length_nil] at hk
         match k,hk with
         | 0,_=>exact ⟨_,_,rfl,rfl,sx rfl⟩
         | 1,_=>exact ⟨_,_,rfl,rfl,ju⟩
         | 2,_=>exact ⟨_,_,rfl,rfl,sA rfl⟩
         | 3,_=>exact ⟨_,_,rfl,rfl,ju⟩
         | 4,_=>exact ⟨_,_,rfl,rfl,sy (rs:=(ga (fl ys w) (w - 1)).cells)⟩
end
end Go.ay

namespace Go.ay
open Go
theorem Pg:bC Go.Proofs.Try.prog 40 38 (fc Go.Proofs.Try.prog 40 38 [(.t 6)]) [(.t 6)]:=bP (by kernel_rfl)
def fA (l:List Nd) (bx:List Bx) (cl:List Rc):List bA:=if bx.length=l.length∧cl.length=l.length∧aT l 0=true then iM l bx cl else []
theorem SD (l:List Nd) (hs:cP l) (hb:l.length≤1000) (bx:List Bx) (cl:List Rc) (eU:bx.length=l.length) (dM:cl.length=l.length) (hf:bx.all iG=true) (h0:aT l 0=true) :
 aP Go.Proofs.Try.prog 71 [.ptr 0 0,.rv (.int .i64 0)] [(0,.var [.rv (cq l),.rv (.sl 21 (cJ bx)),.rv (.sl 4 (cL cl)),.rv (.sl 1 (eA (cA l) l.length)),.rv (.sl 1 (eA (cu l) l.length)),.rv .bZ])]
  [(0,.var [.rv (cq l),.rv (.sl 21 (cJ bx)),.rv (.sl 4 (cL cl)),.rv (.sl 1 (eA (cA l) l.length)),.rv (.sl 1 (eA (cu l) l.length)),.row 1 (iM l bx cl).length (iM l bx cl).length]),(1,.row 15 (iM l bx cl).length (ah (cE (iM l bx cl))))] (.aR []):=by
 have gN:=uO h0
 have hlen:(iM l bx cl).length≤100000000:=by
  have h1:=At (l:=l) (bx:=bx) (cl:=cl) (dQ l (l.length+1) 0)
  have h2:=Ee (l:=l) (d:=l.length+1) (n:=0) gN
  unfold iM;omega
 have h:=HH l hs hb bx cl eU dM hf (l.length+1) 0 gN (by omega) 0 1 (by decide) [] (by rw [List.nil_append];exact hlen)
 rw [List.nil_append] at h
 exact DG (i0:=0) (m:=1) (e:=15) (o:=5) (cs:=[.rv (cq l),.rv (.sl 21 (cJ bx)),.rv (.sl 4 (cL cl)),.rv (.sl 1 (eA (cA l) l.length)),.rv (.sl 1 (eA (cu l) l.length)),.rv .bZ]) rfl (by simp) (by decide) (by simp) (by simp) h
end Go.ay

namespace Go.ay
open Go
theorem zg {l:List Nd} {k:Nat} (h:k<l.length):eu l k=(l[k]'h).s:=by simp [eu,oR h,h]
end Go.ay

namespace Go.ay
open Go
def DD:AC:=(.seq (.dz [⟨(some 0),.mv,[(.c (.rv (.bool false)))],none⟩]) (.seq (.dz [⟨(some 5),(.call 44),[],none⟩,⟨(some 1),(.alloc [(.bool false),(.int .i64 0),(.int .i64 0),(.int .i64 0),(.int .i64 0),(.int .i64 0),(.int .i64 0),(.int .i64 0),(.int .i64 0),(.int .i64 0),(.int .i64 0),(.int .i64 0),(.int .i64 0),(.int .i64 0),(.int .i64 0),(.int .i64 0),(.int .i64 0),(.int .i64 0),(.int .i64 0),(.int .i64 0),(.int .i64 0),(.int .i64 0),(.int .i64 0),(.int .i64 0),(.int .i64 0),(.int .i64 0),(.int .i64 0),(.int .i64 0),(.int .i64 0),(.int .i64 0),(.int .i64 0),(.int .i64 0),(.int .i64 0),(.int .i64 0),(.int .i64 0),(.int .i64 0),(.int .i64 0),(.int .i64 0),(.int .i64 0),(.int .i64 0),(.int .i64 0),(.int .i64 0),(.bool false),(.bool false),(.int .i64 0),(.bool false),(.int .i64 0),(.int .i64 0)]),[],none⟩,⟨none,(.store 48),[(.t 1),(.t 5)],none⟩]) (.seq (.dz [⟨(some 6),(.eC 46),[(.t 1)],none⟩,⟨none,(.store 1),[(.t 6),(.c (.rv (.int .i64 5)))],none⟩]) (.seq (.dz [⟨(some 8),(.load 48 true),[(.t 1)],none⟩,⟨(some 9),(.build [(.bool false),(.int .i64 0),(.int .i64 0),(.int .i64 0),(.int .i64 0),(.int .i64 0),(.int .i64 0),(.int .i64 0),(.int .i64 0),(.int .i64 0),(.int .i64 0),(.int .i64 0),(.int .i64 0),(.int .i64 0),(.int .i64 0),(.int .i64 0),(.int .i64 0),(.int .i64 0),(.int .i64 0),(.int .i64 0),(.int .i64 0),(.int .i64 0),(.int .i64 0),(.int .i64 0),(.int .i64 0),(.int .i64 0),(.int .i64 0),(.int .i64 0),(.int .i64 0),(.int .i64 0),(.int .i64 0),(.int .i64 0),(.int .i64 0),(.int .i64 0),(.int .i64 0),(.int .i64 0),(.int .i64 0),(.int .i64 0),(.int .i64 0),(.int .i64 0),(.int .i64 0),(.int .i64 0),(.bool false),(.bool false),(.int .i64 0),(.bool false),(.int .i64 0),(.int .i64 0),(.int .i64 0)] [(0,48),(48,1)]),[(.t 8),(.c (.rv (.int .i64 (-1))))],none⟩,⟨(some 10),(.rE 49),[(.t 9)],none⟩,⟨(some 11),(.call 17),[(.t 10)],none⟩,⟨(some 7),.mv,[(.t 11)],none⟩,⟨(some 12),(.ext 0),[(.t 7)],none⟩,⟨(some 13),(.ext 1),[(.t 7)],none⟩,⟨(some 2),.mv,[(.t 12)],none⟩,⟨(some 3),.mv,[(.t 13)],none⟩]) (.seq (.dz [⟨(some 14),.mv,[(.t 2)],none⟩,⟨(some 15),(.build [(.bool false),(.int .i64 0),(.int .i64 0),(.int .i64 0),(.int .i64 0),(.int .i64 0),(.int .i64 0),(.int .i64 0),(.int .i64 0),(.int .i64 0),(.int .i64 0),(.int .i64 0),(.int .i64 0),(.int .i64 0),(.int .i64 0),(.int .i64 0),(.int .i64 0),(.int .i64 0),(.int .i64 0),(.int .i64 0),(.int .i64 0)] [(0,1),(3,1),(4,1)]),[(.c (.rv (.bool true))),(.c (.rv (.int .i64 3))),(.c (.rv (.int .i64 4)))],none⟩,⟨(some 16),(.rE 21),[(.t 15)],none⟩,⟨(some 17),(.build [(.int .i64 0),(.int .i64 0),(.int .i64 0),(.int .i64 0)] [(2,1),(3,1)]),[(.c (.rv (.int .i64 9))),(.c (.rv (.int .i64 9)))],none⟩,⟨(some 18),(.rE 4),[(.t 17)],none⟩,⟨(some 19),(.call 40),[(.t 14),(.t 16),(.t 18)],none⟩,⟨(some 4),.mv,[(.t 19)],none⟩]) (.seq (.dz [⟨(some 20),.mv,[(.t 3)],none⟩,⟨(some 21),(.eJ .eql),[(.t 20),(.c (.rv (.int .i64 0)))],none⟩,⟨(some 22),.mv,[(.t 21)],none⟩,⟨(some 23),.mv,[(.t 4)],(some (22,true))⟩,⟨(some 24),.len,[(.t 23)],(some (22,true))⟩,⟨(some 25),(.eJ .eql),[(.t 24),(.c (.rv (.int .i64 1)))],(some (22,true))⟩,⟨(some 26),.pick,[(.t 22),(.t 25),(.c (.rv (.bool false)))],none⟩,⟨(some 27),.mv,[(.t 26)],none⟩,⟨(some 28),.mv,[(.t 4)],(some (27,true))⟩,⟨(some 29),(.ixs 15),[(.t 28),(.c (.rv (.int .i64 0)))],(some (27,true))⟩,⟨(some 30),(.eC 2),[(.t 29)],(some (27,true))⟩,⟨(some 31),(.load 4 true),[(.t 30)],(some (27,true))⟩,⟨(some 32),(.build [(.int .i64 0),(.int .i64 0),(.int .i64 0),(.int .i64 0)] [(2,1),(3,1)]),[(.c (.rv (.int .i64 3))),(.c (.rv (.int .i64 4)))],(some (27,true))⟩,⟨(some 33),(.eqs false true [.i,.i,.i,.i]),[(.t 31),(.t 32)],(some (27,true))⟩,⟨(some 34),.pick,[(.t 27),(.t 33),(.c (.rv (.bool false)))],none⟩,⟨(some 35),.mv,[(.t 34)],none⟩,⟨(some 36),.mv,[(.t 4)],(some (35,true))⟩,⟨(some 37),(.ixs 15),[(.t 36),(.c (.rv (.int .i64 0)))],(some (35,true))⟩,⟨(some 38),(.eC 14),[(.t 37)],(some (35,true))⟩,⟨(some 39),(.load 1 false),[(.t 38)],(some (35,true))⟩,⟨(some 40),(.eJ .eql),[(.t 39),(.c (.rv (.int .i64 5)))],(some (35,true))⟩,⟨(some 41),.pick,[(.t 35),(.t 40),(.c (.rv (.bool false)))],none⟩,⟨(some 0),.mv,[(.t 41)],none⟩]) .ret))))))
theorem OO:bC Go.Proofs.Try.prog 37 42 DD [(.t 0)]:=xy (by kernel_rfl)
theorem SH (m:Nat) (l:List Nd) (hs:cP l) (hb:l.length≤1000) (bx:List Bx) (cl:List Rc) (hf:bx.all iG=true):aP Go.Proofs.Try.prog 40 [.rv (cq l),.rv (.sl 21 (cJ bx)),.rv (.sl 4 (cL cl))] [] [(m,.row 15 (fA l bx cl).length (ah (cE (fA l bx cl))))] (.row m (fA l bx cl).length (fA l bx cl).length):=by
 refine eY Pg [] [] [] [.rv (cq l),.rv (.sl 21 (cJ bx)),.rv (.sl 4 (cL cl))] [.rv (cq l),.rv (.sl 21 (cJ bx)),.rv (.sl 4 (cL cl))] _ _ (by simp) (by simp [aW,bD]) rfl (by simp [aQ]) (by simp [cI]) (fun K hK=>?_)
 have xI:=zI bx
 have ie:=Cl cl
 have dV:=ze l 0
 conv in fc _ _ _ _=>reduce
 simp -implicitDefEqProofs only [go_sem,Int.reduceNegSucc]
 by_cases h1:bx.length=l.length
 ·have e1:((bx.length:Int) !=(l.length:Int))=false:=by simp [h1]
  by_cases h2:cl.length=l.length
  ·have e2:((cl.length:Int) !=(l.length:Int))=false:=by simp [h2]
   cases h0:aT l 0 with
   | true=>
     rw [h0] at dV
     have hI:fA l bx cl=iM l bx cl:=if_pos ⟨h1,h2,h0⟩
     rw [hI] at hK
     have hst:=SJ l hs hb bx cl 0
     have gC:=SD l hs hb bx cl h1 h2 hf h0
     generalize iM l bx cl=X at *
     have bY:=ud l;have y_2:=dV;have di:=hst;have dH:=gC;repeat' (first | (simp -implicitDefEqProofs only [go_sem,Int.reduceNegSucc,xI,ie,e1,e2]) | (with_reducible refine aC ?_) | (with_reducible first | refine aM bY ?_ | refine aN bY ?_) | (with_reducible first | refine aM y_2 ?_ | refine aN y_2 ?_) | (refine ck di (by simp [aV,ag];done) (by simp [bf,aY];done) ?_) | (refine dY di (by simp [aV,ag];done) (by simp [bf,aY];done) ?_) | (refine ck dH (by simp [aV,ag];done) (by simp [bf,aY];done) ?_) | (refine dY dH (by simp [aV,ag];done) (by simp [bf,aY];done) ?_) | ((first | refine ak (fun hg=>?_) (fun hg=>?_) | refine aI (fun hg=>?_) (fun hg=>?_) | refine aJ (fun hg=>?_) (fun hg=>?_)) <;> try simp -implicitDefEqProofs only [hg,Bool.not_true,Bool.not_false]) | ((with_reducible apply And.intro);focus (first | trivial | omega | decide | (simp -implicitDefEqProofs only [maxLen];omega) | (simp [maxLen,aj,aq,ax,aG,av,aF,aE] <;> omega))) | fail)
     refine (hK _ _ _ _ [none,some m] (cK _ _) ?_).2
     simp [cw,aQ,newL,cD,ct,bH,bF,lk,bO,bV,cj,bW,cU,cT,ag,cC,cO,bh,bT,cn,de,cS,dc,cc,cB,cz]
   | false=>
     rw [h0] at dV
     have hI:fA l bx cl=[]:=if_neg (by rw [h0];simp)
     rw [hI] at hK
     have dX:=ud l;have eS:=dV;repeat' (first | (simp -implicitDefEqProofs only [go_sem,Int.reduceNegSucc,xI,ie,e1,e2]) | (with_reducible refine aC ?_) | (with_reducible first | refine aM dX ?_ | refine aN dX ?_) | (with_reducible first | refine aM eS ?_ | refine aN eS ?_) | ((first | refine ak (fun hg=>?_) (fun hg=>?_) | refine aI (fun hg=>?_) (fun hg=>?_) | refine aJ (fun hg=>?_) (fun hg=>?_)) <;> try simp -implicitDefEqProofs only [hg,Bool.not_true,Bool.not_false]) | ((with_reducible apply And.intro);focus (first | trivial | omega | decide | (simp -implicitDefEqProofs only [maxLen];omega) | (simp [maxLen,aj,aq,ax,aG,av,aF,aE] <;> omega))) | fail)
     refine (hK _ _ _ _ [some m] (xj 6 15 0 rfl) ?_).2
     simp [cw,aQ,newL,cD,ct,bH,bF,lk,bO,bV,cj,bW,cU,cT,ag,cC,cO,bh,bT,cn,de,cS,dc,cc,cB,cz]
     exact ⟨by simp [ah,cE],fun i x y hx=>by simp at hx⟩
  ·have e2:((cl.length:Int) !=(l.length:Int))=true:=by simp;omega
   have hI:fA l bx cl=[]:=if_neg (fun h=>h2 h.2.1)
   rw [hI] at hK
   have fB:=ud l;repeat' (first | (simp -implicitDefEqProofs only [go_sem,Int.reduceNegSucc,xI,ie,e1,e2]) | (with_reducible refine aC ?_) | (with_reducible first | refine aM fB ?_ | refine aN fB ?_) | ((first | refine ak (fun hg=>?_) (fun hg=>?_) | refine aI (fun hg=>?_) (fun hg=>?_) | refine aJ (fun hg=>?_) (fun hg=>?_)) <;> try simp -implicitDefEqProofs only [hg,Bool.not_true,Bool.not_false]) | ((with_reducible apply And.intro);focus (first | trivial | omega | decide | (simp -implicitDefEqProofs only [maxLen];omega) | (simp [maxLen,aj,aq,ax,aG,av,aF,aE] <;> omega))) | fail)
   refine (hK _ _ _ _ [some m] (xj 6 15 0 rfl) ?_).2
   simp [cw,aQ,newL,cD,ct,bH,bF,lk,bO,bV,cj,bW,cU,cT,ag,cC,cO,bh,bT,cn,de,cS,dc,cc,cB,cz]
   exact ⟨by simp [ah,cE],fun i x y hx=>by simp at hx⟩
 ·have e1:((bx.length:Int) !=(l.length:Int))=true:=by simp;omega
  have hI:fA l bx cl=[]:=if_neg (fun h=>h1 h.1)
  rw [hI] at hK
  have gu:=ud l;repeat' (first | (simp -implicitDefEqProofs only [go_sem,Int.reduceNegSucc,xI,ie,e1]) | (with_reducible refine aC ?_) | (with_reducible first | refine aM gu ?_ | refine aN gu ?_) | ((first | refine ak (fun hg=>?_) (fun hg=>?_) | refine aI (fun hg=>?_) (fun hg=>?_) | refine aJ (fun hg=>?_) (fun hg=>?_)) <;> try simp -implicitDefEqProofs only [hg,Bool.not_true,Bool.not_false]) | ((with_reducible apply And.intro);focus (first | trivial | omega | decide | (simp -implicitDefEqProofs only [maxLen];omega) | (simp [maxLen,aj,aq,ax,aG,av,aF,aE] <;> omega))) | fail)
  refine (hK _ _ _ _ [some m] (xj 6 15 0 rfl) ?_).2
  simp [cw,aQ,newL,cD,ct,bH,bF,lk,bO,bV,cj,bW,cU,cT,ag,cC,cO,bh,bT,cn,de,cS,dc,cc,cB,cz]
  exact ⟨by simp [ah,cE],fun i x y hx=>by simp at hx⟩
theorem Lc (x:bA):∀ r∈x.cells,fZ r:=by
 intro r hr
 simp -implicitDefEqProofs only [bA.cells,List.mem_cons,List.not_mem_nil,or_false] at hr
 repeat' rcases hr with rfl | hr
 all_goals first | exact .int _ _ | (subst hr;exact .int _ _)
theorem IE (m:Nat) (l:List Nd) (hs:cP l) (hb:l.length≤1000) (bx:List Bx) (cl:List Rc) (hf:bx.all iG=true) (i u j v:Nat) (hi:i≠m) (hj:j≠m):aP Go.Proofs.Try.prog 40 [.rv (cq l),.row i u bx.length,.row j v cl.length] [(i,.row 21 u (ah (cJ bx))),(j,.row 4 v (ah (cL cl)))] [(m,.row 15 (fA l bx cl).length (ah (cE (fA l bx cl))))] (.row m (fA l bx cl).length (fA l bx cl).length):=by
 refine Ke (gf:=[.rv (cq l),.rv (.sl 21 (cJ bx)),.rv (.sl 4 (cL cl))]) (SH m l hs hb bx cl hf) rfl (fun ai hpre k y r hy hr=>?_) (.row _ _ _) (fun q hq=>?_)
 ·match k,hy,hr with
  | 0,hy,hr=>cases hy;cases hr;exact bh.2 rfl
  | 1,hy,hr=>cases hy;cases hr;exact Cs (xs:=cJ bx) (hpre _ (.head _)) rfl (by rw [zI]) (Ka _)
  | 2,hy,hr=>cases hy;cases hr;exact Cs (xs:=cL cl) (hpre _ (.tail _ (.head _))) rfl (by rw [Cl]) (Rq _)
  | k+3,hy,hr=>simp at hy
 ·simp at hq;subst hq
  refine ⟨EG fun x hx=>?_,fun p hp=>?_⟩
  ·obtain ⟨n,_,rfl⟩:=List.mem_map.1 hx
   exact Lc n
  ·simp -implicitDefEqProofs only [List.mem_cons,List.not_mem_nil,or_false] at hp
   rcases hp with rfl | rfl
   ·exact hi
   ·exact hj
abbrev JO:au:={ Cf with back:=5 }
abbrev kS:List Nd:=[⟨JO,-1⟩]
theorem zF:gX kS=0:=by decide +kernel
theorem zG:aT kS 0=true:=by decide +kernel
def rD:List Bx:=[⟨true,0,0,3,4,⟨0,0,0,0⟩,⟨0,0,0,0⟩,⟨0,0,0,0⟩,⟨0,0,0,0⟩⟩]
def uy:bA:=⟨0,0,⟨0,0,3,4⟩,⟨0,0,0,0⟩,⟨0,0,9,9⟩,5⟩
theorem JQ:bK kS rD [⟨0,0,9,9⟩] 0=[uy]:=by decide +kernel
theorem JP:fA kS rD [⟨0,0,9,9⟩]=[uy]:=by
 have h:fA kS rD [⟨0,0,9,9⟩]=iM kS rD [⟨0,0,9,9⟩]:=if_pos ⟨rfl,rfl,zG⟩
 rw [h,← Rv (zk (zR zF)) zG]
 show oV kS rD [⟨0,0,9,9⟩] 1=[uy]
 have hm:aT kS ((0:Nat):Int)=true:=zG
 rw [oV,if_pos hm,JQ];rfl
theorem CF:aP Go.Proofs.Try.prog 37 [] [] [] (.rv (.bool true)):=by
 refine dK OO [] _ (by simp) (by simp [aW,bS,dA,bD,bU,au.sv,Ln.sv,Nd.sv]) (fun K hK=>?_)
 have hk:=SF kS (by decide) zF 1 0
 have hc:=IE 4 kS (zk (zR zF)) (by decide) rD [⟨0,0,9,9⟩] (by decide) 2 0 3 0 (by decide) (by decide)
 rw [JP] at hc
 have e1:((0:Int) == 0)=true:=rfl
 have e2:((((1:Nat):Int)) == 1)=true:=rfl
 have e3:((3:Int) == 3)=true:=rfl
 have e4:((4:Int) == 4)=true:=rfl
 have e5:((5:Int) == 5)=true:=rfl
 simp -implicitDefEqProofs only [DD,go_sem,Int.reduceNegSucc]
 have iB:=So;repeat' (first | (simp -implicitDefEqProofs only [go_sem,Int.reduceNegSucc,aj]) | (with_reducible refine aC ?_) | (with_reducible first | refine aM iB ?_ | refine aN iB ?_) | ((first | refine ak (fun hg=>?_) (fun hg=>?_) | refine aI (fun hg=>?_) (fun hg=>?_) | refine aJ (fun hg=>?_) (fun hg=>?_)) <;> try simp -implicitDefEqProofs only [hg,Bool.not_true,Bool.not_false]) | ((with_reducible apply And.intro);focus (first | trivial | omega | decide | (simp -implicitDefEqProofs only [maxLen];omega) | (simp [maxLen,aj,aq,ax,aG,av,aF,aE] <;> omega) | (rfl;done) | (exact ⟨rfl,by decide⟩;done))) | fail)
 refine ck hk (Rg rfl) trivial ?_
 repeat' (first | (simp -implicitDefEqProofs only [go_sem,Int.reduceNegSucc]) | (with_reducible refine aC ?_) | ((first | refine ak (fun hg=>?_) (fun hg=>?_) | refine aI (fun hg=>?_) (fun hg=>?_) | refine aJ (fun hg=>?_) (fun hg=>?_)) <;> try simp -implicitDefEqProofs only [hg,Bool.not_true,Bool.not_false]) | ((with_reducible apply And.intro);focus (first | trivial | omega | decide | (simp -implicitDefEqProofs only [maxLen];omega) | (simp [maxLen,aj,aq,ax,aG,av,aF,aE] <;> omega))) | fail)
 have ko:aP Go.Proofs.Try.prog 40 [.rv (cq kS),.row 2 0 1,.row 3 0 1] [(2,.row 21 0 (ah (cJ rD))),(3,.row 4 0 (ah (cL [⟨0,0,9,9⟩])))] [(4,.row 15 1 [uy.cells.map U.rv])] (.row 4 1 1):=hc
 refine ck ko ?_ (by simp [bf,aY]) ?_
 ·intro q hq
  simp -implicitDefEqProofs only [List.mem_cons,List.not_mem_nil,or_false] at hq
  rcases hq with rfl | rfl <;> rfl
 repeat' (first | (simp -implicitDefEqProofs only [go_sem,Int.reduceNegSucc,e1,e2,e3,e4,e5,Bv,uy,bA.cells,Bool.and_true,Bool.and_self]) | (with_reducible refine aC ?_) | ((first | refine ak (fun hg=>?_) (fun hg=>?_) | refine aI (fun hg=>?_) (fun hg=>?_) | refine aJ (fun hg=>?_) (fun hg=>?_)) <;> try simp -implicitDefEqProofs only [hg,Bool.not_true,Bool.not_false]) | ((with_reducible apply And.intro);focus (first | trivial | omega | decide | (simp -implicitDefEqProofs only [maxLen];omega) | (simp [maxLen,aj,aq,ax,aG,av,aF,aE] <;> omega))) | fail)
 exact (hK _ _ (cm rfl)).2
end Go.ay

namespace Go.ay
open Go
theorem Kc (n:Nat):List.replicate n [U.rv (.bool false),.rv (.int .i64 0),.rv (.int .i64 0),.rv (.int .i64 0),.rv (.int .i64 0),.rv (.int .i64 0),.rv (.int .i64 0),.rv (.int .i64 0),.rv (.int .i64 0),.rv (.int .i64 0),.rv (.int .i64 0),.rv (.int .i64 0),.rv (.int .i64 0),.rv (.int .i64 0),.rv (.int .i64 0),.rv (.int .i64 0),.rv (.int .i64 0),.rv (.int .i64 0),.rv (.int .i64 0),.rv (.int .i64 0),.rv (.int .i64 0)]=ah (cJ (List.replicate n default)):=by
 simp -implicitDefEqProofs only [ah,cJ,List.map_replicate];rfl
theorem Rs (n:Nat):List.replicate n [U.rv (.int .i64 0),.rv (.int .i64 0),.rv (.int .i64 0),.rv (.int .i64 0)]=ah (cL (List.replicate n cQ)):=by
 simp -implicitDefEqProofs only [ah,cL,List.map_replicate];rfl
theorem KX (n:Nat):(List.replicate n (default:Bx)).all iG=true:=by
 rw [List.all_eq_true]
 intro b hb
 rw [List.eq_of_mem_replicate hb];rfl
end Go.ay

namespace Go.ay
open Go
def DC:AC:=(.seq (.dz [⟨(some 2),.mv,[(.c (.rv (.bool false)))],none⟩]) (.seq (.seq (.dz [⟨(some 12),(.call 37),[],none⟩,⟨(some 13),.not,[(.t 12)],none⟩,⟨(some 14),.mv,[(.t 13)],none⟩,⟨(some 15),.mv,[(.t 0)],(some (14,false))⟩,⟨(some 16),.len,[(.t 15)],(some (14,false))⟩,⟨(some 17),(.eJ .gtr),[(.t 16),(.c (.rv (.int .i64 25)))],(some (14,false))⟩,⟨(some 18),.pick,[(.t 14),(.c (.rv (.bool true))),(.t 17)],none⟩,⟨(some 19),.mv,[(.t 18)],none⟩,⟨(some 20),.mv,[(.t 0)],(some (19,false))⟩,⟨(some 21),(.call 16),[(.t 20)],(some (19,false))⟩,⟨(some 22),(.eJ .neq),[(.t 21),(.c (.rv (.int .i64 0)))],(some (19,false))⟩,⟨(some 23),.pick,[(.t 19),(.c (.rv (.bool true))),(.t 22)],none⟩]) (.cond (.t 23) (.seq (.dz [⟨(some 24),(.call 37),[],none⟩,⟨(some 2),.mv,[(.t 24)],none⟩]) .ret) .skip)) (.seq (.dz [⟨(some 26),.mv,[(.t 0)],none⟩,⟨(some 27),(.call 17),[(.t 26)],none⟩,⟨(some 25),.mv,[(.t 27)],none⟩,⟨(some 28),(.ext 0),[(.t 25)],none⟩,⟨(some 29),(.ext 1),[(.t 25)],none⟩,⟨(some 3),.mv,[(.t 28)],none⟩,⟨(some 4),.mv,[(.t 29)],none⟩]) (.seq (.qf [0,0,2,6,0,16,48,127,255] [⟨(some 30),.mv,[(.t 3)],none⟩,⟨(some 31),.mv,[(.t 0)],none⟩,⟨(some 32),.len,[(.t 31)],none⟩,⟨(some 33),(.vS 21 168 [(.bool false),(.int .i64 0),(.int .i64 0),(.int .i64 0),(.int .i64 0),(.int .i64 0),(.int .i64 0),(.int .i64 0),(.int .i64 0),(.int .i64 0),(.int .i64 0),(.int .i64 0),(.int .i64 0),(.int .i64 0),(.int .i64 0),(.int .i64 0),(.int .i64 0),(.int .i64 0),(.int .i64 0),(.int .i64 0),(.int .i64 0)]),[(.t 32),(.t 32)],none⟩,⟨(some 34),.mv,[(.t 0)],none⟩,⟨(some 35),.len,[(.t 34)],none⟩,⟨(some 36),(.vS 4 32 [(.int .i64 0),(.int .i64 0),(.int .i64 0),(.int .i64 0)]),[(.t 35),(.t 35)],none⟩,⟨(some 37),(.call 40),[(.t 30),(.t 33),(.t 36)],none⟩,⟨(some 5),.mv,[(.t 37)],none⟩]) (.seq (.dz [⟨(some 38),.mv,[(.t 0)],none⟩,⟨(some 39),.len,[(.t 38)],none⟩,⟨(some 40),(.vS 2 16 [(.int .i64 0),(.int .i64 0)]),[(.t 39),(.t 39)],none⟩,⟨(some 6),.mv,[(.t 40)],none⟩]) (.seq (.seq (.dz [⟨(some 41),.mv,[(.t 5)],none⟩,⟨(some 42),.len,[(.t 41)],none⟩,⟨(some 43),.mv,[(.c (.rv (.int .i64 0)))],none⟩]) (.seq (.block 0 (.loop (.seq (.dz [⟨(some 44),(.eJ .lss),[(.t 43),(.t 42)],none⟩]) (.seq (.cond (.t 44) .skip (.exit 0)) (.seq (.seq (.block 1 (.seq (.dz [⟨(some 45),.mv,[(.t 43)],none⟩,⟨(some 7),.mv,[(.t 45)],none⟩]) (.seq (.dz [⟨(some 46),.mv,[(.t 5)],none⟩,⟨(some 47),.mv,[(.t 7)],none⟩,⟨(some 48),(.ixs 15),[(.t 46),(.t 47)],none⟩,⟨(some 49),(.load 15 true),[(.t 48)],none⟩,⟨(some 8),(.alloc [(.int .i64 0),(.int .i64 0),(.int .i64 0),(.int .i64 0),(.int .i64 0),(.int .i64 0),(.int .i64 0),(.int .i64 0),(.int .i64 0),(.int .i64 0),(.int .i64 0),(.int .i64 0),(.int .i64 0),(.int .i64 0),(.int .i64 0)]),[],none⟩,⟨none,(.store 15),[(.t 8),(.t 49)],none⟩]) (.seq (.seq (.dz [⟨(some 50),(.eC 0),[(.t 8)],none⟩,⟨(some 51),(.load 1 false),[(.t 50)],none⟩,⟨(some 52),(.eJ .lss),[(.t 51),(.c (.rv (.int .i64 0)))],none⟩,⟨(some 53),.mv,[(.t 52)],none⟩,⟨(some 54),(.eC 0),[(.t 8)],(some (53,false))⟩,⟨(some 55),(.load 1 false),[(.t 54)],(some (53,false))⟩,⟨(some 56),.mv,[(.t 0)],(some (53,false))⟩,⟨(some 57),.len,[(.t 56)],(some (53,false))⟩,⟨(some 58),(.eJ .geq),[(.t 55),(.t 57)],(some (53,false))⟩,⟨(some 59),.pick,[(.t 53),(.c (.rv (.bool true))),(.t 58)],none⟩,⟨(some 60),.mv,[(.t 59)],none⟩,⟨(some 61),(.eC 1),[(.t 8)],(some (60,false))⟩,⟨(some 62),(.load 1 false),[(.t 61)],(some (60,false))⟩,⟨(some 63),(.eJ .lss),[(.t 62),(.c (.rv (.int .i64 0)))],(some (60,false))⟩,⟨(some 64),.pick,[(.t 60),(.c (.rv (.bool true))),(.t 63)],none⟩,⟨(some 65),.mv,[(.t 64)],none⟩,⟨(some 66),(.eC 1),[(.t 8)],(some (65,false))⟩,⟨(some 67),(.load 1 false),[(.t 66)],(some (65,false))⟩,⟨(some 68),(.eJ .gtr),[(.t 67),(.c (.rv (.int .i64 1)))],(some (65,false))⟩,⟨(some 69),.pick,[(.t 65),(.c (.rv (.bool true))),(.t 68)],none⟩]) (.cond (.t 69) (.seq (.dz [⟨(some 2),.mv,[(.c (.rv (.bool false)))],none⟩]) .ret) .skip)) (.qf [0,0,2,0,8,7,63,127,255,7,1023,2047] [⟨(some 70),.mv,[(.t 6)],none⟩,⟨(some 71),(.eC 0),[(.t 8)],none⟩,⟨(some 72),(.load 1 false),[(.t 71)],none⟩,⟨(some 73),(.eC 1),[(.t 8)],none⟩,⟨(some 74),(.load 1 false),[(.t 73)],none⟩,⟨(some 75),(.ixs 2),[(.t 70),(.t 72)],none⟩,⟨(some 76),(.tH 2 1),[(.t 75),(.t 74)],none⟩,⟨(some 77),(.load 1 false),[(.t 76)],none⟩,⟨(some 78),(.eJ .add),[(.t 77),(.c (.rv (.int .i64 1)))],none⟩,⟨(some 79),(.ixs 2),[(.t 70),(.t 72)],none⟩,⟨(some 80),(.tH 2 1),[(.t 79),(.t 74)],none⟩,⟨none,(.store 1),[(.t 80),(.t 78)],none⟩]))))) .jh) (.dz [⟨(some 81),(.eJ .add),[(.t 43),(.c (.rv (.int .i64 1)))],none⟩,⟨(some 43),.mv,[(.t 81)],none⟩])))))) .jh)) (.seq (.seq (.dz [⟨(some 82),.mv,[(.t 0)],none⟩,⟨(some 83),.len,[(.t 82)],none⟩,⟨(some 84),.mv,[(.c (.rv (.int .i64 0)))],none⟩]) (.seq (.block 2 (.loop (.seq (.dz [⟨(some 85),(.eJ .lss),[(.t 84),(.t 83)],none⟩]) (.seq (.cond (.t 85) .skip (.exit 2)) (.seq (.seq (.block 3 (.seq (.dz [⟨(some 86),.mv,[(.t 84)],none⟩,⟨(some 9),.mv,[(.t 86)],none⟩]) (.seq (.dz [⟨(some 87),.mv,[(.t 0)],none⟩,⟨(some 88),.mv,[(.t 9)],none⟩,⟨(some 89),(.ixs 49),[(.t 87),(.t 88)],none⟩,⟨(some 90),(.eC 0),[(.t 89)],none⟩,⟨(some 91),(.load 48 true),[(.t 90)],none⟩,⟨(some 10),(.alloc [(.bool false),(.int .i64 0),(.int .i64 0),(.int .i64 0),(.int .i64 0),(.int .i64 0),(.int .i64 0),(.int .i64 0),(.int .i64 0),(.int .i64 0),(.int .i64 0),(.int .i64 0),(.int .i64 0),(.int .i64 0),(.int .i64 0),(.int .i64 0),(.int .i64 0),(.int .i64 0),(.int .i64 0),(.int .i64 0),(.int .i64 0),(.int .i64 0),(.int .i64 0),(.int .i64 0),(.int .i64 0),(.int .i64 0),(.int .i64 0),(.int .i64 0),(.int .i64 0),(.int .i64 0),(.int .i64 0),(.int .i64 0),(.int .i64 0),(.int .i64 0),(.int .i64 0),(.int .i64 0),(.int .i64 0),(.int .i64 0),(.int .i64 0),(.int .i64 0),(.int .i64 0),(.int .i64 0),(.bool false),(.bool false),(.int .i64 0),(.bool false),(.int .i64 0),(.int .i64 0)]),[],none⟩,⟨none,(.store 48),[(.t 10),(.t 91)],none⟩]) (.seq (.dz [⟨(some 92),(.build [(.int .i64 0),(.int .i64 0)] []),[],none⟩,⟨(some 11),(.alloc [(.int .i64 0),(.int .i64 0)]),[],none⟩,⟨none,(.store 2),[(.t 11),(.t 92)],none⟩]) (.seq (.seq (.dz [⟨(some 93),.mv,[(.t 0)],none⟩,⟨(some 94),.mv,[(.t 9)],none⟩,⟨(some 95),(.call 42),[(.t 93),(.t 94)],none⟩,⟨(some 96),.mv,[(.t 95)],none⟩,⟨(some 97),(.eC 46),[(.t 10)],(some (96,true))⟩,⟨(some 98),(.load 1 false),[(.t 97)],(some (96,true))⟩,⟨(some 99),(.eJ .neq),[(.t 98),(.c (.rv (.int .i64 0)))],(some (96,true))⟩,⟨(some 100),.pick,[(.t 96),(.t 99),(.c (.rv (.bool false)))],none⟩]) (.seq (.cond (.t 100) (.dz [⟨(some 101),(.tH 2 1),[(.t 11),(.c (.rv (.int .i64 0)))],none⟩,⟨none,(.store 1),[(.t 101),(.c (.rv (.int .i64 1)))],none⟩]) .skip) .jh)) (.seq (.seq (.dz [⟨(some 102),.mv,[(.t 0)],none⟩,⟨(some 103),.mv,[(.t 9)],none⟩,⟨(some 104),(.call 42),[(.t 102),(.t 103)],none⟩,⟨(some 105),.mv,[(.t 104)],none⟩,⟨(some 106),(.eC 47),[(.t 10)],(some (105,true))⟩,⟨(some 107),(.load 1 false),[(.t 106)],(some (105,true))⟩,⟨(some 108),(.eJ .neq),[(.t 107),(.c (.rv (.int .i64 0)))],(some (105,true))⟩,⟨(some 109),.pick,[(.t 105),(.t 108),(.c (.rv (.bool false)))],none⟩,⟨(some 110),.mv,[(.t 109)],none⟩,⟨(some 111),(.eC 38),[(.t 10)],(some (110,true))⟩,⟨(some 112),(.load 4 true),[(.t 111)],(some (110,true))⟩,⟨(some 113),(.build [(.int .i64 0),(.int .i64 0),(.int .i64 0),(.int .i64 0)] []),[],(some (110,true))⟩,⟨(some 114),(.eqs true true [.i,.i,.i,.i]),[(.t 112),(.t 113)],(some (110,true))⟩,⟨(some 115),.pick,[(.t 110),(.t 114),(.c (.rv (.bool false)))],none⟩]) (.seq (.cond (.t 115) (.dz [⟨(some 116),(.tH 2 1),[(.t 11),(.c (.rv (.int .i64 1)))],none⟩,⟨none,(.store 1),[(.t 116),(.c (.rv (.int .i64 1)))],none⟩]) .skip) .jh)) (.seq (.qf [0,0,3,7,0,31] [⟨(some 117),.mv,[(.t 6)],none⟩,⟨(some 118),.mv,[(.t 9)],none⟩,⟨(some 119),(.ixs 2),[(.t 117),(.t 118)],none⟩,⟨(some 120),(.load 2 true),[(.t 119)],none⟩,⟨(some 121),(.load 2 true),[(.t 11)],none⟩,⟨(some 122),(.eqs true true [.i,.i]),[(.t 120),(.t 121)],none⟩]) (.cond (.t 122) (.seq (.dz [⟨(some 2),.mv,[(.c (.rv (.bool false)))],none⟩]) .ret) .skip)))))))) .jh) (.dz [⟨(some 123),(.eJ .add),[(.t 84),(.c (.rv (.int .i64 1)))],none⟩,⟨(some 84),.mv,[(.t 123)],none⟩])))))) .jh)) (.seq (.dz [⟨(some 124),.mv,[(.t 4)],none⟩,⟨(some 125),(.eJ .eql),[(.t 124),(.c (.rv (.int .i64 0)))],none⟩,⟨(some 2),.mv,[(.t 125)],none⟩]) .ret))))))))
theorem ON:bC Go.Proofs.Try.prog 12 126 DC [(.t 2)]:=xy (by kernel_rfl)
def fD (X:List bA) (j:Nat) (c:Int):Nat:=X.countP fun (x:bA)=>decide (x.node=(j:Int)∧x.kind=c)
def dL (X:List bA) (L:Nat):List (List RV):=(List.range L).map fun j=>[.int .i64 (fD X j 0),.int .i64 (fD X j 1)]
theorem Eb {X:List bA} {L:Nat}:(dL X L).length=L:=by simp [dL]
theorem Ea {X:List bA} {L j:Nat} (h:j<L):(dL X L)[j]?.getD []=[.int .i64 (fD X j 0),.int .i64 (fD X j 1)]:=by simp [dL,h]
theorem KI {L:Nat}:List.replicate L [U.rv (.int .i64 0),.rv (.int .i64 0)]=ah (dL [] L):=by
 refine List.ext_getElem (by simp [dL,ah]) (fun i h1 h2=>?_)
 simp [dL,ah,fD]
theorem DR {X:List bA} {x:bA} {j:Nat} {c:Int}:fD (X++[x]) j c=fD X j c+if x.node=j∧x.kind=c then 1 else 0:=by
 unfold fD
 rw [List.countP_append,List.countP_singleton]
 simp
theorem DS {X:List bA} {j:Nat} {c:Int}:fD X j c≤X.length:=List.countP_le_length
theorem KG {X:List bA} {L n:Nat} {x:bA} (hn:n<L) (h1:x.node=n) (h2:x.kind=0):(ah (dL X L)).set n [.rv (.int .i64 ((fD X n 0+1:Nat):Int)),.rv (.int .i64 (fD X n 1))]=ah (dL (X++[x]) L):=by
 refine List.ext_getElem (by simp [dL,ah]) (fun i a b=>?_)
 simp -implicitDefEqProofs only [List.getElem_set,ah,dL,List.getElem_map,List.getElem_range,DR,h1,h2]
 by_cases e:n=i
 ·subst e;simp
 ·rw [if_neg e]
  have e1:¬ ((n:Int)=(i:Int)):=by omega
  simp [e1]
theorem KH {X:List bA} {L n:Nat} {x:bA} (hn:n<L) (h1:x.node=n) (h2:x.kind=1):(ah (dL X L)).set n [.rv (.int .i64 (fD X n 0)),.rv (.int .i64 ((fD X n 1+1:Nat):Int))]=ah (dL (X++[x]) L):=by
 refine List.ext_getElem (by simp [dL,ah]) (fun i a b=>?_)
 simp -implicitDefEqProofs only [List.getElem_set,ah,dL,List.getElem_map,List.getElem_range,DR,h1,h2]
 by_cases e:n=i
 ·subst e;simp
 ·rw [if_neg e]
  have e1:¬ ((n:Int)=(i:Int)):=by omega
  simp [e1]
theorem zW {l:List Nd}:∀ {X:List bA} {j:Nat} {c:Int},X.Pairwise (gP l)→fD X j c=if ∃ x∈X,x.node=j∧x.kind=c then 1 else 0
 | [],j,c,_=>by simp [fD]
 | x::X,j,c,h=>by
   rw [List.pairwise_cons] at h
   have ih:=zW (j:=j) (c:=c) h.2
   have e:fD (x::X) j c=fD X j c+if x.node=j∧x.kind=c then 1 else 0:=by
    unfold fD
    rw [List.countP_cons];simp
   rw [e,ih]
   by_cases hx:x.node=j∧x.kind=c
   ·have hno:¬ ∃ y∈X,y.node=j∧y.kind=c:=by
     rintro ⟨y,hy,h1,h2⟩
     have hlt:=h.1 y hy
     unfold gP dW at hlt
     rw [h1,h2,hx.1,hx.2] at hlt
     exact yl hlt hlt
    rw [if_neg hno,if_pos hx,if_pos ⟨x,.head _,hx⟩]
   ·rw [if_neg hx]
    by_cases hy:∃ y∈X,y.node=j∧y.kind=c
    ·obtain ⟨y,a,b⟩:=hy
     rw [if_pos ⟨y,a,b⟩,if_pos ⟨y,.tail _ a,b⟩]
    ·rw [if_neg hy,if_neg]
     rintro ⟨y,a,b⟩
     rcases List.mem_cons.1 a with rfl | a
     ·exact hx b
     ·exact hy ⟨y,a,b⟩
theorem vD {l:List Nd} {bx:List Bx} {cl:List Rc} (hs:cP l) (h1:bx.length=l.length) (h2:cl.length=l.length) {x:bA}:x∈fA l bx cl↔∃ n,n<l.length∧aT l n=true∧x∈bK l bx cl n:=by
 unfold fA
 cases h0:aT l 0 with
 | true=>rw [if_pos ⟨h1,h2,rfl⟩,Hz hs h0]
 | false=>
   rw [if_neg (by simp)]
   constructor
   ·intro h;simp at h
   ·rintro ⟨n,_,hm,_⟩
    have:=GY hs hm
    simp at this
    rw [h0] at this;cases this
theorem Gg {l:List Nd} {bx:List Bx} {cl:List Rc}:(fA l bx cl).Pairwise (gP l):=by
 unfold fA
 split
 ·rename_i h;exact HA h.2.2
 ·exact .nil
theorem NQ {l:List Nd} {bx:List Bx} {cl:List Rc}:(fA l bx cl).length≤2*l.length:=by
 unfold fA
 split
 ·rename_i h
  have h1:=At (l:=l) (bx:=bx) (cl:=cl) (dQ l (l.length+1) 0)
  have h2:=Ee (l:=l) (d:=l.length+1) (n:=0) (uO h.2.2)
  unfold iM;omega
 ·simp
def zp (l:List Nd) (s:au) (n:Nat):Bool:=aT l n && (s.back != 0)
def zq (l:List Nd) (s:au) (n:Nat):Bool:=aT l n && (s.line != 0) && !decide (s.aK=⟨0,0,0,0⟩)
theorem Kz {l:List Nd} {bx:List Bx} {cl:List Rc} (hs:cP l) (h1:bx.length=l.length) (h2:cl.length=l.length) {n:Nat} (hn:n<l.length):fD (fA l bx cl) n 0=if zp l (l[n]'hn).s n=true then 1 else 0:=by
 rw [zW Gg]
 refine ite_congr (propext ?_) (fun _=>rfl) (fun _=>rfl)
 constructor
 ·rintro ⟨x,hx,vu,jI⟩
  obtain ⟨m,hm,kY,pS⟩:=(vD hs h1 h2).1 hx
  have hmn:=(su pS).1
  have:m=n:=by omega
  subst this
  unfold bK iV rC sn at pS
  rw [zg hn] at pS
  unfold zp
  rcases List.mem_append.1 pS with h | h
  ·split at h
   ·simp at h
   ·rename_i hb;simp [kY,hb]
  ·split at h
   ·simp at h
   ·simp at h;subst h;simp at jI
 ·intro h
  unfold zp at h
  simp -implicitDefEqProofs only [Bool.and_eq_true,bne_iff_ne,ne_eq] at h
  refine ⟨⟨n,0,oE (bx.getD n default),cQ,cl.getD n cQ,(l[n]'hn).s.back⟩,(vD hs h1 h2).2 ⟨n,hn,h.1,?_⟩,rfl,rfl⟩
  unfold bK iV rC
  rw [zg hn,if_neg h.2];simp
theorem KA {l:List Nd} {bx:List Bx} {cl:List Rc} (hs:cP l) (h1:bx.length=l.length) (h2:cl.length=l.length) {n:Nat} (hn:n<l.length):fD (fA l bx cl) n 1=if zq l (l[n]'hn).s n=true then 1 else 0:=by
 rw [zW Gg]
 refine ite_congr (propext ?_) (fun _=>rfl) (fun _=>rfl)
 constructor
 ·rintro ⟨x,hx,vu,jI⟩
  obtain ⟨m,hm,kY,pS⟩:=(vD hs h1 h2).1 hx
  have hmn:=(su pS).1
  have:m=n:=by omega
  subst this
  unfold bK iV rC sn at pS
  rw [zg hn] at pS
  unfold zq
  rcases List.mem_append.1 pS with h | h
  ·split at h
   ·simp at h
   ·simp at h;subst h;simp at jI
  ·split at h
   ·simp at h
   ·rename_i hb
    rw [not_or] at hb
    simp [kY,hb.1,hb.2]
 ·intro h
  unfold zq at h
  simp -implicitDefEqProofs only [Bool.and_eq_true,bne_iff_ne,ne_eq,Bool.not_eq_true',decide_eq_false_iff_not] at h
  refine ⟨⟨n,1,oE (bx.getD n default),fV (bx.getD n default),cl.getD n cQ,(l[n]'hn).s.line⟩,(vD hs h1 h2).2 ⟨n,hn,h.1.1,?_⟩,rfl,rfl⟩
  unfold bK iV sn
  rw [zg hn,if_neg (c:=(l[n]'hn).s.line=0∨(l[n]'hn).s.aK=⟨0,0,0,0⟩) (fun q=>q.elim h.1.2 h.2)];simp
theorem Sm (l:List Nd):aP Go.Proofs.Try.prog 12 [.rv (.sl 49 (bk l))] [] [] (.rv (.bool true)):=by
 refine dK ON [.rv (.sl 49 (bk l))] _ (by simp) (by simp [aW,bS,dA,bD,bU,au.sv,Ln.sv,Nd.sv]) (fun K hK=>?_)
 have hlen:=ax l
 simp -implicitDefEqProofs only [DC,go_sem,Int.reduceNegSucc]
 by_cases hl:l.length>25
 ·have e1:decide ((l.length:Int)>25)=true:=decide_eq_true (by omega)
  have bY:=CF;repeat' (first | (simp -implicitDefEqProofs only [go_sem,Int.reduceNegSucc,hlen,e1]) | (with_reducible refine aC ?_) | (with_reducible first | refine aM bY ?_ | refine aN bY ?_) | ((first | refine ak (fun hg=>?_) (fun hg=>?_) | refine aI (fun hg=>?_) (fun hg=>?_) | refine aJ (fun hg=>?_) (fun hg=>?_)) <;> try simp -implicitDefEqProofs only [hg,Bool.not_true,Bool.not_false]) | ((with_reducible apply And.intro);focus (first | trivial | omega | decide | (simp -implicitDefEqProofs only [maxLen];omega) | (simp [maxLen,aj,aq,ax,aG,av,aF,aE] <;> omega))) | fail)
  exact (hK _ _ (cm rfl)).2
 ·have e1:decide ((l.length:Int)>25)=false:=decide_eq_false (by omega)
  have iQ:=SO l (by omega)
  by_cases hc:gX l=0
  ·rw [hc] at iQ
   have rJ:((0:Int) != 0)=false:=rfl
   have KM:((0:Int) == 0)=true:=rfl
   have MY:=SE l (by omega) hc
   have ht:=zR hc
   have hs:=zk ht
   have hit:=IE 2 l hs (by omega) (List.replicate l.length default) (List.replicate l.length cQ) (KX _) 0 0 1 0 (by decide) (by decide)
   simp -implicitDefEqProofs only [List.length_replicate] at hit
   have TU:=NQ (l:=l) (bx:=List.replicate l.length default) (cl:=List.replicate l.length cQ)
   have hmem:=fun x=>vD (l:=l) (bx:=List.replicate l.length default) (cl:=List.replicate l.length cQ) hs (by simp) (by simp) (x:=x)
   have hcb:=fun n hn=>Kz (l:=l) (bx:=List.replicate l.length default) (cl:=List.replicate l.length cQ) hs (by simp) (by simp) (n:=n) hn
   have dM:=fun n hn=>KA (l:=l) (bx:=List.replicate l.length default) (cl:=List.replicate l.length cQ) hs (by simp) (by simp) (n:=n) hn
   generalize fA l (List.replicate l.length default) (List.replicate l.length cQ)=X at *
   have Fa:=yd X
   have y_2:=CF;have di:=iQ;have dH:=MY;have dX:=hit;repeat' (first | (simp -implicitDefEqProofs only [go_sem,Int.reduceNegSucc,hlen,e1,rJ,Kc,Rs,KI]) | (with_reducible refine aC ?_) | (with_reducible first | refine aM y_2 ?_ | refine aN y_2 ?_) | (with_reducible first | refine aM di ?_ | refine aN di ?_) | (with_reducible first | refine aM dH ?_ | refine aN dH ?_) | (refine ck dX (by simp [aV,ag];done) (by simp [bf,aY];done) ?_) | (refine dY dX (by simp [aV,ag];done) (by simp [bf,aY];done) ?_) | ((first | refine ak (fun hg=>?_) (fun hg=>?_) | refine aI (fun hg=>?_) (fun hg=>?_) | refine aJ (fun hg=>?_) (fun hg=>?_)) <;> try simp -implicitDefEqProofs only [hg,Bool.not_true,Bool.not_false]) | ((with_reducible apply And.intro);focus (first | trivial | omega | decide | (simp -implicitDefEqProofs only [maxLen];omega) | (simp [maxLen,aj,aq,ax,aG,av,aF,aE] <;> omega))) | fail)
   refine dm (ι:=Nat) (fun b=>[(43,.rv (.int .i64 b)),(42,.rv (.int .i64 X.length)),(6,.row 3 0 l.length),(5,.row 2 X.length X.length),(4,.rv (.int .i64 0)),(0,.rv (.sl 49 (bk l)))]) (fun b=>[some (.row 21 0 (ah (cJ (List.replicate l.length default)))),some (.row 4 0 (ah (cL (List.replicate l.length cQ)))),some (.row 15 X.length (ah (cE X))),some (.row 2 0 (ah (dL (X.take b) l.length)))]) (fun b=>b≤X.length) (fun b=>X.length - b) 0 (by simp) (bB (by simp [lk])) (fun b hb K' hN hX hR=>?_)
   simp -implicitDefEqProofs only [go_sem,Int.reduceNegSucc]
   refine ak (fun hg=>?_) (fun hg=>?_)
   ·have kV:b<X.length:=by simp at hg;omega
    have wb:=dr (k:=b) (by omega)
    have FO:=NP (l:=X) kV
    obtain ⟨n,AZ,hnm,hno⟩:=(hmem _).1 (List.getElem_mem kV)
    obtain ⟨vu,jI⟩:=su hno
    have fR:X.take (b+1)=X.take b++[X[b]'kV]:=List.take_succ_eq_append_getElem kV
    have g1:decide ((n:Int)<0)=false:=decide_eq_false (by omega)
    have g2:decide ((n:Int)≥(l.length:Int))=false:=decide_eq_false (by omega)
    have eD:=Ea (X:=X.take b) AZ
    have ie:=Eb (X:=X.take b) (L:=l.length)
    have m0:((X[b]'kV).cells.map U.rv)[0]?=some (.rv (.int .i64 (n:Int))):=by rw [← vu];rfl
    have c0:=DS (X:=X.take b) (j:=n) (c:=0)
    have c1:=DS (X:=X.take b) (j:=n) (c:=1)
    rw [List.length_take] at c0 c1
    have w0:=dr (k:=fD (X.take b) n 0) (by omega)
    have w1:=dr (k:=fD (X.take b) n 1) (by omega)
    rcases jI with jI | jI
    ·have m1:((X[b]'kV).cells.map U.rv)[1]?=some (.rv (.int .i64 0)):=by rw [← jI];rfl
     have g3:decide ((0:Int)<0)=false:=rfl
     have g4:decide ((0:Int)>1)=false:=rfl
     have hst:=KG (X:=X.take b) AZ vu jI
     rw [← fR] at hst
     generalize X[b]'kV=p at *
     repeat' (first | (simp -implicitDefEqProofs only [go_sem,Int.reduceNegSucc,Fa,FO,Ge,Gf,Bv,Gd,m0,m1,g1,g2,g3,g4,hlen,eD,ie,w0,hst,wb]) | (with_reducible refine aC ?_) | ((first | refine ak (fun hg=>?_) (fun hg=>?_) | refine aI (fun hg=>?_) (fun hg=>?_) | refine aJ (fun hg=>?_) (fun hg=>?_)) <;> try simp -implicitDefEqProofs only [hg,Bool.not_true,Bool.not_false]) | ((with_reducible apply And.intro);focus (first | trivial | omega | decide | (simp -implicitDefEqProofs only [maxLen];omega) | (simp [maxLen,aj,aq,ax,aG,av,aF,aE] <;> omega))) | fail)
     refine hN (b+1) _ _ (by omega) (by omega) ?_
     exact kg (h':=[some (.row 21 0 (ah (cJ (List.replicate l.length default)))),some (.row 4 0 (ah (cL (List.replicate l.length cQ)))),some (.row 15 X.length (ah (cE X))),some (.row 2 0 (ah (dL (X.take (b+1)) l.length)))]) (Nat.zero_le _) ⟨cg,cg,cg,cg,trivial⟩ (by simp [eM,lk,gh,fq])
    ·have m1:((X[b]'kV).cells.map U.rv)[1]?=some (.rv (.int .i64 1)):=by rw [← jI];rfl
     have g3:decide ((1:Int)<0)=false:=rfl
     have g4:decide ((1:Int)>1)=false:=rfl
     have hst:=KH (X:=X.take b) AZ vu jI
     rw [← fR] at hst
     generalize X[b]'kV=p at *
     repeat' (first | (simp -implicitDefEqProofs only [go_sem,Int.reduceNegSucc,Fa,FO,Ge,Gf,Bv,Gd,m0,m1,g1,g2,g3,g4,hlen,eD,ie,w1,hst,wb]) | (with_reducible refine aC ?_) | ((first | refine ak (fun hg=>?_) (fun hg=>?_) | refine aI (fun hg=>?_) (fun hg=>?_) | refine aJ (fun hg=>?_) (fun hg=>?_)) <;> try simp -implicitDefEqProofs only [hg,Bool.not_true,Bool.not_false]) | ((with_reducible apply And.intro);focus (first | trivial | omega | decide | (simp -implicitDefEqProofs only [maxLen];omega) | (simp [maxLen,aj,aq,ax,aG,av,aF,aE] <;> omega))) | fail)
     refine hN (b+1) _ _ (by omega) (by omega) ?_
     exact kg (h':=[some (.row 21 0 (ah (cJ (List.replicate l.length default)))),some (.row 4 0 (ah (cL (List.replicate l.length cQ)))),some (.row 15 X.length (ah (cE X))),some (.row 2 0 (ah (dL (X.take (b+1)) l.length)))]) (Nat.zero_le _) ⟨cg,cg,cg,cg,trivial⟩ (by simp [eM,lk,gh,fq])
   ·have kV:b=X.length:=by simp at hg;omega
    subst kV
    rw [List.take_length]
    simp -implicitDefEqProofs only [go_sem,Int.reduceNegSucc]
    refine hX _ _ _ ?_
    clear hN hX hR
    repeat' (first | (simp -implicitDefEqProofs only [go_sem,Int.reduceNegSucc,hlen]) | (with_reducible refine aC ?_) | ((first | refine ak (fun hg=>?_) (fun hg=>?_) | refine aI (fun hg=>?_) (fun hg=>?_) | refine aJ (fun hg=>?_) (fun hg=>?_)) <;> try simp -implicitDefEqProofs only [hg,Bool.not_true,Bool.not_false]) | ((with_reducible apply And.intro);focus (first | trivial | omega | decide | (simp -implicitDefEqProofs only [maxLen];omega) | (simp [maxLen,aj,aq,ax,aG,av,aF,aE] <;> omega))) | fail)
    refine dm (ι:=Nat) (fun n=>[(84,.rv (.int .i64 n)),(83,.rv (.int .i64 l.length)),(6,.row 3 0 l.length),(4,.rv (.int .i64 0)),(0,.rv (.sl 49 (bk l)))]) (fun _=>[some (.row 21 0 (ah (cJ (List.replicate l.length default)))),some (.row 4 0 (ah (cL (List.replicate l.length cQ)))),some (.row 15 X.length (ah (cE X))),some (.row 2 0 (ah (dL X l.length)))]) (fun n=>n≤l.length) (fun n=>l.length - n) 0 (by simp) (bB (by simp [lk])) (fun n hn K' hN hX hR=>?_)
    simp -implicitDefEqProofs only [go_sem,Int.reduceNegSucc]
    refine ak (fun hg=>?_) (fun hg=>?_)
    ·have tv:n<l.length:=by simp at hg;omega
     have wn:=dr (k:=n) (by omega)
     have hx:=gR tv
     have dV:=SS l ht n
     have h1:=hcb n tv
     have h2:=dM n tv
     have eD:=Ea (X:=X) tv
     have ie:=Eb (X:=X) (L:=l.length)
     rw [h1,h2] at eD
     obtain ⟨p,hp,fe⟩:=DB (l[n]'tv).s
     generalize l[n]'tv=x at *
     generalize hs':x.s=s at *
     have iR:(x.cells.take 48)=s.cells:=by rw [← hs'];rfl
     have jf:=jS s
     have jg:=jT s
     have je:=jU s
     have TQ:∀ a b:Int,qn [.i,.i] [.rv (.int .i64 a),.rv (.int .i64 b)] [.rv (.int .i64 a),.rv (.int .i64 b)]=some (True,true):=fun a b=>by simp [qn,uA]
     unfold zp zq at eD
     have sH:((0:Int) == 0)=true:=rfl
     have sI:((1:Int) == 1)=true:=rfl
     cases hm:aT l n with
     | false=>
       rw [hm] at dV eD
       have eD:(dL X l.length)[n]?.getD []=[.int .i64 0,.int .i64 0]:=by rw [eD];simp []
       have eS:=dV;repeat' (first | (simp -implicitDefEqProofs only [go_sem,Int.reduceNegSucc,hlen,hx,aq,iR,aj,eD,ie,jf,jg,je,jB,fe,wn,sH,sI,Bool.and_true,Bool.and_self]) | (with_reducible refine aC ?_) | (with_reducible first | refine aM eS ?_ | refine aN eS ?_) | ((first | refine ak (fun hg=>?_) (fun hg=>?_) | refine aI (fun hg=>?_) (fun hg=>?_) | refine aJ (fun hg=>?_) (fun hg=>?_)) <;> try simp -implicitDefEqProofs only [hg,Bool.not_true,Bool.not_false]) | ((with_reducible apply And.intro);focus (first | trivial | omega | decide | (simp -implicitDefEqProofs only [maxLen];omega) | (simp [maxLen,aj,aq,ax,aG,av,aF,aE] <;> omega) | (exact hp;done))) | fail)
       refine hN (n+1) _ _ (by omega) (by omega) ?_
       exact kg (h':=[some (.row 21 0 (ah (cJ (List.replicate l.length default)))),some (.row 4 0 (ah (cL (List.replicate l.length cQ)))),some (.row 15 X.length (ah (cE X))),some (.row 2 0 (ah (dL X l.length)))]) (Nat.zero_le _) ⟨cg,cg,cg,cg,trivial⟩ (by simp [eM,lk,gh,fq])
     | true=>
       rw [hm] at dV eD
       by_cases h3:s.back=0
       ·have f1:(s.back != 0)=false:=by simp [h3]
        by_cases h4:s.line=0
        ·have f2:(s.line != 0)=false:=by simp [h4]
         have eD:(dL X l.length)[n]?.getD []=[.int .i64 0,.int .i64 0]:=by rw [eD];simp [h3,h4]
         have fB:=dV;repeat' (first | (simp -implicitDefEqProofs only [go_sem,Int.reduceNegSucc,hlen,hx,aq,iR,aj,eD,ie,jf,jg,je,jB,fe,wn,sH,sI,Bool.and_true,Bool.and_self,f1,f2]) | (with_reducible refine aC ?_) | (with_reducible first | refine aM fB ?_ | refine aN fB ?_) | ((first | refine ak (fun hg=>?_) (fun hg=>?_) | refine aI (fun hg=>?_) (fun hg=>?_) | refine aJ (fun hg=>?_) (fun hg=>?_)) <;> try simp -implicitDefEqProofs only [hg,Bool.not_true,Bool.not_false]) | ((with_reducible apply And.intro);focus (first | trivial | omega | decide | (simp -implicitDefEqProofs only [maxLen];omega) | (simp [maxLen,aj,aq,ax,aG,av,aF,aE] <;> omega) | (exact hp;done))) | fail)
         refine hN (n+1) _ _ (by omega) (by omega) ?_
         exact kg (h':=[some (.row 21 0 (ah (cJ (List.replicate l.length default)))),some (.row 4 0 (ah (cL (List.replicate l.length cQ)))),some (.row 15 X.length (ah (cE X))),some (.row 2 0 (ah (dL X l.length)))]) (Nat.zero_le _) ⟨cg,cg,cg,cg,trivial⟩ (by simp [eM,lk,gh,fq])
        ·have f2:(s.line != 0)=true:=by simp [h4]
         by_cases h5:s.aK=⟨0,0,0,0⟩
         ·rw [decide_eq_true h5] at fe
          have eD:(dL X l.length)[n]?.getD []=[.int .i64 0,.int .i64 0]:=by rw [eD];simp [h3,h4,h5]
          have gu:=dV;repeat' (first | (simp -implicitDefEqProofs only [go_sem,Int.reduceNegSucc,hlen,hx,aq,iR,aj,eD,ie,jf,jg,je,jB,fe,wn,sH,sI,Bool.and_true,Bool.and_self,f1,f2]) | (with_reducible refine aC ?_) | (with_reducible first | refine aM gu ?_ | refine aN gu ?_) | ((first | refine ak (fun hg=>?_) (fun hg=>?_) | refine aI (fun hg=>?_) (fun hg=>?_) | refine aJ (fun hg=>?_) (fun hg=>?_)) <;> try simp -implicitDefEqProofs only [hg,Bool.not_true,Bool.not_false]) | ((with_reducible apply And.intro);focus (first | trivial | omega | decide | (simp -implicitDefEqProofs only [maxLen];omega) | (simp [maxLen,aj,aq,ax,aG,av,aF,aE] <;> omega) | (exact hp;done))) | fail)
          refine hN (n+1) _ _ (by omega) (by omega) ?_
          exact kg (h':=[some (.row 21 0 (ah (cJ (List.replicate l.length default)))),some (.row 4 0 (ah (cL (List.replicate l.length cQ)))),some (.row 15 X.length (ah (cE X))),some (.row 2 0 (ah (dL X l.length)))]) (Nat.zero_le _) ⟨cg,cg,cg,cg,trivial⟩ (by simp [eM,lk,gh,fq])
         ·rw [decide_eq_false h5] at fe
          have eD:(dL X l.length)[n]?.getD []=[.int .i64 0,.int .i64 1]:=by rw [eD];simp [h3,h4,h5]
          have iB:=dV;repeat' (first | (simp -implicitDefEqProofs only [go_sem,Int.reduceNegSucc,hlen,hx,aq,iR,aj,eD,ie,jf,jg,je,jB,fe,wn,sH,sI,Bool.and_true,Bool.and_self,f1,f2]) | (with_reducible refine aC ?_) | (with_reducible first | refine aM iB ?_ | refine aN iB ?_) | ((first | refine ak (fun hg=>?_) (fun hg=>?_) | refine aI (fun hg=>?_) (fun hg=>?_) | refine aJ (fun hg=>?_) (fun hg=>?_)) <;> try simp -implicitDefEqProofs only [hg,Bool.not_true,Bool.not_false]) | ((with_reducible apply And.intro);focus (first | trivial | omega | decide | (simp -implicitDefEqProofs only [maxLen];omega) | (simp [maxLen,aj,aq,ax,aG,av,aF,aE] <;> omega) | (exact hp;done))) | fail)
          refine hN (n+1) _ _ (by omega) (by omega) ?_
          exact kg (h':=[some (.row 21 0 (ah (cJ (List.replicate l.length default)))),some (.row 4 0 (ah (cL (List.replicate l.length cQ)))),some (.row 15 X.length (ah (cE X))),some (.row 2 0 (ah (dL X l.length)))]) (Nat.zero_le _) ⟨cg,cg,cg,cg,trivial⟩ (by simp [eM,lk,gh,fq])
       ·have f1:(s.back != 0)=true:=by simp [h3]
        by_cases h4:s.line=0
        ·have f2:(s.line != 0)=false:=by simp [h4]
         have eD:(dL X l.length)[n]?.getD []=[.int .i64 1,.int .i64 0]:=by rw [eD];simp [h3,h4]
         have jy:=dV;repeat' (first | (simp -implicitDefEqProofs only [go_sem,Int.reduceNegSucc,hlen,hx,aq,iR,aj,eD,ie,jf,jg,je,jB,fe,wn,sH,sI,Bool.and_true,Bool.and_self,f1,f2]) | (with_reducible refine aC ?_) | (with_reducible first | refine aM jy ?_ | refine aN jy ?_) | ((first | refine ak (fun hg=>?_) (fun hg=>?_) | refine aI (fun hg=>?_) (fun hg=>?_) | refine aJ (fun hg=>?_) (fun hg=>?_)) <;> try simp -implicitDefEqProofs only [hg,Bool.not_true,Bool.not_false]) | ((with_reducible apply And.intro);focus (first | trivial | omega | decide | (simp -implicitDefEqProofs only [maxLen];omega) | (simp [maxLen,aj,aq,ax,aG,av,aF,aE] <;> omega) | (exact hp;done))) | fail)
         refine hN (n+1) _ _ (by omega) (by omega) ?_
         exact kg (h':=[some (.row 21 0 (ah (cJ (List.replicate l.length default)))),some (.row 4 0 (ah (cL (List.replicate l.length cQ)))),some (.row 15 X.length (ah (cE X))),some (.row 2 0 (ah (dL X l.length)))]) (Nat.zero_le _) ⟨cg,cg,cg,cg,trivial⟩ (by simp [eM,lk,gh,fq])
        ·have f2:(s.line != 0)=true:=by simp [h4]
         by_cases h5:s.aK=⟨0,0,0,0⟩
         ·rw [decide_eq_true h5] at fe
          have eD:(dL X l.length)[n]?.getD []=[.int .i64 1,.int .i64 0]:=by rw [eD];simp [h3,h4,h5]
          have ot:=dV;repeat' (first | (simp -implicitDefEqProofs only [go_sem,Int.reduceNegSucc,hlen,hx,aq,iR,aj,eD,ie,jf,jg,je,jB,fe,wn,sH,sI,Bool.and_true,Bool.and_self,f1,f2]) | (with_reducible refine aC ?_) | (with_reducible first | refine aM ot ?_ | refine aN ot ?_) | ((first | refine ak (fun hg=>?_) (fun hg=>?_) | refine aI (fun hg=>?_) (fun hg=>?_) | refine aJ (fun hg=>?_) (fun hg=>?_)) <;> try simp -implicitDefEqProofs only [hg,Bool.not_true,Bool.not_false]) | ((with_reducible apply And.intro);focus (first | trivial | omega | decide | (simp -implicitDefEqProofs only [maxLen];omega) | (simp [maxLen,aj,aq,ax,aG,av,aF,aE] <;> omega) | (exact hp;done))) | fail)
          refine hN (n+1) _ _ (by omega) (by omega) ?_
          exact kg (h':=[some (.row 21 0 (ah (cJ (List.replicate l.length default)))),some (.row 4 0 (ah (cL (List.replicate l.length cQ)))),some (.row 15 X.length (ah (cE X))),some (.row 2 0 (ah (dL X l.length)))]) (Nat.zero_le _) ⟨cg,cg,cg,cg,trivial⟩ (by simp [eM,lk,gh,fq])
         ·rw [decide_eq_false h5] at fe
          have eD:(dL X l.length)[n]?.getD []=[.int .i64 1,.int .i64 1]:=by rw [eD];simp [h3,h4,h5]
          have ou:=dV;repeat' (first | (simp -implicitDefEqProofs only [go_sem,Int.reduceNegSucc,hlen,hx,aq,iR,aj,eD,ie,jf,jg,je,jB,fe,wn,sH,sI,Bool.and_true,Bool.and_self,f1,f2]) | (with_reducible refine aC ?_) | (with_reducible first | refine aM ou ?_ | refine aN ou ?_) | ((first | refine ak (fun hg=>?_) (fun hg=>?_) | refine aI (fun hg=>?_) (fun hg=>?_) | refine aJ (fun hg=>?_) (fun hg=>?_)) <;> try simp -implicitDefEqProofs only [hg,Bool.not_true,Bool.not_false]) | ((with_reducible apply And.intro);focus (first | trivial | omega | decide | (simp -implicitDefEqProofs only [maxLen];omega) | (simp [maxLen,aj,aq,ax,aG,av,aF,aE] <;> omega) | (exact hp;done))) | fail)
          refine hN (n+1) _ _ (by omega) (by omega) ?_
          exact kg (h':=[some (.row 21 0 (ah (cJ (List.replicate l.length default)))),some (.row 4 0 (ah (cL (List.replicate l.length cQ)))),some (.row 15 X.length (ah (cE X))),some (.row 2 0 (ah (dL X l.length)))]) (Nat.zero_le _) ⟨cg,cg,cg,cg,trivial⟩ (by simp [eM,lk,gh,fq])
    ·simp -implicitDefEqProofs only [go_sem,Int.reduceNegSucc]
     refine hX _ _ _ ?_
     repeat' (first | (simp -implicitDefEqProofs only [go_sem,Int.reduceNegSucc,KM]) | (with_reducible refine aC ?_) | ((first | refine ak (fun hg=>?_) (fun hg=>?_) | refine aI (fun hg=>?_) (fun hg=>?_) | refine aJ (fun hg=>?_) (fun hg=>?_)) <;> try simp -implicitDefEqProofs only [hg,Bool.not_true,Bool.not_false]) | ((with_reducible apply And.intro);focus (first | trivial | omega | decide | (simp -implicitDefEqProofs only [maxLen];omega) | (simp [maxLen,aj,aq,ax,aG,av,aF,aE] <;> omega))) | fail)
     exact (hK _ _ (cm rfl)).2
  ·have rJ:(gX l != 0)=true:=by simpa using hc
   have ov:=CF;have ow:=iQ;repeat' (first | (simp -implicitDefEqProofs only [go_sem,Int.reduceNegSucc,hlen,e1,rJ]) | (with_reducible refine aC ?_) | (with_reducible first | refine aM ov ?_ | refine aN ov ?_) | (with_reducible first | refine aM ow ?_ | refine aN ow ?_) | ((first | refine ak (fun hg=>?_) (fun hg=>?_) | refine aI (fun hg=>?_) (fun hg=>?_) | refine aJ (fun hg=>?_) (fun hg=>?_)) <;> try simp -implicitDefEqProofs only [hg,Bool.not_true,Bool.not_false]) | ((with_reducible apply And.intro);focus (first | trivial | omega | decide | (simp -implicitDefEqProofs only [maxLen];omega) | (simp [maxLen,aj,aq,ax,aG,av,aF,aE] <;> omega))) | fail)
   exact (hK _ _ (cm rfl)).2
end Go.ay
