/- Part 4 of the proof: F9, F10, F11, F12, K9R, K13, F13, F17, F18, F19, F20. -/
import Derived.Test.YtnaoehbodmiekaaFlowApart3
set_option linter.unusedSimpArgs false
set_option linter.unusedVariables false
set_option maxRecDepth 100000
set_option maxHeartbeats 16000000
namespace Go.aI
open Go
def dN (l:List Nd) (n:Int) (w:Int) (h:Sz):Ed:=vN (cr l n) w h (decide (n=0) || (cr l n).clip)
def okB (l:List Nd) (n:Int) (w:Int) (h:Sz):Bool:=vM (cr l n) w h && dS (nO (dN l n w h)) && er (cr l n).width w true && er (cr l n).fq w true && er (cr l n).fo w true
def nN (l:List Nd) (n:Int) (w:Int) (h:Sz) (bK:Bool):Ai:=⟨w,(dN l n w h).bB.d,dL (cr l n).width w true,(dN l n w h).bB.b,dU (nO (dN l n w h)),bK,bl (dL (cr l n).fq w true) 0,bl (dL (cr l n).fo w true) 1125899906842624⟩
def oJ (l:List Nd) (ins:Ed→Ao→Option La×Bool) (n:Int) (w:Int) (h:Sz) (bK:Bool):Option (Fm×La):=
 if okB l n w h=true then (oG (nN l n w h bK)).bind fun x=>nX (dN l n w h) x (cB l n).length (ins (dN l n w h) x) else none
theorem Eg {x:Ln} {b d:Int} {has:Bool} (h:er x b has=true) (hd:bU d=true):bU (bl (dL x b has) d)=true:=by
 unfold dL
 split
 ·simpa [bl] using hd
 ·split
  ·rename_i h1;simpa [bl] using h1.2
  ·split
   ·rename_i h1 h2 h3
    simp [h3] at h1
    simp [er,h3,h1] at h
    simp -implicitDefEqProofs only [bl,Bool.false_eq_true,if_false,uH,h,if_true]
    unfold pL at h;simp at h;exact h.2
   ·rfl
theorem PS (l:List Nd) (hb:l.length≤8589934592) (n:Int) (w:Int) (h:Sz) (bK:Bool) (ins:Ed→Ao→Option La×Bool) (hr:∀ e x,(ins e x).2=true→(ins e x).1.isSome=true)
 (hI:∀ x:Ao,aK Go.Proofs.Try.prog 28 [.rv (cc l),.rv (.int .i64 n),.rv (.int .i64 x.w),(oX (dN l n w h)).sv,(dN l n w h).sv,.rv (.int .i64 (-1))] [] [] (.aM [.agg ((cM (ins (dN l n w h) x).1).map .rv),.rv (.bool (ins (dN l n w h) x).2)])) :
 aK Go.Proofs.Try.prog 26 [.rv (cc l),.rv (.int .i64 n),.rv (.int .i64 w),h.sv,.rv (.bool bK)] [] [] (lg (oJ l ins n w h bK)):=by
 refine bG LQ [.rv (cc l),.rv (.int .i64 n),.rv (.int .i64 w),h.sv,.rv (.bool bK)] _ (by simp) (by simp [aP,bh,bu,bg,bn,aq.sv,Ln.sv,Nd.sv]) (fun K hK=>?_)
 have hst:=Fg l n
 have h0:((n == 0):Bool)=decide (n=0):=by rw [Bool.eq_iff_iff];simp
 have he:=PU (cr l n) w h (decide (n=0) || (cr l n).clip)
 have ha:=PO (dN l n w h)
 have h1:=pW (cr l n).width w true
 have h2:=Fs (cr l n).fq w true
 have h3:=Ft (cr l n).fo w true
 have oV:=fun x=>PV l hb n (dN l n w h) x (ins (dN l n w h) x) (hr _ _) (hI x)
 have hac:=fun a b=>PM (nN l n w h bK) a b
 have f1:=fun hq=>Eg (x:=(cr l n).fq) (b:=w) (has:=true) hq (d:=0) rfl
 have f2:=fun hq=>Eg (x:=(cr l n).fo) (b:=w) (has:=true) hq (d:=1125899906842624) rfl
 clear hI
 rw [show vN (cr l n) w h (decide (n=0) || (cr l n).clip)=dN l n w h from rfl] at he
 unfold nN at hac
 unfold oJ nN okB at hK
 generalize hee:dN l n w h=e at *
 generalize dL (cr l n).width w true=W at *
 generalize bl (dL (cr l n).fq w true) 0=L at *
 generalize bl (dL (cr l n).fo w true) 1125899906842624=X at *
 generalize cr l n=s at *
 have q1:(s.cells.map U.rv).length=48:=rfl
 generalize hA:dU (nO e)=A at *
 generalize Rr:dS (nO e)=FZ at *
 generalize vM s w h=b1 at *
 generalize er s.width w true=b2 at *
 generalize er s.fq w true=b3 at *
 generalize er s.fo w true=b4 at *
 simp -implicitDefEqProofs only [Ed.sv,Ed.cells,Q4.fJ,Q4.ints,Sz.sv,Sz.cells,Ai.sv,Ai.cells,List.map_cons,List.map_nil,List.cons_append,List.nil_append] at he ha h1 h2 h3 oV hac
 conv in fc _ _ _ _=>reduce
 simp -implicitDefEqProofs only [Sz.sv,Sz.cells,go_sem,Int.reduceNegSucc]
 cases hall:(b1 && FZ && b2 && b3 && b4) with
 | true=>
   simp -implicitDefEqProofs only [Bool.and_eq_true] at hall
   obtain ⟨⟨⟨⟨rfl,rfl⟩,rfl⟩,rfl⟩,rfl⟩:=hall
   have hx:=hac (f1 rfl) (f2 rfl)
   simp -implicitDefEqProofs only [Bool.and_self,if_true] at hK
   generalize oG ⟨w,e.bB.d,W,e.bB.b,A,bK,L,X⟩=o at *
   cases o with
   | none=>
     simp -implicitDefEqProofs only [pJ,Option.isSome,Ao.cells,List.map_cons,List.map_nil,Option.bind] at hx hK
     cases hn0:decide (n=0) <;> rw [hn0] at he h0 <;> simp -implicitDefEqProofs only [Bool.true_or,Bool.false_or] at he
     all_goals ((have br:=hst;have y_2:=he;have bS:=ha;have bY:=h1;have cu:=h2;have cm:=h3;have cG:=hx;repeat' (first | (simp -implicitDefEqProofs only [go_sem,Int.reduceNegSucc,q1,gH,iY,gI,iZ,gT,jm,ic,jy,iB,jJ,iJ,jS,iK,jT,iL,jU,iM,jV,iN,jW,gJ,ja,gK,jb,gL,jc,gM,jd,gN,je,gO,jf,gP,jg,gQ,jh,gR,ji,gS,jk,gU,jn,gV,jo,gW,jq,gX,jr,gY,js,gZ,jt,hD,ju,hJ,jv,hU,jw,ia,jx,ie,jz,ig,jA,ij,jB,iq,jC,ir,jD,iu,jE,iw,jF,iy,jG,iz,jH,iA,jI,iC,jK,iD,jL,gl,jM,iE,jN,iF,jO,iG,jP,iH,jQ,iI,jR,iT,iO,iP,iQ,iR,iS,iU,iV,iW,iX,gG,gk,an,h0]) | (with_reducible refine aA ?_) | (with_reducible first | refine aF br ?_ | refine aG br ?_) | (with_reducible first | refine aF y_2 ?_ | refine aG y_2 ?_) | (with_reducible first | refine aF bS ?_ | refine aG bS ?_) | (with_reducible first | refine aF bY ?_ | refine aG bY ?_) | (with_reducible first | refine aF cu ?_ | refine aG cu ?_) | (with_reducible first | refine aF cm ?_ | refine aG cm ?_) | (with_reducible first | refine aF cG ?_ | refine aG cG ?_) | ((first | refine ai (fun hg=>?_) (fun hg=>?_) | refine aB (fun hg=>?_) (fun hg=>?_) | refine aC (fun hg=>?_) (fun hg=>?_)) <;> try simp -implicitDefEqProofs only [hg,Bool.not_true,Bool.not_false]) | ((with_reducible apply And.intro);focus (first | trivial | omega | decide | (simp -implicitDefEqProofs only [maxLen];omega) | (simp [maxLen,an,ak,au,az,aj,ay,ax] <;> omega))) | fail)))
     all_goals (refine (hK _ _ ?_).2;clear hK;simp -implicitDefEqProofs only [go_sem,Int.reduceNegSucc,bw,bD,bN,bQ,aY,aS,aR,fj,cM,Option.map,Option.isSome] <;>(try simp_all [-Int.not_lt,-Int.not_le,aY,aS,aR,cj,fj,cM,Option.map,Option.isSome]) <;> try omega)
   | some x=>
     have hfl:=oV x
     simp -implicitDefEqProofs only [pJ,Option.isSome,Ao.cells,List.map_cons,List.map_nil,Option.bind] at hx hK hfl
     generalize nX e x (cB l n).length (ins e x)=r at *
     obtain ⟨u,hu,lF⟩:∃ u,fj (r.map (·.1))=u∧u.length=25:=⟨_,rfl,by cases r <;> rfl⟩
     obtain ⟨v,hv,hvl⟩:∃ v,cM (r.map (·.2))=v∧v.length=9:=⟨_,rfl,by cases r <;> rfl⟩
     simp -implicitDefEqProofs only [lg] at hfl hK
     rw [hu,hv] at hfl hK
     have u1:(u.map U.rv).drop 25=[]:=List.drop_of_length_le (by simp [lF])
     have u2:(u.map U.rv).take 25=u.map U.rv:=List.take_of_length_le (by simp [lF])
     have v1:(v.map U.rv).drop 9=[]:=List.drop_of_length_le (by simp [hvl])
     have v2:(v.map U.rv).take 9=v.map U.rv:=List.take_of_length_le (by simp [hvl])
     cases hn0:decide (n=0) <;> rw [hn0] at he h0 <;> simp -implicitDefEqProofs only [Bool.true_or,Bool.false_or] at he
     all_goals ((have cH:=hst;have cY:=he;have dm:=ha;have eZ:=h1;have kH:=h2;have kI:=h3;have kJ:=hx;have mO:=hfl;repeat' (first | (simp -implicitDefEqProofs only [go_sem,Int.reduceNegSucc,q1,gH,iY,gI,iZ,gT,jm,ic,jy,iB,jJ,iJ,jS,iK,jT,iL,jU,iM,jV,iN,jW,gJ,ja,gK,jb,gL,jc,gM,jd,gN,je,gO,jf,gP,jg,gQ,jh,gR,ji,gS,jk,gU,jn,gV,jo,gW,jq,gX,jr,gY,js,gZ,jt,hD,ju,hJ,jv,hU,jw,ia,jx,ie,jz,ig,jA,ij,jB,iq,jC,ir,jD,iu,jE,iw,jF,iy,jG,iz,jH,iA,jI,iC,jK,iD,jL,gl,jM,iE,jN,iF,jO,iG,jP,iH,jQ,iI,jR,iT,iO,iP,iQ,iR,iS,iU,iV,iW,iX,gG,gk,an,h0,lF,hvl,u1,u2,v1,v2,List.length_map,List.append_nil]) | (with_reducible refine aA ?_) | (with_reducible first | refine aF cH ?_ | refine aG cH ?_) | (with_reducible first | refine aF cY ?_ | refine aG cY ?_) | (with_reducible first | refine aF dm ?_ | refine aG dm ?_) | (with_reducible first | refine aF eZ ?_ | refine aG eZ ?_) | (with_reducible first | refine aF kH ?_ | refine aG kH ?_) | (with_reducible first | refine aF kI ?_ | refine aG kI ?_) | (with_reducible first | refine aF kJ ?_ | refine aG kJ ?_) | (with_reducible first | refine aF mO ?_ | refine aG mO ?_) | ((first | refine ai (fun hg=>?_) (fun hg=>?_) | refine aB (fun hg=>?_) (fun hg=>?_) | refine aC (fun hg=>?_) (fun hg=>?_)) <;> try simp -implicitDefEqProofs only [hg,Bool.not_true,Bool.not_false]) | ((with_reducible apply And.intro);focus (first | trivial | omega | decide | (simp -implicitDefEqProofs only [maxLen];omega) | (simp [maxLen,an,ak,au,az,aj,ay,ax] <;> omega))) | fail)))
     all_goals (refine (hK _ _ ?_).2;simp -implicitDefEqProofs only [go_sem,Int.reduceNegSucc,bw,bD,bN,bQ,aY,aS,aR,cR,lF,hvl,u2,v2,List.length_map,List.drop_zero])
 | false=>
   simp -implicitDefEqProofs only [hall,Bool.false_eq_true,if_false] at hK
   cases hn0:decide (n=0) <;> rw [hn0] at he h0 <;> simp -implicitDefEqProofs only [Bool.true_or,Bool.false_or] at he
   all_goals ((have mP:=hst;have mQ:=he;have mR:=ha;have qb:=h1;have qc:=h2;have qd:=h3;repeat' (first | (simp -implicitDefEqProofs only [go_sem,Int.reduceNegSucc,q1,gH,iY,gI,iZ,gT,jm,ic,jy,iB,jJ,iJ,jS,iK,jT,iL,jU,iM,jV,iN,jW,gJ,ja,gK,jb,gL,jc,gM,jd,gN,je,gO,jf,gP,jg,gQ,jh,gR,ji,gS,jk,gU,jn,gV,jo,gW,jq,gX,jr,gY,js,gZ,jt,hD,ju,hJ,jv,hU,jw,ia,jx,ie,jz,ig,jA,ij,jB,iq,jC,ir,jD,iu,jE,iw,jF,iy,jG,iz,jH,iA,jI,iC,jK,iD,jL,gl,jM,iE,jN,iF,jO,iG,jP,iH,jQ,iI,jR,iT,iO,iP,iQ,iR,iS,iU,iV,iW,iX,gG,gk,an,h0]) | (with_reducible refine aA ?_) | (with_reducible first | refine aF mP ?_ | refine aG mP ?_) | (with_reducible first | refine aF mQ ?_ | refine aG mQ ?_) | (with_reducible first | refine aF mR ?_ | refine aG mR ?_) | (with_reducible first | refine aF qb ?_ | refine aG qb ?_) | (with_reducible first | refine aF qc ?_ | refine aG qc ?_) | (with_reducible first | refine aF qd ?_ | refine aG qd ?_) | ((first | refine ai (fun hg=>?_) (fun hg=>?_) | refine aB (fun hg=>?_) (fun hg=>?_) | refine aC (fun hg=>?_) (fun hg=>?_)) <;> try simp -implicitDefEqProofs only [hg,Bool.not_true,Bool.not_false]) | ((with_reducible apply And.intro);focus (first | trivial | omega | decide | (simp -implicitDefEqProofs only [maxLen];omega) | (simp [maxLen,an,ak,au,az,aj,ay,ax] <;> omega))) | fail)))
   all_goals first | (exfalso;simp_all;done) | skip
   all_goals (refine (hK _ _ ?_).2;clear hK;simp -implicitDefEqProofs only [go_sem,Int.reduceNegSucc,bw,bD,bN,bQ,aY,aS,aR,fj,cM,Option.map,Option.isSome] <;>(try simp_all [-Int.not_lt,-Int.not_le,aY,aS,aR,cj,fj,cM,Option.map,Option.isSome]) <;> try omega)
end Go.aI

namespace Go.aI
open Go
theorem LW:aV Go.Proofs.Try.prog 28 160 (fc Go.Proofs.Try.prog 28 160 [(.c 12 9 true),(.t 13)]) [(.c 12 9 true),(.t 13)]:=bq (by kernel_rfl)
def gq (r:Nat×Fm×La):List (Nat×Fm):=(r.1,r.2.1)::r.2.2.L
def bT (rs:List (Nat×Fm×La)):List (Nat×Fm):=rs.flatMap gq
def gB (rs:List (Nat×Fm×La)):List Int:=(List.range rs.length).map fun i=>((bT (rs.take i)).length:Int)
def eA (rs:List (Nat×Fm×La)):List Ch:=rs.map fun r=>r.2.1.child
def dz:List (Nat×Fm×La)→List Int→List (Nat×Fm)
 | [],_=>[]
 | r::rs,[]=>gq r++dz rs []
 | r::rs,y::ys=>(r.1,{ r.2.1 with y:=y })::(r.2.2.L++dz rs ys)
def gj (bx:Nat→Option (Fm×La)):List Nat→Option (List (Nat×Fm×La))
 | []=>some []
 | m::ms=>match bx m with
   | some q=>(gj bx ms).map ((m,q) :: ·)
   | none=>none
def ou (rs:List (Nat×Fm×La)) (q:Pl×List Int) (ob:Bool):La:=
 ⟨dz rs q.2,q.1,q.2,if q.1.nP=true then 0 else (let a:=if ob=true then q.1.mb else IntKind.i64.wrap (q.1.mb+oC q.1.cur);if 0>a then 0 else a)⟩
def gx (bx:Nat→Option (Fm×La)) (kids:List Nat) (ok ot ob:Bool):Option La×Bool:=
 if ok=true then match gj bx kids with
  | some rs=>match lS (eA rs) ot with
    | some q=>if sJ q.1.cur=true then (some (ou rs q ob),bU (ou rs q ob).high) else (none,false)
    | none=>(none,false)
  | none=>(none,false)
 else (none,false)
theorem KE {bx:Nat→Option (Fm×La)} {kids:List Nat} {ok ot ob:Bool} (h:(gx bx kids ok ot ob).2=true):(gx bx kids ok ot ob).1.isSome=true:=by
 revert h
 unfold gx
 repeat' split
 all_goals simp
theorem Ga {rs:List (Nat×Fm×La)} {r:Nat×Fm×La}:bT (rs++[r])=bT rs++gq r:=by simp [bT]
theorem pM (a:List (Nat×Fm)):(di a).length=a.length:=by simp [di]
theorem Ab {rs:List (Nat×Fm×La)}:(gB rs).length=rs.length:=by simp [gB]
theorem NV {rs:List (Nat×Fm×La)} {r:Nat×Fm×La}:gB (rs++[r])=gB rs++[((bT rs).length:Int)]:=by
 simp -implicitDefEqProofs only [gB,List.length_append,List.length_cons,List.length_nil,Nat.zero_add,List.range_succ,List.map_append,List.map_cons,List.map_nil]
 congr 1
 ·refine List.map_congr_left (fun i hi=>?_)
  rw [List.take_append_of_le_length (by simp at hi;omega)]
 ·simp
theorem NU {rs:List (Nat×Fm×La)} {i:Nat} (h:i<rs.length):(aJ (gB rs))[i]?.getD []=[.int .i64 ((bT (rs.take i)).length:Int)]:=by simp [aJ,gB,h]
theorem xy:∀ (rs:List (Nat×Fm×La)),dz rs []=bT rs
 | []=>rfl
 | r::rs=>by rw [dz,xy rs];simp [bT]
theorem uJ:∀ (rs:List (Nat×Fm×La)) (ys:List Int),(dz rs ys).length=(bT rs).length
 | [],_=>rfl
 | r::rs,[]=>by rw [xy]
 | r::rs,y::ys=>by rw [dz];simp [bT,gq,uJ rs ys]
theorem xx:∀ (rs:List (Nat×Fm×La)) (ys:List Int) (i:Nat) (h:i<rs.length) (h2:i<ys.length),(dz rs (ys.take i))[(bT (rs.take i)).length]?=some ((rs[i]'h).1,(rs[i]'h).2.1)∧
 (dz rs (ys.take i)).set (bT (rs.take i)).length ((rs[i]'h).1,{ (rs[i]'h).2.1 with y:=ys[i]'h2 })=dz rs (ys.take (i+1))
 | [],_,i,h,_=>by simp at h
 | r::rs,[],i,_,h=>by simp at h
 | r::rs,y::ys,0,_,_=>by
   refine ⟨by simp [dz,bT,gq],?_⟩
   simp -implicitDefEqProofs only [List.take_zero,dz,bT,List.flatMap_nil,List.length_nil,gq,List.cons_append,List.set_cons_zero,List.getElem_cons_zero,Nat.zero_add,List.take_succ_cons]
 | r::rs,y::ys,i+1,h,h2=>by
   have ih:=xx rs ys i (by simpa using h) (by simpa using h2)
   have e:(bT ((r::rs).take (i+1))).length=(r.2.2.L.length+(bT (rs.take i)).length)+1:=by simp [bT,gq]
   rw [e]
   simp -implicitDefEqProofs only [List.take_succ_cons,dz,List.getElem?_cons_succ,List.set_cons_succ,List.getElem_cons_succ]
   refine ⟨?_,?_⟩
   ·rw [List.getElem?_append_right (by omega),Nat.add_sub_cancel_left];exact ih.1
   ·rw [List.set_append_right _ _ (by omega),Nat.add_sub_cancel_left,ih.2]
theorem Ov {rs:List (Nat×Fm×La)} {ys:List Int} {i:Nat} (h:i<rs.length) (h2:i<ys.length):(aH (di (dz rs (ys.take i))))[(bT (rs.take i)).length]?.getD []=(kT ((rs[i]'h).1,(rs[i]'h).2.1)).map U.rv:=by
 have:=(xx rs ys i h h2).1
 simp [aH,di,this]
theorem Ow {rs:List (Nat×Fm×La)} {ys:List Int} {i:Nat} (h:i<rs.length) (h2:i<ys.length):(aH (di (dz rs (ys.take i)))).set (bT (rs.take i)).length ((kT ((rs[i]'h).1,{ (rs[i]'h).2.1 with y:=ys[i]'h2 })).map U.rv)=aH (di (dz rs (ys.take (i+1)))):=by
 rw [← (xx rs ys i h h2).2]
 simp [aH,di,List.map_set]
theorem Qw (q:Nat×Fm) (y:Int):splice ((kT q).map U.rv) 2 [.rv (.int .i64 y)]=(kT (q.1,{ q.2 with y:=y })).map U.rv:=rfl
theorem Oq (q:Nat×Fm):(kT q).length=26:=rfl
theorem Ie (f:Fm):f.cells.length=25:=rfl
theorem Ou (L:List (Nat×Fm)):∀ x∈di L,∀ r∈x,r.one=true:=by
 intro x hx r hr
 obtain ⟨q,_,rfl⟩:=List.mem_map.1 hx
 simp -implicitDefEqProofs only [kT,Fm.cells,Q4.ints,Ch.cells,List.cons_append,List.nil_append,List.mem_cons,List.not_mem_nil,or_false] at hr
 rcases hr with h | h | h | h | h | h | h | h | h | h | h | h | h | h | h | h | h | h | h | h | h | h | h | h | h | h <;> rw [h] <;> rfl
theorem Hj {rs:List (Nat×Fm×La)} {r:Nat×Fm×La}:eA (rs++[r])=eA rs++[r.2.1.child]:=by simp [eA]
theorem FE:∀ {l:List Ch} {p:Pl} {ys:List Int} {q:Pl×List Int},qZ l p ys=some q→q.2.length=ys.length+l.length
 | [],p,ys,q,h=>by cases h;rfl
 | c::l,p,ys,q,h=>by
   rw [qZ] at h
   split at h
   ·have:=FE h;simp at this ⊢;omega
   ·cases h
end Go.aI

namespace Go.aI
open Go
theorem HO (l:List Nd) (n:Int):(cB l n).length≤l.length:=by
 have h1:=List.length_filter_le (fun (m:Nat)=>fV l m) (eK l n)
 have h2:=Dy l n
 unfold cB;omega
theorem yD (e:Ed):(e.cells.map U.rv)[26]?=some (.rv (.bool e.qT)):=rfl
theorem Hz (e:Ed):(e.cells.map U.rv)[27]?=some (.rv (.bool e.pI)):=rfl
theorem rE (e:Ed):e.cells.length=28:=rfl
theorem Ig (f:Fm):(f.cells.map U.rv).take 25=f.cells.map U.rv:=rfl
theorem Ih (f:Fm):f.cells.take 25=f.cells:=rfl
theorem Ic (f:Fm):(f.cells.map U.rv).drop 25=[]:=rfl
theorem Ib (f:Fm):((f.cells.map U.rv).drop 17).take 8=f.child.cells.map U.rv:=rfl
theorem Hl (c:Ch):c.cells.length=8:=rfl
theorem Gs {X:List (Nat×Fm)} {m:Nat} {f:Fm}:aH (di X)++[U.rv (.int .i64 m)::f.cells.map U.rv]=aH (di (X++[(m,f)])):=by simp [aH,di,kT]
theorem Gt {X Y:List (Nat×Fm)}:aH (di X)++aH (di Y)=aH (di (X++Y)):=by simp [aH,di]
theorem Gp {X:List Ch} {c:Ch}:aH (fD X)++[c.cells.map U.rv]=aH (fD (X++[c])):=by simp [aH,fD]
theorem QF {X:List (Nat×Fm)}:(di X).take X.length=di X:=List.take_of_length_le (by rw [pM];omega)
theorem QG {X:List (Nat×Fm)} {y:Nat×Fm}:(di (X++[y])).take (X.length+1)=di (X++[y]):=List.take_of_length_le (by rw [pM];simp)
def Rf:List U:=[.rv .bO,.rv .bO,.rv (.int .i64 0),.rv (.int .i64 0),.rv (.int .i64 0),.rv (.int .i64 0),.rv (.int .i64 0),.rv (.bool false),.rv (.int .i64 0)]
def pq (h:Sz) (e:Ed) (k n:Nat) (o:List Int) (c:List Ch) (L:List (Nat×Fm)):List (Option HB):=
 [some (.var (h.cells.map .rv)),some (.var (e.cells.map .rv)),some (.var Rf),some (.var [.row 6 (2*k) n,.rv .bO,.rv (.int .i64 0),.rv (.int .i64 0),.rv (.int .i64 0),.rv (.int .i64 0),.rv (.int .i64 0),.rv (.bool false),.rv (.int .i64 0)]),
  some (.row 1 k (aH (aJ o))),some (.row 8 k (aH (fD c))),some (.row 26 (2*k) (aH (di L)))]
def wL (h:Sz) (e:Ed) (rs:List (Nat×Fm×La)):List (Option HB):=pq h e rs.length (bT rs).length (gB rs) (eA rs) (bT rs)
theorem KC (h:Sz) (e:Ed) (k n:Nat) (o:List Int) (c:List Ch) (L:List (Nat×Fm)):kZ (nL 7) (pq h e k n o c L):=
 ⟨nR,nR,nR (rs:=cM none),⟨lu.2 (by decide),nR (rs:=[.bO,.int .i64 0,.int .i64 0,.int .i64 0,.int .i64 0,.int .i64 0,.bool false,.int .i64 0])⟩,eJ,eJ,eJ,trivial⟩
theorem Qa (l:List Nd) (hb:l.length≤1000) (n:Int) (w:Int) (h:Sz) (e:Ed) (bx:Nat→Option (Fm×La)) (hlen:∀ m∈cB l n,∀ q,bx m=some q→q.2.L.length≤1000)
 (hB:∀ m∈cB l n,aK Go.Proofs.Try.prog 26 [.rv (cc l),.rv (.int .i64 m),.rv (.int .i64 w),h.sv,.rv (.bool (cr l n).bK)] [] [] (lg (bx m))) :
 aK Go.Proofs.Try.prog 28 [.rv (cc l),.rv (.int .i64 n),.rv (.int .i64 w),h.sv,e.sv,.rv (.int .i64 (-1))] [] [] (.aM [.agg ((cM (gx bx (cB l n) (ov w h) e.qT e.pI).1).map .rv),.rv (.bool (gx bx (cB l n) (ov w h) e.qT e.pI).2)]):=by
 refine bG LW [.rv (cc l),.rv (.int .i64 n),.rv (.int .i64 w),h.sv,e.sv,.rv (.int .i64 (-1))] _ (by simp) (by simp [aP,bh,bu,bg,bn,aq.sv,Ln.sv,Nd.sv]) (fun K hK=>?_)
 have hm:=Fj w h
 have hf:=Ff l n (by omega)
 have hfl:=wZ (cB l n)
 have hst:=Fg l n
 have HA:=HO l n
 have g0:decide ((-1:Int)≥0)=false:=rfl
 unfold gx at hK
 cases hmay:ov w h with
 | false=>
   rw [hmay] at hm
   simp -implicitDefEqProofs only [hmay,Bool.false_eq_true,if_false] at hK
   conv in fc _ _ _ _=>reduce
   simp -implicitDefEqProofs only [Sz.sv,Sz.cells,Ed.sv,go_sem,Int.reduceNegSucc] at hm ⊢
   have br:=hm;repeat' (first | (simp -implicitDefEqProofs only [go_sem,Int.reduceNegSucc,rE]) | (with_reducible refine aA ?_) | (with_reducible first | refine aF br ?_ | refine aG br ?_) | ((first | refine ai (fun hg=>?_) (fun hg=>?_) | refine aB (fun hg=>?_) (fun hg=>?_) | refine aC (fun hg=>?_) (fun hg=>?_)) <;> try simp -implicitDefEqProofs only [hg,Bool.not_true,Bool.not_false]) | ((with_reducible apply And.intro);focus (first | trivial | omega | decide | (simp -implicitDefEqProofs only [maxLen];omega) | (simp [maxLen,an,ak,au,az,aj,ay,ax] <;> omega))) | fail)
   all_goals (refine (hK _ _ ?_).2;clear hK;simp -implicitDefEqProofs only [go_sem,Int.reduceNegSucc,bw,bD,bN,bQ,aY,aS,aR,cM] <;>(try simp_all [-Int.not_lt,-Int.not_le,aY,aS,aR,cj,cM]) <;> try omega)
 | true=>
   rw [hmay] at hm
   simp -implicitDefEqProofs only [hmay,if_true] at hK
   obtain ⟨ks,hks⟩:∃ ks,ks=cB l n:=⟨_,rfl⟩
   rw [← hks] at hf hfl hB hK HA hlen
   clear hks
   conv in fc _ _ _ _=>reduce
   simp -implicitDefEqProofs only [Sz.sv,Sz.cells,Ed.sv,go_sem,Int.reduceNegSucc] at hm ⊢
   have y_2:=hm;have bS:=hf;repeat' (first | (simp -implicitDefEqProofs only [go_sem,Int.reduceNegSucc,hfl,g0,rE]) | (with_reducible refine aA ?_) | (with_reducible first | refine aF y_2 ?_ | refine aG y_2 ?_) | (with_reducible first | refine aF bS ?_ | refine aG bS ?_) | ((first | refine ai (fun hg=>?_) (fun hg=>?_) | refine aB (fun hg=>?_) (fun hg=>?_) | refine aC (fun hg=>?_) (fun hg=>?_)) <;> try simp -implicitDefEqProofs only [hg,Bool.not_true,Bool.not_false]) | ((with_reducible apply And.intro);focus (first | trivial | omega | decide | (simp -implicitDefEqProofs only [maxLen];omega) | (simp [maxLen,an,ak,au,az,aj,ay,ax] <;> omega))) | fail)
   refine cK (ι:=List (Nat×Fm×La)) (fun rs=>[(54,.rv (.int .i64 rs.length)),(53,.rv (.int .i64 ks.length)),(52,.rv (.sl 1 (aJ (aX ks)))),(17,.ptr 3 0),(18,.row 4 rs.length rs.length),(19,.row 5 rs.length rs.length),(12,.ptr 2 0),(9,.ptr 0 0),(10,.ptr 1 0),(0,.rv (cc l)),(1,.rv (.int .i64 n)),(2,.rv (.int .i64 w))]) (wL h e)
    (fun rs=>rs.length≤ks.length∧(bT rs).length≤1001*rs.length∧gj bx ks=(gj bx (ks.drop rs.length)).map (rs ++ ·)) (fun rs=>ks.length - rs.length) [] ⟨Nat.zero_le _,by simp [bT],by cases hq:gj bx ks <;> simp [hq]⟩
    ((qo 18 1 0 rfl).trans ((qo 19 8 0 rfl).trans ((BL 3 26 0 rfl rfl).trans (bp (by simp [lk,aZ]))))) (fun rs wH K' hN hX hR=>?_)
   obtain ⟨Ke,Rx,mu⟩:=wH
   simp -implicitDefEqProofs only [wL,pq,Sz.cells,go_sem,Int.reduceNegSucc]
   refine ai (fun hg=>?_) (fun hg=>?_)
   ·have av:rs.length<ks.length:=by simp at hg;omega
    have wu:=ct (k:=rs.length) (by omega)
    have hx:(aJ (aX ks))[rs.length]?.getD []=[.int .i64 (ks[rs.length]:Nat)]:=by simp [aJ,aX,av]
    have mh:=hB _ (List.getElem_mem av)
    rw [List.drop_eq_getElem_cons av,gj] at mu
    have tO:=hlen _ (List.getElem_mem av)
    have Cd:=gl (cr l n)
    have q1:((cr l n).cells.map U.rv).length=48:=rfl
    generalize ks[rs.length]=m at *
    cases kk:bx m with
    | none=>
      rw [kk] at mh mu
      simp -implicitDefEqProofs only [Option.map] at mu
      rw [mu] at hK
      simp -implicitDefEqProofs only [lg,fj,cM,Option.map,Option.isSome,List.map_cons,List.map_nil,Sz.sv,Sz.cells] at mh
      have bY:=hst;have cu:=mh;repeat' (first | (simp -implicitDefEqProofs only [go_sem,Int.reduceNegSucc,hfl,hx,Cd,q1,an]) | (with_reducible refine aA ?_) | (with_reducible first | refine aF bY ?_ | refine aG bY ?_) | (with_reducible first | refine aF cu ?_ | refine aG cu ?_) | ((first | refine ai (fun hg=>?_) (fun hg=>?_) | refine aB (fun hg=>?_) (fun hg=>?_) | refine aC (fun hg=>?_) (fun hg=>?_)) <;> try simp -implicitDefEqProofs only [hg,Bool.not_true,Bool.not_false]) | ((with_reducible apply And.intro);focus (first | trivial | omega | decide | (simp -implicitDefEqProofs only [maxLen];omega) | (simp [maxLen,an,ak,au,az,aj,ay,ax] <;> omega))) | fail)
      refine hR _ _ (hK _ _ ?_).2
      simp -implicitDefEqProofs only [go_sem,Int.reduceNegSucc,bw,bD,bN,bQ,aY,aS,aR,cM]
    | some q=>
      rw [kk] at mh mu
      obtain ⟨f,t⟩:=q
      have JU:=tO _ kk
      simp -implicitDefEqProofs only [Option.map_map] at mu
      have CA:(bT rs).length≤1001000:=by omega
      have hrl:rs.length≤1000:=by omega
      have hv:2*rs.length+1+1=2*(rs.length+1):=by omega
      have ho:=NV (rs:=rs) (r:=(m,f,t))
      have hc:=Hj (rs:=rs) (r:=(m,f,t))
      have hls:bT rs++[(m,f)]++t.L=bT (rs++[(m,f,t)]):=by rw [Ga];simp [gq]
      have Kk:(aJ (gB rs)).take rs.length=aJ (gB rs):=List.take_of_length_le (by rw [aj,Ab];omega)
      have Kl:(fD (eA rs)).take rs.length=fD (eA rs):=List.take_of_length_le (by rw [tf];simp [eA])
      have l1:(aJ (gB rs)).length=rs.length:=by rw [aj,Ab]
      have l2:(fD (eA rs)).length=rs.length:=by rw [tf];simp [eA]
      have l3:=pM (bT rs)
      have l4:=pM t.L
      have l5:(di (bT rs++[(m,f)])).length=(bT rs).length+1:=by rw [pM];simp
      simp only at JU
      simp -implicitDefEqProofs only [lg,fj,cM,Option.map,Option.isSome,Pl.cells,List.map_cons,List.map_nil,List.cons_append,List.nil_append,Sz.sv,Sz.cells] at mh
      have cm:=hst;have cG:=mh;repeat' (first | (simp -implicitDefEqProofs only [go_sem,Int.reduceNegSucc,hfl,hx,Cd,q1,an,Ie,Ig,Ih,Ic,Ib,Hl,Gs,Gt,Gp,sA,QF,QG,Kk,Kl,l1,l2,l3,l4,l5,wu,hv]) | (with_reducible refine aA ?_) | (with_reducible first | refine aF cm ?_ | refine aG cm ?_) | (with_reducible first | refine aF cG ?_ | refine aG cG ?_) | ((first | refine ai (fun hg=>?_) (fun hg=>?_) | refine aB (fun hg=>?_) (fun hg=>?_) | refine aC (fun hg=>?_) (fun hg=>?_)) <;> try simp -implicitDefEqProofs only [hg,Bool.not_true,Bool.not_false]) | ((with_reducible apply And.intro);focus (first | trivial | omega | decide | (simp -implicitDefEqProofs only [maxLen];omega) | (simp [maxLen,an,ak,au,az,aj,ay,ax] <;> omega) | (omega;done))) | fail)
      have hq:wL h e (rs++[(m,f,t)])=pq h e (rs.length+1) ((bT rs).length+1+t.L.length) (gB rs++[((bT rs).length:Int)]) (eA rs++[f.child]) (bT rs++[(m,f)]++t.L):=by
       unfold wL
       rw [ho,hc,← hls]
       simp -implicitDefEqProofs only [List.length_append,List.length_cons,List.length_nil,Nat.zero_add]
      refine hN (rs++[(m,f,t)]) _ _ ⟨by simp;omega,by rw [← hls];simp;omega,?_⟩ (by simp;omega) ?_
      ·rw [mu]
       simp -implicitDefEqProofs only [List.length_append,List.length_cons,List.length_nil,Nat.zero_add]
       congr 1
       funext x
       simp
      ·rw [hq]
       exact rG (h':=pq h e (rs.length+1) ((bT rs).length+1+t.L.length) (gB rs++[((bT rs).length:Int)]) (eA rs++[f.child]) (bT rs++[(m,f)]++t.L)) (Nat.zero_le _) (KC _ _ _ _ _ _ _) (by simp [fW,lk,ng,lu,nc,pq])
   ·have av:rs.length=ks.length:=by simp at hg;omega
    rw [av,List.drop_length] at mu
    simp -implicitDefEqProofs only [gj,Option.map,List.append_nil] at mu
    rw [mu] at hK
    simp -implicitDefEqProofs only [mu] at hK
    simp -implicitDefEqProofs only [go_sem,Int.reduceNegSucc]
    refine hX _ _ _ ?_
    clear hN hX hR
    have hrl:rs.length≤1000:=by omega
    have hcl:(eA rs).length=rs.length:=by simp [eA]
    have hS:=PL (eA rs) e.qT (by omega) 5 rs.length 7 (by decide)
    rw [hcl] at hS
    cases tW:lS (eA rs) e.qT with
    | none=>
      rw [tW] at hS
      simp -implicitDefEqProofs only [tW] at hK
      have hv:=AG ⟨0,0⟩
      simp -implicitDefEqProofs only [qU,pO,Option.isSome,Su.sv,Su.cells,List.map_cons,List.map_nil] at hS hv
      have cH:=hS;have cY:=hv;repeat' (first | (simp -implicitDefEqProofs only [go_sem,Int.reduceNegSucc,yD,rE]) | (with_reducible refine aA ?_) | (refine cC cH ?_ ?_ ?_;(focus (simp [aW,ag] <;> fail));(focus (simp [bk,aZ] <;> fail))) | (refine cZ cH ?_ ?_ ?_;(focus (simp [aW,ag] <;> fail));(focus (simp [bk,aZ] <;> fail))) | (with_reducible first | refine aF cY ?_ | refine aG cY ?_) | ((first | refine ai (fun hg=>?_) (fun hg=>?_) | refine aB (fun hg=>?_) (fun hg=>?_) | refine aC (fun hg=>?_) (fun hg=>?_)) <;> try simp -implicitDefEqProofs only [hg,Bool.not_true,Bool.not_false]) | ((with_reducible apply And.intro);focus (first | trivial | omega | decide | (simp -implicitDefEqProofs only [maxLen];omega) | (simp [maxLen,an,ak,au,az,aj,ay,ax] <;> omega))) | fail)
      all_goals (refine (hK _ _ ?_).2;clear hK;simp -implicitDefEqProofs only [go_sem,Int.reduceNegSucc,bw,bD,bN,bQ,aY,aS,aR,cM] <;>(try simp_all [-Int.not_lt,-Int.not_le,aY,aS,aR,cj,cM]) <;> try omega)
    | some q=>
      obtain ⟨p,ys⟩:=q
      rw [tW] at hS
      simp -implicitDefEqProofs only [tW] at hK
      have Kw:=FE tW
      simp -implicitDefEqProofs only [List.length_nil,Nat.zero_add,hcl] at Kw
      have hv:=AG p.cur
      simp -implicitDefEqProofs only [qU,pO,kK,Option.isSome,Pl.cells,Su.sv,Su.cells,List.map_cons,List.map_nil] at hS hv
      cases wI:sJ p.cur with
      | false=>
        rw [wI] at hv
        simp -implicitDefEqProofs only [wI,Bool.false_eq_true,if_false] at hK
        have dm:=hS;have eZ:=hv;repeat' (first | (simp -implicitDefEqProofs only [go_sem,Int.reduceNegSucc,yD,rE]) | (with_reducible refine aA ?_) | (refine cC dm ?_ ?_ ?_;(focus (simp [aW,ag] <;> fail));(focus (simp [bk,aZ] <;> fail))) | (refine cZ dm ?_ ?_ ?_;(focus (simp [aW,ag] <;> fail));(focus (simp [bk,aZ] <;> fail))) | (with_reducible first | refine aF eZ ?_ | refine aG eZ ?_) | ((first | refine ai (fun hg=>?_) (fun hg=>?_) | refine aB (fun hg=>?_) (fun hg=>?_) | refine aC (fun hg=>?_) (fun hg=>?_)) <;> try simp -implicitDefEqProofs only [hg,Bool.not_true,Bool.not_false]) | ((with_reducible apply And.intro);focus (first | trivial | omega | decide | (simp -implicitDefEqProofs only [maxLen];omega) | (simp [maxLen,an,ak,au,az,aj,ay,ax] <;> omega))) | fail)
        all_goals (refine (hK _ _ ?_).2;clear hK;simp -implicitDefEqProofs only [go_sem,Int.reduceNegSucc,bw,bD,bN,bQ,aY,aS,aR,cM] <;>(try simp_all [-Int.not_lt,-Int.not_le,aY,aS,aR,cj,cM]) <;> try omega)
      | true=>
        rw [wI] at hv
        simp -implicitDefEqProofs only [wI,if_true] at hK
        have kH:=hS;have kI:=hv;repeat' (first | (simp -implicitDefEqProofs only [go_sem,Int.reduceNegSucc,yD,rE]) | (with_reducible refine aA ?_) | (refine cC kH ?_ ?_ ?_;(focus (simp [aW,ag] <;> fail));(focus (simp [bk,aZ] <;> fail))) | (refine cZ kH ?_ ?_ ?_;(focus (simp [aW,ag] <;> fail));(focus (simp [bk,aZ] <;> fail))) | (with_reducible first | refine aF kI ?_ | refine aG kI ?_) | ((first | refine ai (fun hg=>?_) (fun hg=>?_) | refine aB (fun hg=>?_) (fun hg=>?_) | refine aC (fun hg=>?_) (fun hg=>?_)) <;> try simp -implicitDefEqProofs only [hg,Bool.not_true,Bool.not_false]) | ((with_reducible apply And.intro);focus (first | trivial | omega | decide | (simp -implicitDefEqProofs only [maxLen];omega) | (simp [maxLen,an,ak,au,az,aj,ay,ax] <;> omega))) | fail)
        have Kx:=aj ys
        have qE:=xy rs
        refine cK (ι:=Nat) (fun i=>[(119,.rv (.int .i64 i)),(118,.rv (.int .i64 rs.length)),(117,.row 4 rs.length rs.length),(17,.ptr 3 0),(25,.ptr 8 0),(27,.rv (.int .i64 (oC p.cur))),(10,.ptr 1 0),(12,.ptr 2 0)])
         (fun i=>pq h e rs.length (bT rs).length (gB rs) (eA rs) (dz rs (ys.take i))++[some (.row 1 ys.length (aH (aJ ys))),some (.var [.row 7 ys.length ys.length,.rv (.int .i64 p.mb),.rv (.int .i64 p.top.p),.rv (.int .i64 p.top.n),.rv (.int .i64 p.cur.p),.rv (.int .i64 p.cur.n),.rv (.bool p.nP)])])
         (fun i=>i≤rs.length) (fun i=>rs.length - i) 0 (Nat.zero_le _) (by rw [List.take_zero,qE];exact bp (by simp [lk])) (fun i hi K' hN hX hR=>?_)
        simp -implicitDefEqProofs only [pq,Sz.cells,go_sem,Int.reduceNegSucc]
        refine ai (fun hg=>?_) (fun hg=>?_)
        ·have hi4:i<rs.length:=by simp at hg;omega
         have wu:=ct (k:=i) (by omega)
         have ho:=NU hi4
         have JZ:=Ab (rs:=rs)
         have hy:=pz (show i<ys.length by omega)
         have gu:=Ov hi4 (show i<ys.length by omega)
         have kR:=Ow hi4 (show i<ys.length by omega)
         have hlt:(bT (rs.take i)).length<(bT rs).length:=by
          have:=(xx rs ys i hi4 (by omega)).1
          have:=(List.getElem?_eq_some_iff.1 this).1
          rwa [uJ] at this
         have dF:(di (dz rs (ys.take i))).length=(bT rs).length:=by rw [pM,uJ]
         have cV:=aj (gB rs)
         have Qv:=Qw (rs[i].1,rs[i].2.1) ys[i]
         have zo:=Oq (rs[i].1,rs[i].2.1)
         repeat' (first | (simp -implicitDefEqProofs only [go_sem,Int.reduceNegSucc,ho,hy,gu,kR,dF,cV,JZ,Qv,zo,wu,Kx]) | (with_reducible refine aA ?_) | ((first | refine ai (fun hg=>?_) (fun hg=>?_) | refine aB (fun hg=>?_) (fun hg=>?_) | refine aC (fun hg=>?_) (fun hg=>?_)) <;> try simp -implicitDefEqProofs only [hg,Bool.not_true,Bool.not_false]) | ((with_reducible apply And.intro);focus (first | trivial | omega | decide | (simp -implicitDefEqProofs only [maxLen];omega) | (simp [maxLen,an,ak,au,az,aj,ay,ax] <;> omega) | (omega;done))) | fail)
         exact hN (i+1) _ _ (by omega) (by omega) (bp (by simp [lk]))
        ·have hi4:i=rs.length:=by simp at hg;omega
         have nD:ys.take i=ys:=List.take_of_length_le (by omega)
         rw [nD]
         clear nD hg
         simp -implicitDefEqProofs only [go_sem,Int.reduceNegSucc]
         refine hX _ _ _ ?_
         clear hN hX hR
         have hfit:=gF (ou rs (p,ys) e.pI).high
         have dF:(di (dz rs ys)).length=(bT rs).length:=by rw [pM,uJ]
         simp -implicitDefEqProofs only [ou] at hfit hK
         cases gu:p.nP <;> cases CE:e.pI <;> simp -implicitDefEqProofs only [gu,CE,Bool.false_eq_true,if_true,if_false] at hfit hK
         all_goals ((have kJ:=hfit;repeat' (first | (simp -implicitDefEqProofs only [go_sem,Int.reduceNegSucc,Hz,rE,gu,CE]) | (with_reducible refine aA ?_) | (with_reducible first | refine aF kJ ?_ | refine aG kJ ?_) | ((first | refine ai (fun hg=>?_) (fun hg=>?_) | refine aB (fun hg=>?_) (fun hg=>?_) | refine aC (fun hg=>?_) (fun hg=>?_)) <;> try simp -implicitDefEqProofs only [hg,Bool.not_true,Bool.not_false]) | ((with_reducible apply And.intro);focus (first | trivial | omega | decide | (simp -implicitDefEqProofs only [maxLen];omega) | (simp [maxLen,an,ak,au,az,aj,ay,ax] <;> omega))) | fail)))
         all_goals (refine (hK _ _ ?_).2;simp -implicitDefEqProofs only [go_sem,Int.reduceNegSucc,bw,bD,bN,bQ,aY,aS,aR,cM,Pl.cells,gu])
         all_goals (refine ⟨Au rfl rfl (by rw [dF]) (Ou _),Au rfl rfl (by rw [aj]) (mB _)⟩)
end Go.aI

namespace Go.aI
open Go
theorem LP:aV Go.Proofs.Try.prog 13 34 (fc Go.Proofs.Try.prog 13 34 [(.c 10 25 true),(.c 11 9 true),(.t 12)]) [(.c 10 25 true),(.c 11 9 true),(.t 12)]:=bq (by kernel_rfl)
def qI (l:List Nd) (bd:Nat→Int→Sz→Bool→Option (Fm×La)) (n:Nat) (e:Ed) (x:Ao):Option La×Bool:=
 gx (fun m=>bd m x.w (oX e) (cr l n).bK) (cB l n) (ov x.w (oX e)) e.qT e.pI
def kf (l:List Nd):Nat→Nat→Int→Sz→Bool→Option (Fm×La)
 | 0,_,_,_,_=>none
 | d+1,n,w,h,bK=>oJ l (qI l (kf l d) n) n w h bK
def nQ (l:List Nd) (n:Int) (w:Int) (h:Sz) (bK:Bool):Option (Fm×La):=if (eL l n && ov w h)=true then kf l (l.length+1) n.toNat w h bK else none
theorem HZ (l:List Nd) (n:Int):(cB l n).Pairwise (·< ·):=by
 unfold cB eK
 split
 ·unfold dy aT
  exact (List.pairwise_lt_range.filter _).filter _
 ·exact .nil
theorem nY {l:List Nd} {n:Nat} {m:Nat} (h:m∈cB l n):0<m∧m<l.length∧aO l m=n:=by
 have h:=(List.mem_filter.1 h).1
 unfold eK at h
 split at h
 ·exact rZ.1 (by simpa using h)
 ·simp at h
theorem Ia {l:List Nd} (hs:cA l) {n:Nat} (hn:n<l.length):(cB l n).Pairwise (fun x y=>dj l x≤y)∧∀ m∈cB l n,n+1≤m∧m≤dj l m∧dj l m≤dj l n:=by
 have hwf:=hs.wf
 refine ⟨?_,fun m hm=>?_⟩
 ·refine List.Pairwise.imp_of_mem (fun {x y} hx hy hlt=>?_) (HZ l n)
  obtain ⟨x1,x2,x3⟩:=nY hx
  obtain ⟨y1,y2,y3⟩:=nY hy
  have RB:=hs.up x x1 x2
  apply Classical.byContradiction
  intro hc
  have:=(hs.below x2 y2).2 ⟨by omega,by omega⟩
  rcases (ow hwf y1 y2).1 this with h | h
  ·omega
  ·rw [y3] at h
   have:=sk _ _ h
   simp at this
   omega
 ·obtain ⟨m1,m2,m3⟩:=nY hm
  have hu:=hs.up m m1 m2
  obtain ⟨g1,g2⟩:=hs.vO m2
  refine ⟨by omega,by omega,?_⟩
  have h1:=(hs.below m2 (show dj l m - 1<l.length by omega)).2 ⟨by omega,by omega⟩
  have h2:n∈aN l m:=(ow hwf m1 m2).2 (.inr (by rw [m3];simpa using uA))
  have:=(hs.below hn (show dj l m - 1<l.length by omega)).1 (Ak h1 n h2)
  omega
theorem FA (e:Nat→Nat):∀ (ks:List Nat) (a b:Nat),ks.Pairwise (fun x y=>e x≤y)→(∀ k∈ks,a≤k∧k≤e k∧e k≤b)→(ks.map fun k=>e k - k).sum≤b - a
 | [],_,_,_,_=>by simp
 | k::ks,a,b,hp,hk=>by
   rw [List.pairwise_cons] at hp
   have:=FA e ks (e k) b hp.2 (fun x hx=>⟨hp.1 x hx,(hk x (.tail _ hx)).2⟩)
   have:=hk k (.head _)
   simp -implicitDefEqProofs only [List.map_cons,List.sum_cons]
   omega
theorem EI {bx:Nat→Option (Fm×La)} {g:Nat→Nat}:∀ {ks:List Nat} {rs:List (Nat×Fm×La)},gj bx ks=some rs→(∀ m∈ks,∀ q,bx m=some q→q.2.L.length+1≤g m)→(bT rs).length≤(ks.map g).sum
 | [],rs,h,_=>by cases h;simp [bT]
 | m::ks,rs,h,hg=>by
   rw [gj] at h
   split at h
   ·rename_i q hq
    rw [Option.map_eq_some_iff] at h
    obtain ⟨rs',h1,rfl⟩:=h
    have:=EI h1 (fun x hx=>hg x (.tail _ hx))
    have:=hg m (.head _) q hq
    show (gq (m,q)++bT rs').length≤_
    simp -implicitDefEqProofs only [gq,List.length_append,List.length_cons,List.map_cons,List.sum_cons]
    omega
   ·cases h
theorem CT {bx:Nat→Option (Fm×La)} {ks:List Nat} {ok ot ob:Bool} {t:La} (h:(gx bx ks ok ot ob).1=some t):∃ rs q,gj bx ks=some rs∧lS (eA rs) ot=some q∧t=ou rs q ob:=by
 unfold gx at h
 repeat' split at h
 all_goals first | (cases h;done) | (cases h;exact ⟨_,_,by assumption,by assumption,rfl⟩)
theorem Bg {l:List Nd} {ins:Ed→Ao→Option La×Bool} {n w:Int} {h:Sz} {bK:Bool} {q:Fm×La} (hq:oJ l ins n w h bK=some q):∃ x,oG (nN l n w h bK)=some x∧okB l n w h=true∧(ins (dN l n w h) x)=(some q.2,true)∧q.1=vX (dN l n w h) x (cB l n).length q.2:=by
 unfold oJ at hq
 split at hq
 ·rename_i hok
  rw [Option.bind_eq_some_iff] at hq
  obtain ⟨x,hx,hf⟩:=hq
  unfold nX at hf
  split at hf
  ·rename_i h2
   rw [Option.bind_eq_some_iff] at hf
   obtain ⟨t,ht,hf⟩:=hf
   split at hf
   ·cases hf;exact ⟨x,hx,hok,Prod.ext ht h2,rfl⟩
   ·cases hf
  ·cases hf
 ·cases hq
theorem yf {l:List Nd} (hs:cA l):∀ (d n:Nat) (w:Int) (h:Sz) (bK:Bool) (q:Fm×La),n<l.length→kf l d n w h bK=some q→q.2.L.length+1≤dj l n - n
 | 0,_,_,_,_,_,_,h=>by cases h
 | d+1,n,w,h,bK,q,hn,hq=>by
   obtain ⟨x,_,_,hi,_⟩:=Bg hq
   obtain ⟨rs,z,h1,h2,h3⟩:=CT (t:=q.2) (by rw [show gx _ _ _ _ _=qI l (kf l d) n (dN l n w h) x from rfl,hi])
   obtain ⟨p1,p2⟩:=Ia hs hn
   have hl:=EI (g:=fun m=>dj l m - m) h1 (fun m hm r hr=>yf hs d m _ _ _ r (nY hm).2.1 hr)
   have RA:=FA (dj l) _ (n+1) (dj l n) p1 p2
   have:=(hs.vO hn).1
   rw [h3]
   simp -implicitDefEqProofs only [ou,uJ]
   omega
theorem Fh (l:List Nd) (hs:cA l) (hb:l.length≤1000):∀ (d n:Nat) (w:Int) (h:Sz) (bK:Bool),n<l.length→l.length<n+d→aK Go.Proofs.Try.prog 26 [.rv (cc l),.rv (.int .i64 n),.rv (.int .i64 w),h.sv,.rv (.bool bK)] [] [] (lg (kf l d n w h bK))
 | 0,n,w,h,bK,hn,hd=>by omega
 | d+1,n,w,h,bK,hn,hd=>by
   refine PS l (by omega) n w h bK (qI l (kf l d) n) (fun e x hq=>KE hq) (fun x=>?_)
   refine Qa l hb n x.w (oX (dN l n w h)) (dN l n w h) (fun m=>kf l d m x.w (oX (dN l n w h)) (cr l n).bK) (fun m hm q hq=>?_) (fun m hm=>?_)
   ·have:=yf hs d m _ _ _ q (nY hm).2.1 hq
    have:=(hs.vO (nY hm).2.1).2
    omega
   ·obtain ⟨h1,h2,h3⟩:=nY hm
    have:=hs.up m h1 h2
    exact Fh l hs hb d m _ _ _ h2 (by omega)
theorem AB (l:List Nd) (hs:cA l) (hb:l.length≤1000) (n:Int) (w:Int) (h:Sz) (bK:Bool):aK Go.Proofs.Try.prog 13 [.rv (cc l),.rv (.int .i64 n),.rv (.int .i64 w),h.sv,.rv (.bool bK)] [] [] (lg (nQ l n w h bK)):=by
 refine bG LP [.rv (cc l),.rv (.int .i64 n),.rv (.int .i64 w),h.sv,.rv (.bool bK)] _ (by simp) (by simp [aP,bh,bu,bg,bn,aq.sv,Ln.sv,Nd.sv]) (fun K hK=>?_)
 have hm:=xH l n
 have hw:=Fj w h
 unfold nQ at hK
 cases ny:eL l n with
 | false=>
   rw [ny] at hm
   simp -implicitDefEqProofs only [ny,Bool.false_and,Bool.false_eq_true,if_false] at hK
   conv in fc _ _ _ _=>reduce
   simp -implicitDefEqProofs only [Sz.sv,Sz.cells,go_sem,Int.reduceNegSucc]
   have br:=hm;repeat' (first | (simp -implicitDefEqProofs only [go_sem,Int.reduceNegSucc]) | (with_reducible refine aA ?_) | (with_reducible first | refine aF br ?_ | refine aG br ?_) | ((first | refine ai (fun hg=>?_) (fun hg=>?_) | refine aB (fun hg=>?_) (fun hg=>?_) | refine aC (fun hg=>?_) (fun hg=>?_)) <;> try simp -implicitDefEqProofs only [hg,Bool.not_true,Bool.not_false]) | ((with_reducible apply And.intro);focus (first | trivial | omega | decide | (simp -implicitDefEqProofs only [maxLen];omega) | (simp [maxLen,an,ak,au,az,aj,ay,ax] <;> omega))) | fail)
   all_goals (refine (hK _ _ ?_).2;clear hK;simp -implicitDefEqProofs only [go_sem,Int.reduceNegSucc,bw,bD,bN,bQ,aY,aS,aR,fj,cM,Option.map,Option.isSome] <;>(try simp_all [-Int.not_lt,-Int.not_le,aY,aS,aR,cj,fj,cM,Option.map,Option.isSome]) <;> try omega)
 | true=>
   rw [ny] at hm
   cases wD:ov w h with
   | false=>
     rw [wD] at hw
     simp -implicitDefEqProofs only [ny,wD,Bool.true_and,Bool.false_eq_true,if_false] at hK
     conv in fc _ _ _ _=>reduce
     simp -implicitDefEqProofs only [Sz.sv,Sz.cells,go_sem,Int.reduceNegSucc] at hw ⊢
     have y_2:=hm;have bS:=hw;repeat' (first | (simp -implicitDefEqProofs only [go_sem,Int.reduceNegSucc]) | (with_reducible refine aA ?_) | (with_reducible first | refine aF y_2 ?_ | refine aG y_2 ?_) | (with_reducible first | refine aF bS ?_ | refine aG bS ?_) | ((first | refine ai (fun hg=>?_) (fun hg=>?_) | refine aB (fun hg=>?_) (fun hg=>?_) | refine aC (fun hg=>?_) (fun hg=>?_)) <;> try simp -implicitDefEqProofs only [hg,Bool.not_true,Bool.not_false]) | ((with_reducible apply And.intro);focus (first | trivial | omega | decide | (simp -implicitDefEqProofs only [maxLen];omega) | (simp [maxLen,an,ak,au,az,aj,ay,ax] <;> omega))) | fail)
     all_goals (refine (hK _ _ ?_).2;clear hK;simp -implicitDefEqProofs only [go_sem,Int.reduceNegSucc,bw,bD,bN,bQ,aY,aS,aR,fj,cM,Option.map,Option.isSome] <;>(try simp_all [-Int.not_lt,-Int.not_le,aY,aS,aR,cj,fj,cM,Option.map,Option.isSome]) <;> try omega)
   | true=>
     rw [wD] at hw
     simp -implicitDefEqProofs only [ny,wD,Bool.and_self,if_true] at hK
     have hin:dw l n=true:=by simp [eL] at ny;exact ny.1
     obtain ⟨k,rfl,hk⟩:=rV hin
     have hx:=Fh l hs hb (l.length+1) k w h bK hk (by omega)
     simp -implicitDefEqProofs only [Int.toNat_natCast] at hK
     generalize kf l (l.length+1) k w h bK=r at *
     simp -implicitDefEqProofs only [lg] at hx hK
     obtain ⟨u,hu,lF⟩:∃ u,fj (r.map (·.1))=u∧u.length=25:=⟨_,rfl,by cases r <;> rfl⟩
     obtain ⟨v,hv,hvl⟩:∃ v,cM (r.map (·.2))=v∧v.length=9:=⟨_,rfl,by cases r <;> rfl⟩
     rw [hu,hv] at hx hK
     have u1:(u.map U.rv).drop 25=[]:=List.drop_of_length_le (by simp [lF])
     have u2:(u.map U.rv).take 25=u.map U.rv:=List.take_of_length_le (by simp [lF])
     have v1:(v.map U.rv).drop 9=[]:=List.drop_of_length_le (by simp [hvl])
     have v2:(v.map U.rv).take 9=v.map U.rv:=List.take_of_length_le (by simp [hvl])
     conv in fc _ _ _ _=>reduce
     simp -implicitDefEqProofs only [Sz.sv,Sz.cells,go_sem,Int.reduceNegSucc] at hw hx ⊢
     have bY:=hm;have cu:=hw;have cm:=hx;repeat' (first | (simp -implicitDefEqProofs only [go_sem,Int.reduceNegSucc,lF,hvl,u1,u2,v1,v2,List.length_map,List.append_nil]) | (with_reducible refine aA ?_) | (with_reducible first | refine aF bY ?_ | refine aG bY ?_) | (with_reducible first | refine aF cu ?_ | refine aG cu ?_) | (with_reducible first | refine aF cm ?_ | refine aG cm ?_) | ((first | refine ai (fun hg=>?_) (fun hg=>?_) | refine aB (fun hg=>?_) (fun hg=>?_) | refine aC (fun hg=>?_) (fun hg=>?_)) <;> try simp -implicitDefEqProofs only [hg,Bool.not_true,Bool.not_false]) | ((with_reducible apply And.intro);focus (first | trivial | omega | decide | (simp -implicitDefEqProofs only [maxLen];omega) | (simp [maxLen,an,ak,au,az,aj,ay,ax] <;> omega))) | fail)
     all_goals (refine (hK _ _ ?_).2;simp -implicitDefEqProofs only [go_sem,Int.reduceNegSucc,bw,bD,bN,bQ,aY,aS,aR,cR,lF,hvl,u2,v2,List.length_map,List.drop_zero])
end Go.aI

namespace Go.aI
open Go
theorem HQ (s:aq):∀ r∈s.cells,eE r:=by
 intro r hr
 simp -implicitDefEqProofs only [aq.cells,List.mem_cons,List.not_mem_nil,or_false] at hr
 repeat' rcases hr with rfl | hr
 all_goals first | exact .int _ _ | exact .bool _ | (subst hr;exact .int _ _)
theorem HR (x:Nd):∀ r∈x.cells,eE r:=by
 intro r hr
 rcases List.mem_append.1 hr with hr | hr
 ·exact HQ _ r hr
 ·simp at hr;rw [hr];exact .int _ _
theorem HP {e v:Nat} {xs:List (List RV)} (h:∀ x∈xs,∀ r∈x,eE r):mT (.row e v (aH xs)):=by
 refine .row _ _ _ (fun i x j y hx hy=>?_)
 unfold aH at hx
 rw [List.getElem?_map] at hx
 cases hq:xs[i]? with
 | none=>simp [hq] at hx
 | some z=>
   simp [hq] at hx
   subst hx
   rw [List.getElem?_map] at hy
   cases hr:z[j]? with
   | none=>simp [hr] at hy
   | some r=>simp [hr] at hy;subst hy;exact .rv _ (h z (List.mem_of_getElem? hq) r (List.mem_of_getElem? hr))
theorem Pr (l:List Nd) (hb:l.length≤8589934592) (i v m:Nat) (hne:i≠m):aK Go.Proofs.Try.prog 23 [.row i v l.length] [(i,.row 49 v (aH (aQ l)))] [(m,.row 49 1 (aH (aQ l)))] (.row m 1 l.length):=by
 have h:=Fe (aQ l) m (by rw [au];exact hb)
 rw [au] at h
 refine vr (rs:=[.sl 49 (aQ l)]) h (fun hp hpre=>⟨?_,trivial⟩) rfl (.row _ _ _) (fun q hq=>?_)
 ·exact mg (hpre _ (.head _)) rfl (by simp [aQ]) (xb l)
 ·simp at hq;subst hq
  refine ⟨HP fun x hx=>?_,by simpa using hne⟩
  obtain ⟨n,_,rfl⟩:=List.mem_map.1 hx
  exact HR n
theorem zY (x:Nd):(x.cells.map U.rv).take 49=x.cells.map U.rv:=rfl
def ee (l:List Nd) (k:Nat):List (List U):=(List.range l.length).map fun p=>[.row (p+7) (aT l k p).length (aT l k p).length]
def dP (l:List Nd) (k:Nat):List (Option HB):=(List.range l.length).map fun p=>some (.row 1 (aT l k p).length (aH (aJ (aX (aT l k p)))))
theorem uh (l:List Nd) (k:Nat):(ee l k).length=l.length:=by simp [ee]
theorem lH (l:List Nd) (k:Nat):(dP l k).length=l.length:=by simp [dP]
theorem Dh {l:List Nd} {k p:Nat} (hp:p<l.length):(ee l k)[p]?.getD []=[.row (p+7) (aT l k p).length (aT l k p).length]:=by simp [ee,hp]
theorem zM {l:List Nd} {k p:Nat} {C:List (Option HB)} (hp:p<l.length):ag (dP l k++C) p=some (.row 1 (aT l k p).length (aH (aJ (aX (aT l k p))))):=by
 unfold ag
 rw [List.getElem?_append_left (by rw [lH];exact hp)]
 simp [dP,hp]
theorem zK {l:List Nd} {k:Nat} {x:Option HB} {C:List (Option HB)}:ag (dP l k++x::C) l.length=x:=by
 unfold ag
 rw [List.getElem?_append_right (by rw [lH];exact Nat.le_refl _),lH]
 simp
theorem Dd {l:List Nd} {k:Nat} {x y:Option HB} {C:List (Option HB)}:ag (dP l k++x::y::C) (l.length+1)=y:=by
 unfold ag
 rw [List.getElem?_append_right (by rw [lH];omega),lH,show l.length+1 - l.length=1 by omega]
 simp
theorem Df {l:List Nd} {k p:Nat} {hb:Option HB} {x y:Option HB} {C:List (Option HB)}:ag ((dP l k).set p hb++x::C) l.length=x:=by
 unfold ag
 rw [List.getElem?_append_right (by rw [List.length_set,lH];exact Nat.le_refl _),List.length_set,lH]
 simp
theorem zO {l:List Nd} {k:Nat} {x y:Option HB} {C:List (Option HB)}:(dP l k++x::C).set l.length y=dP l k++y::C:=by
 rw [List.set_append_right _ _ (by rw [lH];exact Nat.le_refl _),lH,Nat.sub_self];rfl
theorem Le {l:List Nd} {k p:Nat} {y:Option HB} {C:List (Option HB)} (hp:p<l.length):(dP l k++C).set p y=(dP l k).set p y++C:=by
 rw [List.set_append_left _ _ (by rw [lH];exact hp)]
theorem Lh (l:List Nd):dP l 0=dW l.length 1:=by
 refine List.ext_getElem (by simp [dP,dW]) (fun i h1 h2=>?_)
 simp [dP,dW,uo,aX,aJ,aH]
theorem Dj (l:List Nd):ee l 0=dB 7 l.length l.length:=by
 refine List.ext_getElem (by simp [ee,dB]) (fun i h1 h2=>?_)
 simp [ee] at h1
 simp [ee,dB,uo,h1];omega
theorem Lc {l:List Nd} {k p:Nat} (h0:0<k) (hp:aO l k=p) (hl:p<l.length) :
 (dP l k).set p (some (.row 1 ((aT l k p).length+1) (aH (aJ (aX (aT l k p)++[(k:Int)])))))=dP l (k+1):=by
 refine List.ext_getElem (by simp [dP]) (fun i h1 h2=>?_)
 simp -implicitDefEqProofs only [List.getElem_set,dP,List.getElem_map,List.getElem_range,um]
 by_cases h:p=i
 ·subst h;simp [h0,hp,aX]
 ·rw [if_neg h,if_neg (by rw [hp];omega)];simp
theorem Ll {l:List Nd} {k p:Nat} (h0:0<k) (hp:aO l k=p) (hl:p<l.length) :
 (ee l k).set p [.row (p+7) ((aT l k p).length+1) ((aT l k p).length+1)]=ee l (k+1):=by
 refine List.ext_getElem (by simp [ee]) (fun i h1 h2=>?_)
 simp -implicitDefEqProofs only [List.getElem_set,ee,List.getElem_map,List.getElem_range,um]
 by_cases h:p=i
 ·subst h;simp [h0,hp]
 ·rw [if_neg h,if_neg (by rw [hp];omega)];simp
theorem KZ (l:List Nd):dP l 1=dP l 0:=by
 refine List.ext_getElem (by simp [dP]) (fun i h1 h2=>?_)
 simp [dP,aT,List.range_succ]
theorem Lj (l:List Nd):ee l 1=ee l 0:=by
 refine List.ext_getElem (by simp [ee]) (fun i h1 h2=>?_)
 simp [ee,aT,List.range_succ]
def pH (v:Nat) (l:List Nd) (k:Nat) (es ds:List Int) (bs:List Bool):List (Option HB):=some (.row 49 v (aH (aQ l)))::some (.row 49 1 (aH (aQ l)))::some (.row 1 0 (ee l k))::some (.row 1 0 (aH (aJ es)))::some (.row 1 0 (aH (aJ ds)))::some (.row 1 0 (aH (eH bs)))::some (.var [.row 1 1 l.length,.row 2 0 l.length,.row 3 0 l.length,.row 4 0 l.length,.row 5 0 l.length])::dP l k
theorem zG {v:Nat} {l:List Nd} {k:Nat} {es ds:List Int} {bs:List Bool}:(pH v l k es ds bs).length=l.length+7:=by simp [pH,lH]
theorem KX {v:Nat} {l:List Nd} {k:Nat} {es ds:List Int} {bs:List Bool}:kZ (nL (l.length+7)) (pH v l k es ds bs):=by
 refine ⟨eJ,eJ,fun i x hx=>?_,eJ,eJ,eJ,by simp [nL,lf,lu],kZ.of fun j x hx=>?_⟩
 ·obtain ⟨hl,rfl⟩:=List.getElem?_eq_some_iff.1 hx
  simp [uh] at hl
  simp [ee,lf,lu,hl]
 ·obtain ⟨hl,rfl⟩:=List.getElem?_eq_some_iff.1 hx
  exact ⟨.row 1 (aT l k j).length (aH (aJ (aX (aT l k j)))),by simp [dP],eJ⟩
theorem zI {v:Nat} {l:List Nd} {k:Nat} {es ds:List Int} {bs:List Bool} {env env':List (Nat×U)} {C:List (Option HB)} (he:fW (l.length+7) env env'):cI 1 ⟨env,pH v l k es ds bs++C⟩ ⟨env',pH v l k es ds bs⟩:=
 rG (by rw [zG];omega) (by rw [zG];exact KX) (by rw [zG];exact he)
theorem MT (v:Nat) (l:List Nd) {τ:Nat→Option Nat} (gw:∀ j,0<j→τ j=none):Fz τ (ag (pH v l l.length (qn l) (bI l l.length) (cq l l.length))) (.ptr 6 0) (cc l):=by
 refine .ptr 6 [.row 1 1 l.length,.row 2 0 l.length,.row 3 0 l.length,.row 4 0 l.length,.row 5 0 l.length] _ (gw _ (by decide)) rfl rfl (fun i r hr=>?_) (fun i x r hx hr=>?_)
 ·match i with
  | 0=>cases hr;rfl
  | 1=>cases hr;rfl
  | 2=>cases hr;rfl
  | 3=>cases hr;rfl
  | 4=>cases hr;rfl
  | i+5=>simp at hr
 ·match i with
  | 0=>cases hx;cases hr;exact mg rfl (gw _ (by decide)) (by simp [aQ]) (xb l)
  | 1=>
    cases hx;cases hr
    refine .row 2 1 0 l.length (ee l l.length) (gz l) (gw _ (by decide)) rfl (by simp [gz]) (by rw [uh];exact Nat.le_refl _) (fun i x r hx hr=>?_) (fun i r k q hr hq=>?_) (fun i x r k y q hx hr hy hq=>?_)
    ·obtain ⟨_,rfl⟩:=List.getElem?_eq_some_iff.1 hx
     obtain ⟨_,rfl⟩:=List.getElem?_eq_some_iff.1 hr
     simp [ee,gz]
    ·obtain ⟨_,rfl⟩:=List.getElem?_eq_some_iff.1 hr
     have:=List.mem_of_getElem? hq
     simp [gz] at this
     rw [this];rfl
    ·obtain ⟨hl,rfl⟩:=List.getElem?_eq_some_iff.1 hx
     obtain ⟨_,rfl⟩:=List.getElem?_eq_some_iff.1 hr
     rw [uh] at hl
     cases k with
     | succ k=>simp [ee] at hy
     | zero=>
       simp [ee] at hy
       simp [gz] at hq
       subst hy;subst hq
       refine mg (xs:=aJ (aX (dy l i))) ?_ (gw _ (by omega)) (by simp [aJ,aX,dy]) (mB _)
       have:=zM (k:=l.length) (C:=[]) hl
       rw [List.append_nil] at this
       exact this
  | 2=>cases hx;cases hr;exact mg rfl (gw _ (by decide)) (by simp [aJ,qn]) (mB _)
  | 3=>cases hx;cases hr;exact mg rfl (gw _ (by decide)) (by simp [aJ,bI]) (mB _)
  | 4=>cases hx;cases hr;exact mg rfl (gw _ (by decide)) (by simp [eH,cq]) (Bf _)
  | i+5=>simp at hx
theorem Fk (l:List Nd) (hb:l.length≤8589934592) (hc:eI l=0) (i0 v:Nat):aK Go.Proofs.Try.prog 9 [.row i0 v l.length] [(i0,.row 49 v (aH (aQ l)))] [] (.aM [.rv (cc l),.rv (.int .i64 0)]):=by
 refine lp Dl [i0] [.row 49 v (aH (aQ l))] [.row 49 v (aH (aQ l))] [.row 0 v l.length] [.row i0 v l.length] _ _ (by simp) (by simp [aP,fZ]) rfl (by simp [bM]) ⟨rfl,rfl,⟨rfl,_,rfl⟩,trivial⟩ (fun K hK=>?_)
 have hlen:=au l
 have Cl:=Fx l hb
 rw [hc] at Cl
 have oc:=DD (id:=0) (v:=v) (n:=l.length) (bs:=[]) Cl (.int _ _) (by simp [aQ]) (xb l)
 have ht:cN l=true:=by
  unfold eI at hc
  cases h:cN l with
  | true=>rfl
  | false=>rw [h] at hc;simp at hc
 have hs:cA l:=sD.1 (by unfold cN at ht;simp -implicitDefEqProofs only [Bool.and_eq_true] at ht;exact ht.1)
 have nj:(((0:Int)) != 0)=false:=rfl
 conv in fc _ _ _ _=>reduce
 simp -implicitDefEqProofs only [go_sem,Int.reduceNegSucc]
 have hb2:(aQ l).length≤8589934592:=by rw [hlen];exact hb
 have br:=oc;have y_2:=Pr l hb 0 v 1 (by decide);repeat' (first | (simp -implicitDefEqProofs only [go_sem,Int.reduceNegSucc,nj,hlen,uL,EX]) | (with_reducible refine aA ?_) | (refine cC br ?_ ?_ ?_;(focus (simp [aW,ag] <;> fail));(focus (simp [bk,aZ] <;> fail))) | (refine cZ br ?_ ?_ ?_;(focus (simp [aW,ag] <;> fail));(focus (simp [bk,aZ] <;> fail))) | (refine cC y_2 ?_ ?_ ?_;(focus (simp [aW,ag] <;> fail));(focus (simp [bk,aZ] <;> fail))) | (refine cZ y_2 ?_ ?_ ?_;(focus (simp [aW,ag] <;> fail));(focus (simp [bk,aZ] <;> fail))) | ((first | refine ai (fun hg=>?_) (fun hg=>?_) | refine aB (fun hg=>?_) (fun hg=>?_) | refine aC (fun hg=>?_) (fun hg=>?_)) <;> try simp -implicitDefEqProofs only [hg,Bool.not_true,Bool.not_false]) | ((with_reducible apply And.intro);focus (first | trivial | omega | decide | (simp -implicitDefEqProofs only [maxLen];omega) | (simp [maxLen,an,ak,au,az,aj,ay,ax] <;> omega))) | fail)
 have JP:∀ n:Nat,ee l 0=dB 7 l.length l.length:=fun _=>Dj l
 let ev:Nat→List (Nat×U):=fun k=>[(33,.rv (.int .i64 k)),(32,.rv (.int .i64 l.length)),(31,.row 0 v l.length),(5,.ptr 6 0),(0,.row 0 v l.length)]
 refine cK (ι:=Nat) (fun k=>[(33,.rv (.int .i64 k)),(32,.rv (.int .i64 l.length)),(31,.row 0 v l.length),(5,.ptr 6 0),(0,.row 0 v l.length)]) (fun k=>some (.row 49 v (aH (aQ l)))::some (.row 49 1 (aH (aQ l)))::some (.row 1 0 (ee l k))::some (.row 1 0 (aH (aJ (List.replicate l.length 0))))::some (.row 1 0 (aH (aJ (bI l k))))::some (.row 1 0 (aH (eH (cq l k))))::some (.var [.row 1 1 l.length,.row 2 0 l.length,.row 3 0 l.length,.row 4 0 l.length,.row 5 0 l.length])::dP l k) (fun k=>k≤l.length) (fun k=>l.length - k) 0 (by simp) ?_ (fun k hk K' hN hX hR=>?_)
 ·refine (bp (env':=[(33,.rv (.int .i64 0)),(32,.rv (.int .i64 l.length)),(31,.row 0 v l.length),(5,.ptr 6 0),(0,.row 0 v l.length)]) (by simp [lk])).trans ?_
  rw [Dj,Lh,yA,DU]
  exact BK (r:=2) (v:=0) (n:=l.length) (e:=1) rfl
 simp -implicitDefEqProofs only [go_sem,Int.reduceNegSucc]
 refine ai (fun hg=>?_) (fun hg=>?_)
 ·have av:k<l.length:=by simp at hg;omega
  have hx:=eX av
  have qJ:=lH l k
  have hdl:=rD l k
  have gd:=aj (bI l k)
  have nq:=fQ (l:=bI l k) (i:=k) (by omega)
  have hml:=DT l k
  have qC:=vl (cq l k)
  have qB:=ry (bs:=cq l k) (i:=k) (by omega)
  have hsh:=Az av
  have e1:(l.length=l.length+1)=False:=eq_false (by omega)
  have e2:(l.length=l.length+2)=False:=eq_false (by omega)
  have hds:=vK av
  have qx:=yz av
  have wu:=ct (k:=k) (by omega)
  by_cases cw:0<k
  ·have hgt:decide ((k:Int)>0)=true:=decide_eq_true (by omega)
   obtain ⟨p1,p2⟩:=hs.wf.2 k cw av
   obtain ⟨p,hp⟩:∃ p:Nat,aO l k=p:=⟨(aO l k).toNat,by omega⟩
   have dF:p<l.length:=by omega
   have q0:(p=l.length)=False:=eq_false (by omega)
   have q1:(p=l.length+1)=False:=eq_false (by omega)
   have q2:(p=l.length+2)=False:=eq_false (by omega)
   have hpk:=kz av
   have Jy:(bI l k).set k 1=(bI l k).set k 1:=rfl
   have qy:((bI l k).set k 1).length=l.length:=by simp [hdl]
   have tH:=aj ((bI l k).set k 1)
   have nr:=fQ (l:=(bI l k).set k 1) (i:=p) (by omega)
   have qw:=fQ (l:=(bI l k).set k 1) (i:=k) (by omega)
   rw [yy (by omega) (by omega)] at nr
   have oU:=yB hs.wf cw av
   rw [hp,Int.toNat_natCast] at oU
   have wd:=ct (k:=depth l p) (by have:=sn (l:=l) p;unfold depth;omega)
   rw [← oU] at wd
   obtain ⟨b,qH⟩:∃ b,gE l k=b:=⟨_,rfl⟩
   have hmp:=ry (bs:=(cq l k).set k b) (i:=p) (by simp [hml];omega)
   have hmk:=ry (bs:=(cq l k).set k b) (i:=k) (by simp [hml];omega)
   rw [DS (by omega) (by omega)] at hmp
   have tQ:((cq l k).set k b).length=l.length:=by simp [hml]
   have tT:=vl ((cq l k).set k b)
   have kQ:((cq l k).set k b).set k (b && dR l p)=cq l (k+1):=by
    have:=zV hs.wf cw av
    rw [hp,Int.toNat_natCast,qH] at this
    rw [List.set_set,← this,wV av]
   have mo:=uh l k
   have mm:=Dh (k:=k) dF
   have kP:=fun C=>zM (k:=k) (C:=C) dF
   have hkn:=Lc cw hp dF
   have htn:=Ll cw hp dF
   have hsp:=fun (y:Option HB) C=>Le (k:=k) (y:=y) (C:=C) dF
   have fE:(aX (aT l k p)).length=(aT l k p).length:=by simp [aX]
   have mj:=aj (aX (aT l k p))
   have nD:(aJ (aX (aT l k p))).take (aT l k p).length=aJ (aX (aT l k p)):=List.take_of_length_le (by rw [mj,fE];exact Nat.le_refl _)
   have hkk:=rX (l:=l) (k:=k) (p:=p)
   cases b
   all_goals simp -implicitDefEqProofs only [Bool.false_and,Bool.true_and] at kQ
   ·repeat' (first | (simp -implicitDefEqProofs only [go_sem,Int.reduceNegSucc,hlen,hx,qJ,ak,nG,zY,Nat.add_assoc,zK,List.append_assoc,hdl,gd,nq,hml,qC,qB,kU,sB,sg,hsh,qH,e1,e2,zO,hgt,hpk,hp,qM,mo,mm,kP,q0,q1,q2,hsp,Dd,Df,fE,mj,nD,sA,hkn,htn,qy,tH,nr,qw,wd,qx,wu,hmp,hmk,tQ,tT]) | (with_reducible refine aA ?_) | ((first | refine ai (fun hg=>?_) (fun hg=>?_) | refine aB (fun hg=>?_) (fun hg=>?_) | refine aC (fun hg=>?_) (fun hg=>?_)) <;> try simp -implicitDefEqProofs only [hg,Bool.not_true,Bool.not_false]) | ((with_reducible apply And.intro);focus (first | trivial | omega | decide | (simp -implicitDefEqProofs only [maxLen];omega) | (simp [maxLen,an,ak,au,az,aj,ay,ax] <;> omega) | (simp (decide:=true) [ni,oO,kM,nU,Nat.testBit,q0,q1,q2];done))) | fail)
    rw [kQ]
    exact hN (k+1) _ _ (by omega) (by omega) (zI (v:=v) (l:=l) (k:=k+1) (by simp [fW,lk,ng,nc,lu]))
   ·repeat' (first | (simp -implicitDefEqProofs only [go_sem,Int.reduceNegSucc,hlen,hx,qJ,ak,nG,zY,Nat.add_assoc,zK,List.append_assoc,hdl,gd,nq,hml,qC,qB,kU,sB,sg,hsh,qH,e1,e2,zO,hgt,hpk,hp,qM,mo,mm,kP,q0,q1,q2,hsp,Dd,Df,fE,mj,nD,sA,hkn,htn,qy,tH,nr,qw,wd,qx,wu,hmp,hmk,tQ,tT]) | (with_reducible refine aA ?_) | ((first | refine ai (fun hg=>?_) (fun hg=>?_) | refine aB (fun hg=>?_) (fun hg=>?_) | refine aC (fun hg=>?_) (fun hg=>?_)) <;> try simp -implicitDefEqProofs only [hg,Bool.not_true,Bool.not_false]) | ((with_reducible apply And.intro);focus (first | trivial | omega | decide | (simp -implicitDefEqProofs only [maxLen];omega) | (simp [maxLen,an,ak,au,az,aj,ay,ax] <;> omega) | (simp (decide:=true) [ni,oO,kM,nU,Nat.testBit,q0,q1,q2];done))) | fail)
    rw [kQ]
    exact hN (k+1) _ _ (by omega) (by omega) (zI (v:=v) (l:=l) (k:=k+1) (by simp [fW,lk,ng,nc,lu]))
  ·obtain rfl:k=0:=by omega
   have hgt:decide (((0:Nat):Int)>0)=false:=rfl
   rw [yC] at hds
   have kQ:=wV av
   rw [DR] at kQ
   have zb:(bI l 0).set 0 1=bI l (0+1):=hds
   repeat' (first | (simp -implicitDefEqProofs only [go_sem,Int.reduceNegSucc,hlen,hx,qJ,ak,nG,zY,Nat.add_assoc,zK,List.append_assoc,hdl,gd,nq,hml,qC,qB,kU,sB,sg,hsh,e1,e2,zO,hgt,wu,kQ,zb]) | (with_reducible refine aA ?_) | ((first | refine ai (fun hg=>?_) (fun hg=>?_) | refine aB (fun hg=>?_) (fun hg=>?_) | refine aC (fun hg=>?_) (fun hg=>?_)) <;> try simp -implicitDefEqProofs only [hg,Bool.not_true,Bool.not_false]) | ((with_reducible apply And.intro);focus (first | trivial | omega | decide | (simp -implicitDefEqProofs only [maxLen];omega) | (simp [maxLen,an,ak,au,az,aj,ay,ax] <;> omega))) | fail)
   refine hN 1 _ _ (by omega) (by omega) ?_
   rw [Lj,KZ]
   exact zI (v:=v) (l:=l) (k:=0) (es:=List.replicate l.length 0) (ds:=bI l (0+1)) (bs:=cq l (0+1)) (C:=[some (.var ((l[0]'av).cells.map .rv))]) (by simp [fW,lk,ng,nc,lu])
 ·have av:k=l.length:=by simp at hg;omega
  subst av
  simp -implicitDefEqProofs only [go_sem,Int.reduceNegSucc]
  refine hX _ _ _ ?_
  have wl:=sQ hs.pos (by omega)
  repeat' (first | (simp -implicitDefEqProofs only [go_sem,Int.reduceNegSucc,hlen,wl]) | (with_reducible refine aA ?_) | ((first | refine ai (fun hg=>?_) (fun hg=>?_) | refine aB (fun hg=>?_) (fun hg=>?_) | refine aC (fun hg=>?_) (fun hg=>?_)) <;> try simp -implicitDefEqProofs only [hg,Bool.not_true,Bool.not_false]) | ((with_reducible apply And.intro);focus (first | trivial | omega | decide | (simp -implicitDefEqProofs only [maxLen];omega) | (simp [maxLen,an,ak,au,az,aj,ay,ax] <;> omega))) | fail)
  clear hN hX hR
  refine cK (ι:=Nat) (fun k=>[(8,.rv (.int .i64 ((k:Int) - 1))),(5,.ptr 6 0)]) (fun k=>pH v l l.length (cU l k) (bI l l.length) (cq l l.length)) (fun k=>k≤l.length) (fun k=>k) l.length (Nat.le_refl _) (by rw [BH];exact bp (by simp [lk];have:=hs.pos;omega)) (fun k hk K' hN hX hR=>?_)
  simp -implicitDefEqProofs only [pH,go_sem,Int.reduceNegSucc]
  refine ai (fun hg=>?_) (fun hg=>?_)
  ·have cw:0<k:=by simp at hg;omega
   obtain ⟨j,rfl⟩:∃ j,k=j+1:=⟨k - 1,by omega⟩
   have ej:(((j+1:Nat):Int) - 1)=(j:Int):=by omega
   have wj:=ct (k:=j) (by omega)
   have hjl:j<l.length:=by omega
   have hel:=BF l (j+1)
   have tJ:=aj (cU l (j+1))
   have qz:=fQ (l:=cU l (j+1)) (i:=j) (by omega)
   have mo:=uh l l.length
   have mm:=Dh (k:=l.length) hjl
   have kP:=zM (k:=l.length) (C:=[]) hjl
   simp -implicitDefEqProofs only [List.append_nil] at kP
   have fE:(aX (aT l l.length j)).length=(aT l l.length j).length:=by simp [aX]
   have mj:=aj (aX (aT l l.length j))
   have hkk:=rX (l:=l) (k:=l.length) (p:=j)
   have lE:((cU l (j+1)).set j ((j+1:Nat):Int)).length=l.length:=by simp [hel]
   have zz:=aj ((cU l (j+1)).set j ((j+1:Nat):Int))
   have kR:=BG (l:=l) (k:=j+1) (by omega) (by omega)
   simp -implicitDefEqProofs only [Nat.add_sub_cancel] at kR
   have wd:IntKind.i64.wrap ((j:Int) - 1)=((j:Int) - 1):=wrap_i64 (by omega) (by omega)
   by_cases cz:aT l l.length j=[]
   ·have hm0:decide ((((aT l l.length j).length:Nat):Int)>0)=false:=by rw [cz];rfl
    have he:=yH cz
    rw [he] at kR
    repeat' (first | (simp -implicitDefEqProofs only [go_sem,Int.reduceNegSucc,hel,tJ,qz,mo,mm,kP,ej,wj,hm0,kU,kR,wd]) | (with_reducible refine aA ?_) | ((first | refine ai (fun hg=>?_) (fun hg=>?_) | refine aB (fun hg=>?_) (fun hg=>?_) | refine aC (fun hg=>?_) (fun hg=>?_)) <;> try simp -implicitDefEqProofs only [hg,Bool.not_true,Bool.not_false]) | ((with_reducible apply And.intro);focus (first | trivial | omega | decide | (simp -implicitDefEqProofs only [maxLen];omega) | (simp [maxLen,an,ak,au,az,aj,ay,ax] <;> omega))) | fail)
    refine hN j _ _ (by omega) (by omega) (bp (by simp [lk]))
   ·obtain ⟨c,hc⟩:∃ c,(aT l l.length j).getLast?=some c:=by
     cases h:(aT l l.length j).getLast? with
     | none=>exact absurd (List.getLast?_eq_none_iff.1 h) cz
     | some c=>exact ⟨c,rfl⟩
    have hpos:0<(aT l l.length j).length:=List.length_pos_iff.2 cz
    have hm0:decide ((((aT l l.length j).length:Nat):Int)>0)=true:=decide_eq_true (by omega)
    have tG:c∈dy l j:=List.mem_of_getLast? hc
    obtain ⟨c1,c2,c3⟩:=rZ.1 tG
    have yW:j<c:=by have:=(hs.wf.2 c c1 c2).2;omega
    have he:=yG hc yW c2
    rw [he] at kR
    have wm:=sQ hpos (by omega)
    have yV:(aX (aT l l.length j)).getD ((aT l l.length j).length - 1) 0=(c:Int):=by
     rw [List.getLast?_eq_getElem?] at hc
     simp [aX,List.getD_eq_getElem?_getD,hc]
    have eV:=fQ (l:=aX (aT l l.length j)) (i:=(aT l l.length j).length - 1) (by omega)
    rw [yV] at eV
    have tI:=fQ (l:=(cU l (j+1)).set j ((j+1:Nat):Int)) (i:=c) (by omega)
    have oe:=BE (l:=l) (k:=j+1) (j:=c) (v:=((j+1:Nat):Int)) (by omega) (by omega) c2
    simp -implicitDefEqProofs only [Nat.add_sub_cancel] at oe
    rw [oe] at tI
    have zf:=fQ (l:=(cU l (j+1)).set j ((j+1:Nat):Int)) (i:=j) (by omega)
    have qG:((cU l (j+1)).set j ((j+1:Nat):Int)).set j (dj l c)=cU l j:=by rw [List.set_set,kR]
    repeat' (first | (simp -implicitDefEqProofs only [go_sem,Int.reduceNegSucc,hel,tJ,qz,mo,mm,kP,ej,wj,hm0,kU,wd,wm,eV,tI,zf,qG,lE,zz,fE,mj]) | (with_reducible refine aA ?_) | ((first | refine ai (fun hg=>?_) (fun hg=>?_) | refine aB (fun hg=>?_) (fun hg=>?_) | refine aC (fun hg=>?_) (fun hg=>?_)) <;> try simp -implicitDefEqProofs only [hg,Bool.not_true,Bool.not_false]) | ((with_reducible apply And.intro);focus (first | trivial | omega | decide | (simp -implicitDefEqProofs only [maxLen];omega) | (simp [maxLen,an,ak,au,az,aj,ay,ax] <;> omega))) | fail)
    refine hN j _ _ (by omega) (by omega) (bp (by simp [lk]))
  ·obtain rfl:k=0:=by simp at hg;omega
   simp -implicitDefEqProofs only [go_sem,Int.reduceNegSucc]
   refine hX _ _ _ ?_
   repeat' (first | (simp -implicitDefEqProofs only [go_sem,Int.reduceNegSucc]) | (with_reducible refine aA ?_) | ((first | refine ai (fun hg=>?_) (fun hg=>?_) | refine aB (fun hg=>?_) (fun hg=>?_) | refine aC (fun hg=>?_) (fun hg=>?_)) <;> try simp -implicitDefEqProofs only [hg,Bool.not_true,Bool.not_false]) | ((with_reducible apply And.intro);focus (first | trivial | omega | decide | (simp -implicitDefEqProofs only [maxLen];omega) | (simp [maxLen,an,ak,au,az,aj,ay,ax] <;> omega))) | fail)
   refine (hK _ _ _ _ [] (dr _ _) ?_).2
   rw [BI]
   simp -implicitDefEqProofs only [dG,List.map_cons,List.map_nil,List.append_nil]
   refine ⟨by simp [bM],trivial,trivial,⟨?_,trivial⟩,trivial,bQ.2 ⟨?_,aS.2 rfl,trivial⟩⟩
   ·rw [show cQ (cW ([i0].zip [HB.row 49 v (aH (aQ l))]) i0) [] i0=some (HB.row 49 v (aH (aQ l))) from by simp [cQ,cW]]
    exact ⟨rfl,rfl,dH.2 rfl⟩
   ·exact .fz _ _ (MT v l (fun j hj=>by cases j with
     | zero=>omega
     | succ j=>rfl))
end Go.aI

namespace Go.aI
open Go
theorem Lt:aV Go.Proofs.Try.prog 18 13 (fc Go.Proofs.Try.prog 18 13 [(.c 0 48 true)]) [(.c 0 48 true)]:=bq (by kernel_rfl)
def zQ:List CK→List RV→Bool
 | [],[]=>true
 | .b::ks,.bool _::rs=>zQ ks rs
 | .i::ks,.int _ _::rs=>zQ ks rs
 | .s::ks,.str _::rs=>zQ ks rs
 | _,_=>false
def sj:aq:={ (default:aq) with shown:=true,pad:=⟨⟨1,0⟩,⟨1,0⟩,⟨1,0⟩,⟨1,0⟩⟩ }
def OC (k:Nat):aq:={ (default:aq) with shown:=true,pad:=⟨if 0<k then ⟨1,0⟩ else default,if 1<k then ⟨1,0⟩ else default,if 2<k then ⟨1,0⟩ else default,if 3<k then ⟨1,0⟩ else default⟩ }
theorem PJ:aK Go.Proofs.Try.prog 18 [] [] [] sj.sv:=by
 refine bG Lt [] _ (by simp) (by simp [aP,bh,bu,bg,bn,aq.sv,Ln.sv,Nd.sv]) (fun K hK=>?_)
 conv in fc _ _ _ _=>reduce
 simp -implicitDefEqProofs only [go_sem,Int.reduceNegSucc]
 repeat' (first | (simp -implicitDefEqProofs only [go_sem,Int.reduceNegSucc]) | (with_reducible refine aA ?_) | ((first | refine ai (fun hg=>?_) (fun hg=>?_) | refine aB (fun hg=>?_) (fun hg=>?_) | refine aC (fun hg=>?_) (fun hg=>?_)) <;> try simp -implicitDefEqProofs only [hg,Bool.not_true,Bool.not_false]) | ((with_reducible apply And.intro);focus (first | trivial | omega | decide | (simp -implicitDefEqProofs only [maxLen];omega) | (simp [maxLen,an,ak,au,az,aj,ay,ax] <;> omega) | (exact ⟨rfl,by decide⟩;done))) | fail)
 refine cK (ι:=Nat) (fun k=>[(4,.rv (.int .i64 k)),(0,.ptr 0 0),(1,.ptr 1 0)]) (fun k=>[some (.var ((default:aq).cells.map .rv)),some (.var ((OC k).cells.map .rv))]) (fun k=>k≤4) (fun k=>4 - k) 0 (by simp) (bp (by simp [lk])) (fun k hk K' hN hX hR=>?_)
 simp -implicitDefEqProofs only [go_sem,Int.reduceNegSucc]
 refine ai (fun hg=>?_) (fun hg=>?_)
 ·have:k=0∨k=1∨k=2∨k=3:=by simp at hg;omega
  rcases this with rfl | rfl | rfl | rfl
  all_goals
   repeat' (first | (simp -implicitDefEqProofs only [go_sem,Int.reduceNegSucc,an,ct (k:=0) (by decide),ct (k:=1) (by decide),ct (k:=2) (by decide),ct (k:=3) (by decide)]) | (with_reducible refine aA ?_) | ((first | refine ai (fun hg=>?_) (fun hg=>?_) | refine aB (fun hg=>?_) (fun hg=>?_) | refine aC (fun hg=>?_) (fun hg=>?_)) <;> try simp -implicitDefEqProofs only [hg,Bool.not_true,Bool.not_false]) | ((with_reducible apply And.intro);focus (first | trivial | omega | decide | (simp -implicitDefEqProofs only [maxLen];omega) | (simp [maxLen,an,ak,au,az,aj,ay,ax] <;> omega))) | fail)
  ·exact hN 1 _ _ (by omega) (by omega) (bp (by simp [lk]))
  ·exact hN 2 _ _ (by omega) (by omega) (bp (by simp [lk]))
  ·exact hN 3 _ _ (by omega) (by omega) (bp (by simp [lk]))
  ·exact hN 4 _ _ (by omega) (by omega) (bp (by simp [lk]))
 ·have av:k=4:=by simp at hg;omega
  subst av
  simp -implicitDefEqProofs only [go_sem,Int.reduceNegSucc]
  refine hX _ _ _ ?_
  repeat' (first | (simp -implicitDefEqProofs only [go_sem,Int.reduceNegSucc,an,gk]) | (with_reducible refine aA ?_) | ((first | refine ai (fun hg=>?_) (fun hg=>?_) | refine aB (fun hg=>?_) (fun hg=>?_) | refine aC (fun hg=>?_) (fun hg=>?_)) <;> try simp -implicitDefEqProofs only [hg,Bool.not_true,Bool.not_false]) | ((with_reducible apply And.intro);focus (first | trivial | omega | decide | (simp -implicitDefEqProofs only [maxLen];omega) | (simp [maxLen,an,ak,au,az,aj,ay,ax] <;> omega) | (rfl;done) | (exact ⟨rfl,by decide⟩;done))) | fail)
  exact (hK _ _ (Ar (rs:=sj.cells) rfl rfl rfl)).2
theorem Ej:eI [⟨sj,-1⟩]=0:=by decide +kernel
end Go.aI

namespace Go.aI
open Go
theorem Lw:aV Go.Proofs.Try.prog 7 28 (fc Go.Proofs.Try.prog 7 28 [(.t 0)]) [(.t 0)]:=bq (by kernel_rfl)
theorem NZ:(nQ [⟨sj,-1⟩] 0 640 ⟨false,480⟩ false).map (·.1.w)=some 640:=by decide +kernel
theorem xJ:aK Go.Proofs.Try.prog 7 [] [] [] (.rv (.bool true)):=by
 refine bG Lw [] _ (by simp) (by simp [aP,bh,bu,bg,bn,aq.sv,Ln.sv,Nd.sv]) (fun K hK=>?_)
 have hk:=Fk [⟨sj,-1⟩] (by decide) Ej 0 0
 have hb:=AB [⟨sj,-1⟩] (xN (Bp Ej)) (by decide) 0 640 ⟨false,480⟩ false
 obtain ⟨q,hq,hw⟩:=Option.map_eq_some_iff.1 NZ
 rw [hq] at hb
 obtain ⟨f,t⟩:=q
 have e0:((0:Int) != 0)=false:=rfl
 have q1:f.cells.length=25:=rfl
 have q2:(f.cells.map U.rv).take 25=f.cells.map U.rv:=rfl
 have q3:(f.cells.map U.rv).drop 25=[]:=rfl
 have q4:(f.cells.map U.rv)[2]?=some (.rv (.int .i64 f.w)):=rfl
 simp only at hw
 have e1:(f.w == 640)=true:=by simp [hw]
 simp -implicitDefEqProofs only [lg,fj,cM,Option.map,Option.isSome,Pl.cells,List.map_cons,List.map_nil,List.cons_append,List.nil_append,Sz.sv,Sz.cells] at hb
 conv in fc _ _ _ _=>reduce
 simp -implicitDefEqProofs only [go_sem,Int.reduceNegSucc]
 have br:=PJ;repeat' (first | (simp -implicitDefEqProofs only [go_sem,Int.reduceNegSucc,an]) | (with_reducible refine aA ?_) | (with_reducible first | refine aF br ?_ | refine aG br ?_) | ((first | refine ai (fun hg=>?_) (fun hg=>?_) | refine aB (fun hg=>?_) (fun hg=>?_) | refine aC (fun hg=>?_) (fun hg=>?_)) <;> try simp -implicitDefEqProofs only [hg,Bool.not_true,Bool.not_false]) | ((with_reducible apply And.intro);focus (first | trivial | omega | decide | (simp -implicitDefEqProofs only [maxLen];omega) | (simp [maxLen,an,ak,au,az,aj,ay,ax] <;> omega))) | fail)
 refine cC hk (OE rfl) trivial ?_
 have y_2:=hb;repeat' (first | (simp -implicitDefEqProofs only [go_sem,Int.reduceNegSucc,e0,q1,q2,q3,q4,e1,List.append_nil]) | (with_reducible refine aA ?_) | (with_reducible first | refine aF y_2 ?_ | refine aG y_2 ?_) | ((first | refine ai (fun hg=>?_) (fun hg=>?_) | refine aB (fun hg=>?_) (fun hg=>?_) | refine aC (fun hg=>?_) (fun hg=>?_)) <;> try simp -implicitDefEqProofs only [hg,Bool.not_true,Bool.not_false]) | ((with_reducible apply And.intro);focus (first | trivial | omega | decide | (simp -implicitDefEqProofs only [maxLen];omega) | (simp [maxLen,an,ak,au,az,aj,ay,ax] <;> omega))) | fail)
 exact (hK _ _ (bP rfl)).2
end Go.aI

namespace Go.aI
open Go
def bt (l:List Nd) (n:Nat):Bool:=dR l n && (aN l n).all fun m=>!(decide (0<m) && eu l m)
def kF (l:List Nd):List Nat:=(List.range l.length).filter (bt l)
def rk (l:List Nd) (n:Nat):Nat:=((List.range n).filter (bt l)).length
def rY (l:List Nd) (n:Nat):Nd:=⟨(l.getD n default).s,if n=0 then -1 else (rk l (aO l n).toNat:Int)⟩
def cJ (l:List Nd):List Nd:=(kF l).map (rY l)
theorem qL {l:List Nd} {n:Nat} (h:n<l.length):eL l n=dR l n:=by simp [eL,ua h]
theorem Ol {l:List Nd} {n:Int}:(decide (0<n) && eu l n)=eu l n:=by
 unfold eu
 by_cases h:0<n
 ·simp [h]
 ·have:¬ n>0:=h
  simp [this]
theorem MK {l:List Nd}:bt l 0=dR l 0:=by simp [bt,qV]
theorem uk {l:List Nd} (hs:cA l) {n:Nat} (h0:0<n) (hn:n<l.length):bt l n=(bt l (aO l n).toNat && fV l n):=by
 have h1:=zV hs.wf h0 hn
 have h2:=hs.up n h0 hn
 unfold bt
 rw [lP ⟨h2.1,h2.2.1⟩,List.all_cons,fV,qL hn,h1]
 have:decide (0<n)=true:=decide_eq_true h0
 rw [this]
 cases gE l n <;> cases dR l (aO l n).toNat <;> cases eu l n <;> simp
theorem uj {l:List Nd} (hs:cA l) {n:Nat} (h0:0<n) (hn:n<l.length) (hk:bt l n=true):bt l (aO l n).toNat=true:=by
 rw [uk hs h0 hn,Bool.and_eq_true] at hk;exact hk.1
theorem Dr {l:List Nd} (hs:cA l) {n:Nat} (h0:0<n) (hn:n<l.length) (hk:bt l n=true):fV l n=true:=by
 rw [uk hs h0 hn,Bool.and_eq_true] at hk;exact hk.2
theorem sw (l:List Nd):rk l 0=0:=rfl
theorem xB {l:List Nd} {n:Nat}:rk l (n+1)=rk l n+if bt l n=true then 1 else 0:=by
 unfold rk
 rw [List.range_succ,List.filter_append,List.length_append]
 congr 1
 by_cases h:bt l n=true <;> simp [h]
theorem EG {l:List Nd} {m n:Nat} (h:m≤n):rk l m≤rk l n:=by
 induction n with
 | zero=>obtain rfl:m=0:=by omega
         exact Nat.le_refl _
 | succ n ih=>
   rcases Nat.lt_or_ge m (n+1) with h1 | h1
   ·have:=ih (by omega)
    rw [xB];omega
   ·obtain rfl:m=n+1:=by omega
    exact Nat.le_refl _
theorem oz {l:List Nd} {m n:Nat} (h:m<n) (hk:bt l m=true):rk l m<rk l n:=by
 have:=EG (l:=l) (m:=m+1) (n:=n) h
 rw [xB,if_pos hk] at this
 omega
theorem ON {l:List Nd} {m n:Nat} (hm:bt l m=true) (hn:bt l n=true) (h:rk l m=rk l n):m=n:=by
 rcases Nat.lt_trichotomy m n with h1 | h1 | h1
 ·have:=oz h1 hm;omega
 ·exact h1
 ·have:=oz h1 hn;omega
theorem uK {l:List Nd} {n:Nat} (h0:bt l 0=true):0<rk l n↔0<n:=by
 constructor
 ·intro h
  rcases Nat.eq_zero_or_pos n with h1 | h1
  ·subst h1;rw [sw] at h;omega
  ·exact h1
 ·intro h
  have:=oz h h0
  omega
theorem wR {l:List Nd} {n:Nat} (hn:n<l.length) (hk:bt l n=true):(kF l)[rk l n]?=some n:=by
 unfold kF rk
 have e:List.range l.length=List.range n++n::(List.range l.length).drop (n+1):=by
  have h1:=(List.take_append_drop n (List.range l.length)).symm
  rw [List.drop_eq_getElem_cons (by simpa using hn),List.take_range,Nat.min_eq_left (by omega)] at h1
  simpa only [List.getElem_range] using h1
 rw [e,List.filter_append,List.filter_cons,if_pos hk,List.getElem?_append_right (Nat.le_refl _)]
 simp
theorem Dw (l:List Nd):(kF l).length=rk l l.length:=rfl
theorem uw (l:List Nd):(cJ l).length=rk l l.length:=by simp [cJ,Dw]
theorem qW {l:List Nd} {n:Nat} (hn:n<l.length) (hk:bt l n=true):rk l n<(cJ l).length:=by
 rw [uw];exact oz hn hk
theorem DF {l:List Nd} {n:Nat} (hn:n<l.length) (hk:bt l n=true):(cJ l)[rk l n]?=some (rY l n):=by
 simp [cJ,wR hn hk]
theorem wT {l:List Nd} {j:Nat} (h:j<(cJ l).length):∃ n,n<l.length∧bt l n=true∧rk l n=j:=by
 have hj:j<(kF l).length:=by simpa [cJ] using h
 have hm:=List.getElem_mem hj
 obtain ⟨h1,h2⟩:=List.mem_filter.1 hm
 refine ⟨(kF l)[j],by simpa using h1,h2,?_⟩
 have h3:=wR (by simpa using h1) h2
 obtain ⟨h4,h5⟩:=List.getElem?_eq_some_iff.1 h3
 have oY:(kF l).Nodup:=List.Pairwise.filter _ List.nodup_range
 exact (List.getElem_inj oY).1 h5
theorem ux {l:List Nd} {n:Nat} (hn:n<l.length) (hk:bt l n=true):aO (cJ l) (rk l n)=if n=0 then -1 else (rk l (aO l n).toNat:Int):=by
 unfold aO
 rw [List.getD_eq_getElem?_getD,DF hn hk];rfl
theorem DJ {l:List Nd} {n:Nat} (hn:n<l.length) (hk:bt l n=true):((cJ l).getD (rk l n) default).s=(l.getD n default).s:=by
 rw [List.getD_eq_getElem?_getD,DF hn hk];rfl
theorem zR {l:List Nd} (hs:cA l) (h0:bt l 0=true):∀ n,n<l.length→bt l n=true→aN (cJ l) (rk l n)=(aN l n).map (rk l):=by
 intro n
 induction n using Nat.strongRecOn with
 | _ n ih=>
   intro hn hk
   rcases Nat.eq_zero_or_pos n with h | h
   ·subst h
    rw [sw,qV,qV];rfl
   ·obtain ⟨p1,p2,_⟩:=hs.up n h hn
    have hp:=uj hs h hn hk
    have rS:=ux hn hk
    rw [if_neg (by omega)] at rS
    have hlt:rk l (aO l n).toNat<rk l n:=oz (by omega) hp
    rw [lP ⟨p1,p2⟩,lP (l:=cJ l) (by rw [rS];omega),rS,Int.toNat_natCast,ih _ (by omega) (by omega) hp,List.map_cons]
theorem DI {l:List Nd} (hs:cA l) (h0:bt l 0=true):cA (cJ l):=by
 have hpos:=hs.pos
 refine ⟨?_,?_,fun j j0 jl=>?_⟩
 ·have:=qW hpos h0;omega
 ·have:=ux hpos h0
  rw [sw] at this
  simpa using this
 ·obtain ⟨n,hn,hk,rfl⟩:=wT jl
  have n0:0<n:=(uK h0).1 j0
  obtain ⟨p1,p2,_⟩:=hs.up n n0 hn
  have hp:=uj hs n0 hn hk
  have hlt:rk l (aO l n).toNat<rk l n:=oz (by omega) hp
  rw [ux hn hk,if_neg (by omega),Int.toNat_natCast]
  refine ⟨by omega,by omega,?_⟩
  obtain ⟨m,hm,hkm,Kg⟩:=wT (l:=l) (j:=rk l n - 1) (by omega)
  have hmn:m<n:=by
   rcases Nat.lt_or_ge m n with h | h
   ·exact h
   ·have:=EG (l:=l) h;omega
  have Kc:(aO l n).toNat≤m:=by
   rcases Nat.lt_or_ge m (aO l n).toNat with h | h
   ·have:=oz h hkm;omega
   ·exact h
  rw [← Kg,zR hs h0 m hm hkm]
  refine List.mem_map.2 ⟨_,?_,rfl⟩
  exact hs.xZ n m hn ((ow hs.wf n0 hn).2 (.inr uA)) Kc (by omega)
theorem Bo {l:List Nd}:eI l=0↔cN l=true∧l.length≤65535∧(∀ k,k<l.length→depth l k≤256)∧∀ x∈l,fI x.s=true:=by
 unfold eI
 cases ht:cN l with
 | false=>simp
 | true=>
   simp -implicitDefEqProofs only [Bool.true_eq_false,if_false]
   constructor
   ·intro h
    split at h
    ·simp at h
    ·rename_i hn
     simp -implicitDefEqProofs only [Bool.or_eq_true,decide_eq_true_eq,List.any_eq_true,List.mem_range,Bool.not_eq_true',not_or,not_exists,not_and,Bool.not_eq_false] at hn
     exact ⟨trivial,by omega,fun k hk=>by have:=hn.1.2 k hk;omega,fun x hx=>hn.2 x hx⟩
   ·rintro ⟨_,h1,h2,h3⟩
    rw [if_neg]
    simp -implicitDefEqProofs only [Bool.or_eq_true,decide_eq_true_eq,List.any_eq_true,List.mem_range,Bool.not_eq_true',not_or,not_exists,not_and,Bool.not_eq_false]
    exact ⟨⟨by omega,fun k hk=>by have:=h2 k hk;omega⟩,h3⟩
theorem DH {l:List Nd} {x:Nd} (h:x∈cJ l):∃ n,n<l.length∧x=rY l n∧(l.getD n default)∈l:=by
 obtain ⟨n,hn,rfl⟩:=List.mem_map.1 h
 have hl:n<l.length:=by simpa using (List.mem_filter.1 hn).1
 refine ⟨n,hl,rfl,?_⟩
 rw [List.getD_eq_getElem?_getD,List.getElem?_eq_getElem hl]
 exact List.getElem_mem hl
theorem At (l:List Nd) (n:Nat):rk l n≤n:=by
 have:=List.length_filter_le (bt l) (List.range n)
 simpa [rk] using this
theorem Nm {l:List Nd} (hc:eI l=0) (h0:bt l 0=true):eI (cJ l)=0:=by
 obtain ⟨h1,h2,h3,h4⟩:=Bo.1 hc
 have hs:=xN h1
 refine Bo.2 ⟨?_,?_,fun j hj=>?_,fun x hx=>?_⟩
 ·have hsh:=sD.2 (DI hs h0)
  unfold cN at h1 ⊢
  rw [Bool.and_eq_true] at h1 ⊢
  refine ⟨hsh,List.all_eq_true.2 fun x hx=>?_⟩
  obtain ⟨n,_,rfl,hm⟩:=DH hx
  exact List.all_eq_true.1 h1.2 (l.getD n default) hm
 ·rw [uw];have:=At l l.length;omega
 ·obtain ⟨n,hn,hk,rfl⟩:=wT hj
  unfold depth
  rw [zR hs h0 n hn hk,List.length_map]
  exact h3 n hn
 ·obtain ⟨n,_,rfl,hm⟩:=DH hx
  exact h4 (l.getD n default) hm
theorem Np {l:List Nd} {n:Nat} (hn:n<l.length) (hk:bt l n=true):gE (cJ l) (rk l n)=gE l n:=by
 unfold gE;rw [DJ hn hk]
theorem MJ {l:List Nd} (hs:cA l):∀ n,n<l.length→bt l n=true→∀ m∈aN l n,bt l m=true∧m<l.length:=by
 intro n
 induction n using Nat.strongRecOn with
 | _ n ih=>
   intro hn hk m hm
   rcases Nat.eq_zero_or_pos n with h | h
   ·subst h;rw [DV] at hm;subst hm;exact ⟨hk,hn⟩
   ·have hu:=hs.up n h hn
    rcases (ow hs.wf h hn).1 hm with rfl | h2
    ·exact ⟨hk,hn⟩
    ·exact ih _ (by omega) (by omega) (uj hs h hn hk) m h2
theorem Dq {l:List Nd} {n:Nat} (hk:bt l n=true):dR l n=true:=by
 unfold bt at hk;rw [Bool.and_eq_true] at hk;exact hk.1
theorem DG {l:List Nd} (hs:cA l) (h0:bt l 0=true) {n:Nat} (hn:n<l.length) (hk:bt l n=true):dR (cJ l) (rk l n)=true:=by
 have h1:=Dq hk
 unfold dR at h1 ⊢
 rw [zR hs h0 n hn hk,List.all_map,List.all_eq_true]
 rw [List.all_eq_true] at h1
 intro m hm
 obtain ⟨k1,k2⟩:=MJ hs n hn hk m hm
 show gE (cJ l) (rk l m)=true
 rw [Np k2 k1];exact h1 m hm
theorem zS {l:List Nd} {n:Nat} (hn:n<l.length) (hk:bt l n=true):cr (cJ l) (rk l n)=cr l n:=by
 unfold cr
 rw [ua (qW hn hk),ua hn]
 simp -implicitDefEqProofs only [if_true,Int.toNat_natCast]
 exact DJ hn hk
theorem Nq {l:List Nd} (hs:cA l) (h0:bt l 0=true) {n:Nat} (n0:0<n) (hn:n<l.length) (hk:bt l n=true):fV (cJ l) (rk l n)=true:=by
 have h1:=DG hs h0 hn hk
 have h2:=Dr hs n0 hn hk
 unfold fV at h2 ⊢
 rw [qL (qW hn hk),h1]
 rw [Bool.and_eq_true] at h2
 have h3:=h2.2
 unfold eu at h3 ⊢
 rw [h2.1] at h3
 rw [qL (qW hn hk),h1,zS hn hk]
 have g1:((n:Int)>0)=True:=eq_true (by omega)
 have g2:((rk l n:Int)>0)=True:=eq_true (by have:=(uK h0 (n:=n)).2 n0;omega)
 simp -implicitDefEqProofs only [g1,g2,decide_true,Bool.and_true,Bool.true_and] at h3 ⊢
 exact h3
theorem MO (l:List Nd):(kF l).map (rk l)=List.range (cJ l).length:=by
 refine List.ext_getElem (by simp [cJ]) fun j h1 h2=>?_
 simp -implicitDefEqProofs only [List.getElem_map,List.getElem_range]
 have hj:j<(kF l).length:=by simpa using h1
 have hm:=List.mem_filter.1 (List.getElem_mem hj)
 obtain ⟨n,hn,hk,hr⟩:=wT (l:=l) (j:=j) (by simpa using h2)
 have:=wR hn hk
 rw [hr,List.getElem?_eq_getElem hj] at this
 cases this
 exact hr
theorem No {l:List Nd} (hs:cA l) (h0:bt l 0=true) {n:Nat} (hn:n<l.length) (hk:bt l n=true):cB (cJ l) (rk l n)=(cB l n).map (rk l):=by
 unfold cB eK
 rw [ua (qW hn hk),ua hn]
 simp -implicitDefEqProofs only [if_true,Int.toNat_natCast]
 unfold dy aT
 rw [← MO,List.filter_map,List.filter_map]
 congr 1
 unfold kF
 rw [List.filter_filter,List.filter_filter,List.filter_filter]
 refine List.filter_congr fun m hm=>?_
 have hm:m<l.length:=by simpa using hm
 cases hkm:bt l m with
 | false=>
   simp -implicitDefEqProofs only [Bool.and_false]
   symm
   rw [Bool.eq_false_iff]
   intro hc
   simp -implicitDefEqProofs only [Bool.and_eq_true,decide_eq_true_eq] at hc
   obtain ⟨c1,c2,c3⟩:=hc
   rw [uk hs c2 hm,c3,Int.toNat_natCast,hk,c1] at hkm
   cases hkm
 | true=>
   simp -implicitDefEqProofs only [Function.comp,Bool.and_true]
   rw [Bool.eq_iff_iff]
   simp -implicitDefEqProofs only [Bool.and_eq_true,decide_eq_true_eq]
   constructor
   ·rintro ⟨c1,c2,c3⟩
    have m0:=(uK h0).1 c2
    have hu:=hs.up m m0 hm
    have hp:=uj hs m0 hm hkm
    rw [ux hm hkm,if_neg (by omega)] at c3
    have:=ON hp hk (by omega)
    exact ⟨Dr hs m0 hm hkm,m0,by omega⟩
   ·rintro ⟨c1,c2,c3⟩
    refine ⟨Nq hs h0 c2 hm hkm,(uK h0).2 c2,?_⟩
    rw [ux hm hkm,if_neg (by omega),c3,Int.toNat_natCast]
end Go.aI

namespace Go.aI
open Go
def nI (g:Nat→Nat) (L:List (Nat×Fm)):List (Nat×Fm):=L.map fun q=>(g q.1,q.2)
def mL (g:Nat→Nat) (t:La):La:={ t with L:=nI g t.L }
def mK (g:Nat→Nat) (q:Fm×La):Fm×La:=(q.1,mL g q.2)
def pQ (g:Nat→Nat) (r:Nat×Fm×La):Nat×Fm×La:=(g r.1,mK g r.2)
theorem EK {g:Nat→Nat} {bx ta:Nat→Option (Fm×La)}:∀ {ks:List Nat},(∀ m∈ks,ta (g m)=(bx m).map (mK g))→gj ta (ks.map g)=(gj bx ks).map (List.map (pQ g))
 | [],_=>rfl
 | m::ks,h=>by
   have ih:=EK (ks:=ks) (fun x hx=>h x (.tail _ hx))
   simp -implicitDefEqProofs only [List.map_cons,gj,h m (.head _)]
   cases bx m with
   | none=>rfl
   | some q=>
     simp -implicitDefEqProofs only [Option.map_some,ih,Option.map_map]
     rfl
theorem Hq {g:Nat→Nat} (rs:List (Nat×Fm×La)):eA (rs.map (pQ g))=eA rs:=by
 simp [eA,pQ,mK]
theorem GJ {g:Nat→Nat} (r:Nat×Fm×La):gq (pQ g r)=nI g (gq r):=by
 simp [gq,pQ,mK,mL,nI]
theorem Al {g:Nat→Nat}:∀ (rs:List (Nat×Fm×La)) (ys:List Int),dz (rs.map (pQ g)) ys=nI g (dz rs ys)
 | [],_=>rfl
 | r::rs,[]=>by
   rw [List.map_cons,dz,dz,Al rs [],GJ]
   simp [nI]
 | r::rs,y::ys=>by
   rw [List.map_cons,dz,dz,Al rs ys]
   simp [nI,pQ,mK,mL]
theorem MW {g:Nat→Nat} (rs:List (Nat×Fm×La)) (q:Pl×List Int) (ob:Bool):ou (rs.map (pQ g)) q ob=mL g (ou rs q ob):=by
 simp -implicitDefEqProofs only [ou,Al,mL]
theorem KD {g:Nat→Nat} {bx ta:Nat→Option (Fm×La)} {ks:List Nat} {ok ot ob:Bool} (h:∀ m∈ks,ta (g m)=(bx m).map (mK g)):gx ta (ks.map g) ok ot ob=((gx bx ks ok ot ob).1.map (mL g),(gx bx ks ok ot ob).2):=by
 unfold gx
 rw [EK h]
 cases ok with
 | false=>rfl
 | true=>
   simp -implicitDefEqProofs only [if_true]
   cases gj bx ks with
   | none=>rfl
   | some rs=>
     simp -implicitDefEqProofs only [Option.map_some,Hq]
     cases lS (eA rs) ot with
     | none=>rfl
     | some q=>
       simp -implicitDefEqProofs only [MW]
       split <;> rfl
theorem HI {g:Nat→Nat} {e:Ed} {x:Ao} {kids:Nat} {r:Option La×Bool}:nX e x kids (r.1.map (mL g),r.2)=(nX e x kids r).map (mK g):=by
 obtain ⟨r1,r2⟩:=r
 unfold nX
 cases r2 with
 | false=>rfl
 | true=>
   cases r1 with
   | none=>rfl
   | some t=>
     simp -implicitDefEqProofs only [if_true,Option.map_some,Option.bind]
     have:nv e (mL g t)=nv e t:=rfl
     rw [this]
     split
     ·rfl
     ·rfl
theorem Nn {l:List Nd} (h0:bt l 0=true) {n:Nat} (hn:n<l.length) (hk:bt l n=true) (w:Int) (h:Sz):dN (cJ l) (rk l n) w h=dN l n w h:=by
 unfold dN
 rw [zS hn hk]
 have:decide ((rk l n:Int)=0)=decide ((n:Int)=0):=by
  have:=uK h0 (n:=n)
  rw [decide_eq_decide];omega
 rw [this]
theorem DE {l:List Nd} (hs:cA l) (h0:bt l 0=true):∀ (d n d':Nat) (w:Int) (h:Sz) (bK:Bool),n<l.length→bt l n=true→l.length<n+d→(cJ l).length<rk l n+d'→kf (cJ l) d' (rk l n) w h bK=(kf l d n w h bK).map (mK (rk l))
 | 0,n,d',w,h,bK,hn,hk,hd,hd'=>by omega
 | d+1,n,0,w,h,bK,hn,hk,hd,hd'=>by have:=qW hn hk;omega
 | d+1,n,d'+1,w,h,bK,hn,hk,hd,hd'=>by
   have ze:=Nn h0 hn hk w h
   have hfl:=No hs h0 hn hk
   have hst:=zS hn hk
   show oJ (cJ l) (qI (cJ l) (kf (cJ l) d') (rk l n)) (rk l n) w h bK=(oJ l (qI l (kf l d) n) n w h bK).map (mK (rk l))
   have hok:okB (cJ l) (rk l n) w h=okB l n w h:=by unfold okB;rw [ze,hst]
   have wg:nN (cJ l) (rk l n) w h bK=nN l n w h bK:=by unfold nN;rw [ze,hst]
   unfold oJ
   rw [hok,wg,ze,hfl,List.length_map]
   split
   ·cases oG (nN l n w h bK) with
    | none=>rfl
    | some x=>
      simp -implicitDefEqProofs only [Option.bind]
      rw [← HI]
      congr 1
      unfold qI
      rw [hfl,hst]
      refine KD fun m hm=>?_
      obtain ⟨m0,ml,mp⟩:=nY hm
      have hu:=hs.up m m0 ml
      have hkm:bt l m=true:=by
       rw [uk hs m0 ml,mp,Int.toNat_natCast,hk]
       have:=(List.mem_filter.1 hm).2
       simpa using this
      have hlt:=oz (show n<m by omega) hk
      exact DE hs h0 d m d' _ _ _ ml hkm (by omega) (by omega)
   ·rfl
theorem Nl {l:List Nd} (hs:cA l) (h0:bt l 0=true) (w:Int) (h:Sz) (bK:Bool):nQ (cJ l) 0 w h bK=(nQ l 0 w h bK).map (mK (rk l)):=by
 have hpos:=hs.pos
 have hm:eL l 0=true:=by
  have:=qL hpos
  rw [show ((0:Nat):Int)=0 from rfl] at this
  rw [this];exact Dq h0
 have hm':eL (cJ l) 0=true:=by
  have h1:=DG hs h0 hpos h0
  have h2:=qL (qW hpos h0)
  rw [sw] at h1 h2
  rw [show ((0:Nat):Int)=0 from rfl] at h2
  rw [h2];exact h1
 unfold nQ
 rw [hm,hm']
 have:=DE hs h0 (l.length+1) 0 ((cJ l).length+1) w h bK hpos h0 (by omega) (by omega)
 rw [sw] at this
 split
 ·exact this
 ·rfl
end Go.aI

namespace Go.aI
open Go
theorem EC:∀ (rs:List (Nat×Fm×La)) (ys:List Int),(dz rs ys).map (·.1)=(bT rs).map (·.1)
 | [],_=>rfl
 | r::rs,[]=>by rw [xy]
 | r::rs,y::ys=>by
   have:=EC rs ys
   rw [dz]
   simp -implicitDefEqProofs only [List.map_cons,List.map_append,this]
   simp [bT,gq]
theorem EJ {bx:Nat→Option (Fm×La)}:∀ {ks:List Nat} {rs:List (Nat×Fm×La)},gj bx ks=some rs→∀ q∈bT rs,∃ m∈ks,∃ z,bx m=some z∧(q.1=m∨q∈z.2.L)
 | [],rs,h,q,hq=>by cases h;simp [bT] at hq
 | m::ks,rs,h,q,hq=>by
   rw [gj] at h
   split at h
   ·rename_i z hz
    rw [Option.map_eq_some_iff] at h
    obtain ⟨rs',h1,rfl⟩:=h
    have hq:q∈gq (m,z)++bT rs':=hq
    rcases List.mem_append.1 hq with hq | hq
    ·rcases List.mem_cons.1 hq with rfl | hq
     ·exact ⟨m,.head _,z,hz,.inl rfl⟩
     ·exact ⟨m,.head _,z,hz,.inr hq⟩
    ·obtain ⟨a,b,c,d,e⟩:=EJ h1 q hq
     exact ⟨a,.tail _ b,c,d,e⟩
   ·cases h
theorem Bh {l:List Nd} (hs:cA l):∀ (d n:Nat) (w:Int) (h:Sz) (bK:Bool) (z:Fm×La),n<l.length→bt l n=true→kf l d n w h bK=some z→∀ q∈z.2.L,q.1<l.length∧bt l q.1=true
 | 0,_,_,_,_,_,_,_,h=>by cases h
 | d+1,n,w,h,bK,z,hn,hk,hz=>by
   intro q hq
   obtain ⟨x,_,_,hi,_⟩:=Bg hz
   obtain ⟨rs,y,h1,h2,h3⟩:=CT (t:=z.2) (by rw [show gx _ _ _ _ _=qI l (kf l d) n (dN l n w h) x from rfl,hi])
   rw [h3] at hq
   have gh:q.1∈(dz rs y.2).map (·.1):=List.mem_map.2 ⟨q,hq,rfl⟩
   rw [EC] at gh
   obtain ⟨q',ck,he⟩:=List.mem_map.1 gh
   obtain ⟨m,hm,v,hv,ho⟩:=EJ h1 q' ck
   obtain ⟨m0,ml,mp⟩:=nY hm
   have hkm:bt l m=true:=by
    rw [uk hs m0 ml,mp,Int.toNat_natCast,hk]
    have:=(List.mem_filter.1 hm).2
    simpa using this
   rw [← he]
   rcases ho with ho | ho
   ·rw [ho];exact ⟨ml,hkm⟩
   ·exact Bh hs d m _ _ _ v ml hkm hv q' ho
def dV (l:List Nd) (k:Nat):List Int:=(List.range l.length).map fun j=>if j<k∧bt l j=true then (rk l j:Int) else 0
theorem AY (l:List Nd) (k:Nat):(dV l k).length=l.length:=by simp [dV]
theorem GC (l:List Nd):dV l 0=List.replicate l.length 0:=by
 refine List.ext_getElem (by simp [dV]) fun j h1 h2=>?_
 simp [dV]
theorem GB {l:List Nd} {k:Nat} (hk:k<l.length) (h:bt l k=true):(dV l k).set k (rk l k:Int)=dV l (k+1):=by
 refine List.ext_getElem (by simp [dV]) fun j h1 h2=>?_
 rw [List.getElem_set]
 simp -implicitDefEqProofs only [dV,List.getElem_map,List.getElem_range]
 by_cases e:k=j
 ·subst e;rw [if_pos rfl,if_pos ⟨by omega,h⟩]
 ·rw [if_neg e]
  have:(j<k∧bt l j=true)↔(j<k+1∧bt l j=true):=by constructor <;> rintro ⟨a,b⟩ <;> exact ⟨by omega,b⟩
  simp -implicitDefEqProofs only [this]
theorem GA {l:List Nd} {k:Nat} (h:bt l k=false):dV l (k+1)=dV l k:=by
 unfold dV
 refine List.map_congr_left fun j _=>?_
 have:(j<k+1∧bt l j=true)↔(j<k∧bt l j=true):=by
  constructor
  ·rintro ⟨a,b⟩
   rcases Nat.lt_or_ge j k with c | c
   ·exact ⟨c,b⟩
   ·obtain rfl:j=k:=by omega
    rw [h] at b;cases b
  ·rintro ⟨a,b⟩;exact ⟨by omega,b⟩
 simp -implicitDefEqProofs only [this]
theorem Gz {l:List Nd} {k p:Nat} (hp:p<k) (hl:p<l.length) (h:bt l p=true):(aJ (dV l k))[p]?.getD []=[.int .i64 (rk l p)]:=by
 simp [aJ,dV,hl,hp,h]
def fS (l:List Nd) (k:Nat):List Nat:=(List.range k).filter (bt l)
def fT (l:List Nd) (k:Nat):List Nd:=(fS l k).map (rY l)
theorem Du (l:List Nd) (k:Nat):(fS l k).length=rk l k:=rfl
theorem Nj (l:List Nd) (k:Nat):(fT l k).length=rk l k:=by simp [fT,Du]
theorem Dt {l:List Nd} {k:Nat} (h:bt l k=true):fS l (k+1)=fS l k++[k]:=by
 simp [fS,List.range_succ,h]
theorem Ds {l:List Nd} {k:Nat} (h:bt l k=false):fS l (k+1)=fS l k:=by
 simp [fS,List.range_succ,h]
theorem Ni {l:List Nd} {k:Nat} (h:bt l k=true):fT l (k+1)=fT l k++[rY l k]:=by
 simp [fT,Dt h]
theorem Nh {l:List Nd} {k:Nat} (h:bt l k=false):fT l (k+1)=fT l k:=by
 simp [fT,Ds h]
theorem xA {l:List Nd} {k:Nat} (h:bt l k=true):rk l (k+1)=rk l k+1:=by rw [xB,if_pos h]
theorem EF {l:List Nd} {k:Nat} (h:bt l k=false):rk l (k+1)=rk l k:=by rw [xB,if_neg (by rw [h];simp)];rfl
def oR (l:List Nd) (m:Nat):Bool:=(aN l m).any fun x=>eu l x
theorem IP (l:List Nd):oR l 0=false:=by
 unfold oR
 rw [qV]
 simp [eu]
theorem IN {l:List Nd} (hs:cA l) {m:Nat} (h0:0<m) (hm:m<l.length):oR l m=(eu l m || oR l (aO l m).toNat):=by
 have h2:=hs.up m h0 hm
 unfold oR
 rw [lP ⟨h2.1,h2.2.1⟩,List.any_cons]
theorem MI (l:List Nd) (k:Nat):bt l k = !(!dR l k || oR l k):=by
 have h1:∀ L:List Nat,(L.all fun (m:Nat)=>!(decide (0<m) && eu l m)) = !(L.any fun (x:Nat)=>eu l x):=by
  intro L
  induction L with
  | nil=>rfl
  | cons a L ih=>
    rw [List.all_cons,List.any_cons,ih]
    have:(decide (0<a) && eu l a)=eu l a:=by
     have:=Ol (l:=l) (n:=(a:Int))
     rwa [show decide ((0:Int)<a)=decide (0<a) by rw [decide_eq_decide];omega] at this
    rw [this]
    cases eu l a <;> simp
 unfold bt oR
 rw [h1]
 cases dR l k <;> simp
end Go.aI

namespace Go.aI
open Go
theorem Lu:aV Go.Proofs.Try.prog 14 14 (fc Go.Proofs.Try.prog 14 14 [(.c 2 8 true)]) [(.c 2 8 true)]:=bq (by kernel_rfl)
def Bi:AC:=(.seq (.cv [⟨(some 5),.box,[(.t 2)],none⟩,⟨(some 6),.mv,[(.c (.rv (.bool false)))],none⟩]) (.seq (.seq (.cv [⟨(some 24),(.call 7),[],none⟩,⟨(some 25),.not,[(.t 24)],none⟩,⟨(some 26),.mv,[(.t 25)],none⟩,⟨(some 27),.mv,[(.t 0)],(some (26,false))⟩,⟨(some 28),.len,[(.t 27)],(some (26,false))⟩,⟨(some 29),(.eC .gtr),[(.t 28),(.c (.rv (.int .i64 20)))],(some (26,false))⟩,⟨(some 30),.pick,[(.t 26),(.c (.rv (.bool true))),(.t 29)],none⟩,⟨(some 31),.mv,[(.t 30)],none⟩,⟨(some 32),.mv,[(.t 0)],(some (31,false))⟩,⟨(some 33),(.call 8),[(.t 32)],(some (31,false))⟩,⟨(some 34),(.eC .neq),[(.t 33),(.c (.rv (.int .i64 0)))],(some (31,false))⟩,⟨(some 35),.pick,[(.t 31),(.c (.rv (.bool true))),(.t 34)],none⟩]) (.cond (.t 35) (.seq (.cv [⟨(some 36),(.call 7),[],none⟩,⟨(some 6),.mv,[(.t 36)],none⟩]) .ret) .skip)) (.seq (.cv [⟨(some 38),.mv,[(.t 0)],none⟩,⟨(some 39),(.call 9),[(.t 38)],none⟩,⟨(some 37),.mv,[(.t 39)],none⟩,⟨(some 40),(.ext 0),[(.t 37)],none⟩,⟨(some 41),(.ext 1),[(.t 37)],none⟩,⟨(some 7),.mv,[(.t 40)],none⟩,⟨(some 8),.mv,[(.t 41)],none⟩]) (.seq (.seq (.cv [⟨(some 42),.mv,[(.t 8)],none⟩,⟨(some 43),(.eC .neq),[(.t 42),(.c (.rv (.int .i64 0)))],none⟩,⟨(some 44),.mv,[(.t 43)],none⟩,⟨(some 45),.mv,[(.t 7)],(some (44,false))⟩,⟨(some 46),(.call 10),[(.t 45),(.c (.rv (.int .i64 0)))],(some (44,false))⟩,⟨(some 47),.not,[(.t 46)],(some (44,false))⟩,⟨(some 48),.pick,[(.t 44),(.c (.rv (.bool true))),(.t 47)],none⟩]) (.cond (.t 48) (.seq (.cv [⟨(some 49),.mv,[(.t 8)],none⟩,⟨(some 50),(.eC .eql),[(.t 49),(.c (.rv (.int .i64 0)))],none⟩,⟨(some 6),.mv,[(.t 50)],none⟩]) .ret) .skip)) (.seq (.cv [⟨(some 9),.mv,[(.c (.rv .bO))],none⟩]) (.seq (.cv [⟨(some 10),.mv,[(.c (.rv .bO))],none⟩]) (.seq (.cv [⟨(some 51),.mv,[(.t 0)],none⟩,⟨(some 52),.len,[(.t 51)],none⟩,⟨(some 53),(.zX 1 8 [(.int .i64 0)]),[(.t 52),(.t 52)],none⟩,⟨(some 11),.mv,[(.t 53)],none⟩]) (.seq (.seq (.cv [⟨(some 54),.mv,[(.t 0)],none⟩,⟨(some 55),.len,[(.t 54)],none⟩,⟨(some 56),.mv,[(.c (.rv (.int .i64 0)))],none⟩]) (.seq (.block 0 (.loop (.seq (.cv [⟨(some 57),(.eC .lss),[(.t 56),(.t 55)],none⟩]) (.seq (.cond (.t 57) .skip (.exit 0)) (.seq (.seq (.block 1 (.seq (.cv [⟨(some 58),.mv,[(.t 56)],none⟩,⟨(some 12),.mv,[(.t 58)],none⟩]) (.seq (.cv [⟨(some 59),.mv,[(.t 0)],none⟩,⟨(some 60),.mv,[(.t 12)],none⟩,⟨(some 61),(.call 11),[(.t 59),(.t 60)],none⟩,⟨(some 62),.not,[(.t 61)],none⟩,⟨(some 13),.mv,[(.t 62)],none⟩]) (.seq (.seq (.cv [⟨(some 63),.mv,[(.t 12)],none⟩,⟨(some 14),.mv,[(.t 63)],none⟩]) (.seq (.block 2 (.loop (.seq (.seq (.cv [⟨(some 64),.mv,[(.t 14)],none⟩,⟨(some 65),(.eC .gtr),[(.t 64),(.c (.rv (.int .i64 0)))],none⟩]) (.cond (.t 65) .skip (.exit 2))) (.seq (.seq (.block 3 (.cv [⟨(some 71),.mv,[(.t 13)],none⟩,⟨(some 72),.mv,[(.t 71)],none⟩,⟨(some 73),.mv,[(.t 0)],(some (72,false))⟩,⟨(some 74),.mv,[(.t 14)],(some (72,false))⟩,⟨(some 75),(.call 12),[(.t 73),(.t 74)],(some (72,false))⟩,⟨(some 76),.pick,[(.t 72),(.c (.rv (.bool true))),(.t 75)],none⟩,⟨(some 13),.mv,[(.t 76)],none⟩])) .kN) (.cv [⟨(some 66),.mv,[(.t 0)],none⟩,⟨(some 67),.mv,[(.t 14)],none⟩,⟨(some 68),(.ixs 49),[(.t 66),(.t 67)],none⟩,⟨(some 69),(.eT 48),[(.t 68)],none⟩,⟨(some 70),(.load 1 false),[(.t 69)],none⟩,⟨(some 14),.mv,[(.t 70)],none⟩]))))) .kN)) (.seq (.seq (.cv [⟨(some 77),.mv,[(.t 13)],none⟩]) (.cond (.t 77) (.exit 1) .skip)) (.seq (.cv [⟨(some 78),.mv,[(.t 11)],none⟩,⟨(some 79),.mv,[(.t 12)],none⟩,⟨(some 80),.mv,[(.t 9)],none⟩,⟨(some 81),.len,[(.t 80)],none⟩,⟨(some 82),(.ixs 1),[(.t 78),(.t 79)],none⟩,⟨none,(.store 1),[(.t 82),(.t 81)],none⟩]) (.seq (.cv [⟨(some 83),.mv,[(.t 0)],none⟩,⟨(some 84),.mv,[(.t 12)],none⟩,⟨(some 85),(.ixs 49),[(.t 83),(.t 84)],none⟩,⟨(some 86),(.load 49 true),[(.t 85)],none⟩,⟨(some 15),(.alloc [(.bool false),(.int .i64 0),(.int .i64 0),(.int .i64 0),(.int .i64 0),(.int .i64 0),(.int .i64 0),(.int .i64 0),(.int .i64 0),(.int .i64 0),(.int .i64 0),(.int .i64 0),(.int .i64 0),(.int .i64 0),(.int .i64 0),(.int .i64 0),(.int .i64 0),(.int .i64 0),(.int .i64 0),(.int .i64 0),(.int .i64 0),(.int .i64 0),(.int .i64 0),(.int .i64 0),(.int .i64 0),(.int .i64 0),(.int .i64 0),(.int .i64 0),(.int .i64 0),(.int .i64 0),(.int .i64 0),(.int .i64 0),(.int .i64 0),(.int .i64 0),(.int .i64 0),(.int .i64 0),(.int .i64 0),(.int .i64 0),(.int .i64 0),(.int .i64 0),(.int .i64 0),(.int .i64 0),(.bool false),(.bool false),(.int .i64 0),(.bool false),(.int .i64 0),(.int .i64 0),(.int .i64 0)]),[],none⟩,⟨none,(.store 49),[(.t 15),(.t 86)],none⟩]) (.seq (.seq (.cv [⟨(some 87),.mv,[(.t 12)],none⟩,⟨(some 88),(.eC .gtr),[(.t 87),(.c (.rv (.int .i64 0)))],none⟩]) (.seq (.cond (.t 88) (.cv [⟨(some 89),.mv,[(.t 11)],none⟩,⟨(some 90),(.eT 48),[(.t 15)],none⟩,⟨(some 91),(.load 1 false),[(.t 90)],none⟩,⟨(some 92),(.ixs 1),[(.t 89),(.t 91)],none⟩,⟨(some 93),(.load 1 false),[(.t 92)],none⟩,⟨(some 94),(.eT 48),[(.t 15)],none⟩,⟨none,(.store 1),[(.t 94),(.t 93)],none⟩]) .skip) .kN)) (.cv [⟨(some 95),.mv,[(.t 9)],none⟩,⟨(some 96),(.load 49 true),[(.t 15)],none⟩,⟨(some 97),(.vn 49),[(.t 96)],none⟩,⟨(some 98),(.app 49 384),[(.t 95),(.t 97)],none⟩,⟨(some 99),.mv,[(.t 10)],none⟩,⟨(some 100),.mv,[(.t 12)],none⟩,⟨(some 101),(.vn 1),[(.t 100)],none⟩,⟨(some 102),(.app 1 8),[(.t 99),(.t 101)],none⟩,⟨(some 9),.mv,[(.t 98)],none⟩,⟨(some 10),.mv,[(.t 102)],none⟩]))))))))) .kN) (.cv [⟨(some 103),(.eC .add),[(.t 56),(.c (.rv (.int .i64 1)))],none⟩,⟨(some 56),.mv,[(.t 103)],none⟩])))))) .kN)) (.seq (.cv [⟨(some 105),.mv,[(.t 9)],none⟩,⟨(some 106),(.call 9),[(.t 105)],none⟩,⟨(some 104),.mv,[(.t 106)],none⟩,⟨(some 107),(.ext 0),[(.t 104)],none⟩,⟨(some 108),(.ext 1),[(.t 104)],none⟩,⟨(some 16),.mv,[(.t 107)],none⟩,⟨(some 8),.mv,[(.t 108)],none⟩]) (.seq (.seq (.cv [⟨(some 109),.mv,[(.t 8)],none⟩,⟨(some 110),(.eC .neq),[(.t 109),(.c (.rv (.int .i64 0)))],none⟩]) (.cond (.t 110) (.seq (.cv [⟨(some 6),.mv,[(.c (.rv (.bool false)))],none⟩]) .ret) .skip)) (.seq (.cv [⟨(some 112),.mv,[(.t 7)],none⟩,⟨(some 113),.mv,[(.t 1)],none⟩,⟨(some 114),(.load 2 true),[(.t 5)],none⟩,⟨(some 115),(.call 13),[(.t 112),(.c (.rv (.int .i64 0))),(.t 113),(.t 114),(.c (.rv (.bool false)))],none⟩,⟨(some 111),.mv,[(.t 115)],none⟩,⟨(some 116),(.ext 0),[(.t 111)],none⟩,⟨(some 117),(.ext 1),[(.t 111)],none⟩,⟨(some 118),(.ext 2),[(.t 111)],none⟩,⟨(some 17),(.alloc [(.int .i64 0),(.int .i64 0),(.int .i64 0),(.int .i64 0),(.int .i64 0),(.int .i64 0),(.int .i64 0),(.int .i64 0),(.int .i64 0),(.int .i64 0),(.int .i64 0),(.int .i64 0),(.int .i64 0),(.int .i64 0),(.int .i64 0),(.int .i64 0),(.bool false),(.int .i64 0),(.int .i64 0),(.int .i64 0),(.int .i64 0),(.int .i64 0),(.int .i64 0),(.bool false),(.int .i64 0)]),[],none⟩,⟨(some 18),(.alloc [.bO,.bO,(.int .i64 0),(.int .i64 0),(.int .i64 0),(.int .i64 0),(.int .i64 0),(.bool false),(.int .i64 0)]),[],none⟩,⟨none,(.store 25),[(.t 17),(.t 116)],none⟩,⟨none,(.store 9),[(.t 18),(.t 117)],none⟩,⟨(some 19),.mv,[(.t 118)],none⟩]) (.seq (.cv [⟨(some 120),.mv,[(.t 16)],none⟩,⟨(some 121),.mv,[(.t 1)],none⟩,⟨(some 122),(.load 2 true),[(.t 5)],none⟩,⟨(some 123),(.call 13),[(.t 120),(.c (.rv (.int .i64 0))),(.t 121),(.t 122),(.c (.rv (.bool false)))],none⟩,⟨(some 119),.mv,[(.t 123)],none⟩,⟨(some 124),(.ext 0),[(.t 119)],none⟩,⟨(some 125),(.ext 1),[(.t 119)],none⟩,⟨(some 126),(.ext 2),[(.t 119)],none⟩,⟨(some 20),(.alloc [(.int .i64 0),(.int .i64 0),(.int .i64 0),(.int .i64 0),(.int .i64 0),(.int .i64 0),(.int .i64 0),(.int .i64 0),(.int .i64 0),(.int .i64 0),(.int .i64 0),(.int .i64 0),(.int .i64 0),(.int .i64 0),(.int .i64 0),(.int .i64 0),(.bool false),(.int .i64 0),(.int .i64 0),(.int .i64 0),(.int .i64 0),(.int .i64 0),(.int .i64 0),(.bool false),(.int .i64 0)]),[],none⟩,⟨(some 21),(.alloc [.bO,.bO,(.int .i64 0),(.int .i64 0),(.int .i64 0),(.int .i64 0),(.int .i64 0),(.bool false),(.int .i64 0)]),[],none⟩,⟨none,(.store 25),[(.t 20),(.t 124)],none⟩,⟨none,(.store 9),[(.t 21),(.t 125)],none⟩,⟨(some 22),.mv,[(.t 126)],none⟩]) (.seq (.seq (.su [0,0,3,7,15,31,63,15,143,399,1023,2047,4095,8191,16383,32767,8191,73727,262143,524287,1048575,2097151,4194303,8388607,4194303,20971519,67108863,134217727] [⟨(some 127),.mv,[(.t 19)],none⟩,⟨(some 128),.mv,[(.t 22)],none⟩,⟨(some 129),(.tq true),[(.t 127),(.t 128)],none⟩,⟨(some 130),.mv,[(.t 129)],none⟩,⟨(some 131),(.eT 0),[(.t 18)],(some (130,false))⟩,⟨(some 132),(.load 1 false),[(.t 131)],(some (130,false))⟩,⟨(some 133),.len,[(.t 132)],(some (130,false))⟩,⟨(some 134),(.eT 0),[(.t 21)],(some (130,false))⟩,⟨(some 135),(.load 1 false),[(.t 134)],(some (130,false))⟩,⟨(some 136),.len,[(.t 135)],(some (130,false))⟩,⟨(some 137),(.eC .neq),[(.t 133),(.t 136)],(some (130,false))⟩,⟨(some 138),.pick,[(.t 130),(.c (.rv (.bool true))),(.t 137)],none⟩,⟨(some 139),.mv,[(.t 138)],none⟩,⟨(some 140),(.eT 17),[(.t 17)],(some (139,false))⟩,⟨(some 141),(.load 8 true),[(.t 140)],(some (139,false))⟩,⟨(some 142),(.call 14),[(.t 141)],(some (139,false))⟩,⟨(some 143),(.eT 17),[(.t 20)],(some (139,false))⟩,⟨(some 144),(.load 8 true),[(.t 143)],(some (139,false))⟩,⟨(some 145),(.call 14),[(.t 144)],(some (139,false))⟩,⟨(some 146),(.eqs true true [.i,.i,.i,.i,.i,.i,.b,.i]),[(.t 142),(.t 145)],(some (139,false))⟩,⟨(some 147),.pick,[(.t 139),(.c (.rv (.bool true))),(.t 146)],none⟩,⟨(some 148),.mv,[(.t 147)],none⟩,⟨(some 149),(.eT 3),[(.t 17)],(some (148,false))⟩,⟨(some 150),(.load 1 false),[(.t 149)],(some (148,false))⟩,⟨(some 151),(.eT 3),[(.t 20)],(some (148,false))⟩,⟨(some 152),(.load 1 false),[(.t 151)],(some (148,false))⟩,⟨(some 153),(.eC .neq),[(.t 150),(.t 152)],(some (148,false))⟩,⟨(some 154),.pick,[(.t 148),(.c (.rv (.bool true))),(.t 153)],none⟩]) (.cond (.t 154) (.seq (.cv [⟨(some 6),.mv,[(.c (.rv (.bool false)))],none⟩]) .ret) .skip)) (.seq (.seq (.cv [⟨(some 155),(.eT 0),[(.t 18)],none⟩,⟨(some 156),(.load 1 false),[(.t 155)],none⟩,⟨(some 157),.len,[(.t 156)],none⟩,⟨(some 158),.mv,[(.c (.rv (.int .i64 0)))],none⟩]) (.seq (.block 4 (.loop (.seq (.cv [⟨(some 159),(.eC .lss),[(.t 158),(.t 157)],none⟩]) (.seq (.cond (.t 159) .skip (.exit 4)) (.seq (.seq (.block 5 (.seq (.cv [⟨(some 160),.mv,[(.t 158)],none⟩,⟨(some 23),.mv,[(.t 160)],none⟩]) (.seq (.su [0,1,0,7,15,31,0,0,128,0,896,1920,3968,8128,16320,32767,65535,131071,262143,131071,1048575,2097151,4194303,131071,8519679,131071,58851327,125960191,260177919,536870911,1073741823] [⟨(some 161),(.eT 0),[(.t 18)],none⟩,⟨(some 162),(.load 1 false),[(.t 161)],none⟩,⟨(some 163),.mv,[(.t 23)],none⟩,⟨(some 164),(.ixs 26),[(.t 162),(.t 163)],none⟩,⟨(some 165),(.eT 0),[(.t 164)],none⟩,⟨(some 166),(.load 1 false),[(.t 165)],none⟩,⟨(some 167),.mv,[(.t 10)],none⟩,⟨(some 168),(.eT 0),[(.t 21)],none⟩,⟨(some 169),(.load 1 false),[(.t 168)],none⟩,⟨(some 170),.mv,[(.t 23)],none⟩,⟨(some 171),(.ixs 26),[(.t 169),(.t 170)],none⟩,⟨(some 172),(.eT 0),[(.t 171)],none⟩,⟨(some 173),(.load 1 false),[(.t 172)],none⟩,⟨(some 174),(.ixs 1),[(.t 167),(.t 173)],none⟩,⟨(some 175),(.load 1 false),[(.t 174)],none⟩,⟨(some 176),(.eC .neq),[(.t 166),(.t 175)],none⟩,⟨(some 177),.mv,[(.t 176)],none⟩,⟨(some 178),(.eT 0),[(.t 18)],(some (177,false))⟩,⟨(some 179),(.load 1 false),[(.t 178)],(some (177,false))⟩,⟨(some 180),.mv,[(.t 23)],(some (177,false))⟩,⟨(some 181),(.ixs 26),[(.t 179),(.t 180)],(some (177,false))⟩,⟨(some 182),(.eT 1),[(.t 181)],(some (177,false))⟩,⟨(some 183),(.load 25 true),[(.t 182)],(some (177,false))⟩,⟨(some 184),(.eT 0),[(.t 21)],(some (177,false))⟩,⟨(some 185),(.load 1 false),[(.t 184)],(some (177,false))⟩,⟨(some 186),.mv,[(.t 23)],(some (177,false))⟩,⟨(some 187),(.ixs 26),[(.t 185),(.t 186)],(some (177,false))⟩,⟨(some 188),(.eT 1),[(.t 187)],(some (177,false))⟩,⟨(some 189),(.load 25 true),[(.t 188)],(some (177,false))⟩,⟨(some 190),(.eqs true true [.i,.i,.i,.i,.i,.i,.i,.i,.i,.i,.i,.i,.i,.i,.i,.i,.b,.i,.i,.i,.i,.i,.i,.b,.i]),[(.t 183),(.t 189)],(some (177,false))⟩,⟨(some 191),.pick,[(.t 177),(.c (.rv (.bool true))),(.t 190)],none⟩]) (.cond (.t 191) (.seq (.cv [⟨(some 6),.mv,[(.c (.rv (.bool false)))],none⟩]) .ret) .skip)))) .kN) (.cv [⟨(some 192),(.eC .add),[(.t 158),(.c (.rv (.int .i64 1)))],none⟩,⟨(some 158),.mv,[(.t 192)],none⟩])))))) .kN)) (.seq (.cv [⟨(some 6),.mv,[(.c (.rv (.bool true)))],none⟩]) .ret)))))))))))))))
theorem Lv:aV Go.Proofs.Try.prog 3 193 Bi [(.t 6)]:=BZ (by kernel_rfl)
theorem Fl (c:Ch):aK Go.Proofs.Try.prog 14 [.agg (c.cells.map .rv)] [] [] (.agg (c.cells.map .rv)):=by
 refine bG Lu [.agg (c.cells.map .rv)] _ (by simp) (by simp [aP,bh,bu,bg,bn,aq.sv,Ln.sv,Nd.sv]) (fun K hK=>?_)
 conv in fc _ _ _ _=>reduce
 simp -implicitDefEqProofs only [Ch.cells,go_sem,Int.reduceNegSucc]
 repeat' (first | (simp -implicitDefEqProofs only [go_sem,Int.reduceNegSucc]) | (with_reducible refine aA ?_) | ((first | refine ai (fun hg=>?_) (fun hg=>?_) | refine aB (fun hg=>?_) (fun hg=>?_) | refine aC (fun hg=>?_) (fun hg=>?_)) <;> try simp -implicitDefEqProofs only [hg,Bool.not_true,Bool.not_false]) | ((with_reducible apply And.intro);focus (first | trivial | omega | decide | (simp -implicitDefEqProofs only [maxLen];omega) | (simp [maxLen,an,ak,au,az,aj,ay,ax] <;> omega))) | fail)
 all_goals (refine (hK _ _ ?_).2;clear hK;simp -implicitDefEqProofs only [go_sem,Int.reduceNegSucc,bw,bD,bN,bQ,aY,aS,aR,Ch.cells] <;>(try simp_all [-Int.not_lt,-Int.not_le,aY,aS,aR,cj,Ch.cells]) <;> try omega)
theorem yh (a:Int):(a == a)=true:=by simp
theorem yc (a:Int):(a != a)=false:=by simp
theorem yg (a:Bool):(a == a)=true:=by simp
theorem yb (a:Bool):(a != a)=false:=by simp
theorem NP (x:Nd) (v:Int):splice (x.cells.map U.rv) 48 [U.rv (.int .i64 v)]=(Nd.mk x.s v).cells.map U.rv:=rfl
theorem NO (x:Nd) (v:Int):List.take 48 (x.cells.map U.rv)++[U.rv (.int .i64 v)]++List.drop 49 (x.cells.map U.rv)=(Nd.mk x.s v).cells.map U.rv:=rfl
theorem Ec (x:Nd):(x.cells.map U.rv).length=49:=rfl
theorem Ee (x:Nd):(x.cells.map U.rv).take 49=x.cells.map U.rv:=rfl
theorem Eb (x:Nd):(x.cells.map U.rv).drop 49=[]:=rfl
theorem Ea (X:List Nd) (x:Nd):aH (aQ X)++[x.cells.map U.rv]=aH (aQ (X++[x])):=by simp [aH,aQ]
theorem Et (q:Nat×Fm):(kT q)[0]?=some (.int .i64 q.1):=rfl
theorem Eu (q:Nat×Fm):((kT q).drop 1).take 25=q.2.cells:=rfl
theorem Ev (q:Nat×Fm):(kT q).length=26:=rfl
theorem BY (f:Fm):f.cells.map U.rv=[.rv (.int .i64 f.x),.rv (.int .i64 f.y),.rv (.int .i64 f.w),.rv (.int .i64 f.h),.rv (.int .i64 f.bB.a),.rv (.int .i64 f.bB.b),.rv (.int .i64 f.bB.c),.rv (.int .i64 f.bB.d),.rv (.int .i64 f.pad.a),.rv (.int .i64 f.pad.b),.rv (.int .i64 f.pad.c),.rv (.int .i64 f.pad.d),.rv (.int .i64 f.bA.a),.rv (.int .i64 f.bA.b),.rv (.int .i64 f.bA.c),.rv (.int .i64 f.bA.d),.rv (.bool f.known),.rv (.int .i64 f.child.top.p),.rv (.int .i64 f.child.top.n),.rv (.int .i64 f.child.bottom.p),.rv (.int .i64 f.child.bottom.n),.rv (.int .i64 f.child.inner.p),.rv (.int .i64 f.child.inner.n),.rv (.bool f.child.through),.rv (.int .i64 f.child.high)]:=rfl
theorem Ho (c:Ch):c.cells.map U.rv=[.rv (.int .i64 c.top.p),.rv (.int .i64 c.top.n),.rv (.int .i64 c.bottom.p),.rv (.int .i64 c.bottom.n),.rv (.int .i64 c.inner.p),.rv (.int .i64 c.inner.n),.rv (.bool c.through),.rv (.int .i64 c.high)]:=rfl
theorem OM (g:Nat→Nat) (L:List (Nat×Fm)):(di (nI g L)).length=L.length:=by simp [di,nI]
theorem OL {g:Nat→Nat} {L:List (Nat×Fm)} {i:Nat} (h:i<L.length):(di (nI g L))[i]?.getD []=kT (g (L[i]'h).1,(L[i]'h).2):=by simp [di,nI,h]
theorem Ot {L:List (Nat×Fm)} {i:Nat} (h:i<L.length):(di L)[i]?.getD []=kT (L[i]'h):=by simp [di,h]
theorem Nk (l:List Nd):fT l l.length=cJ l:=rfl
theorem MM (l:List Nd):fS l l.length=kF l:=rfl
def oZ (h:Sz) (l:List Nd) (k:Nat):List (Option HB):=[some (.var (h.cells.map .rv)),some (.row 1 0 (aH (aJ (dV l k)))),some (.row 49 (rk l k) (aH (aQ (fT l k)))),some (.row 1 (rk l k) (aH (aJ (aX (fS l k)))))]
theorem Pz (l:List Nd) (w:Int) (h:Sz):aK Go.Proofs.Try.prog 3 [.rv (.sl 49 (aQ l)),.rv (.int .i64 w),h.sv] [] [] (.rv (.bool true)):=by
 refine bG Lv [.rv (.sl 49 (aQ l)),.rv (.int .i64 w),h.sv] _ (by simp) (by simp [aP,bh,bu,bg,bn,aq.sv,Ln.sv,Nd.sv]) (fun K hK=>?_)
 have hlen:=au l
 simp -implicitDefEqProofs only [Bi,Sz.sv,Sz.cells,go_sem,Int.reduceNegSucc]
 by_cases hl:l.length>20
 ·have e1:decide ((l.length:Int)>20)=true:=decide_eq_true (by omega)
  have br:=xJ;repeat' (first | (simp -implicitDefEqProofs only [go_sem,Int.reduceNegSucc,hlen,e1]) | (with_reducible refine aA ?_) | (with_reducible first | refine aF br ?_ | refine aG br ?_) | ((first | refine ai (fun hg=>?_) (fun hg=>?_) | refine aB (fun hg=>?_) (fun hg=>?_) | refine aC (fun hg=>?_) (fun hg=>?_)) <;> try simp -implicitDefEqProofs only [hg,Bool.not_true,Bool.not_false]) | ((with_reducible apply And.intro);focus (first | trivial | omega | decide | (simp -implicitDefEqProofs only [maxLen];omega) | (simp [maxLen,an,ak,au,az,aj,ay,ax] <;> omega))) | fail)
  exact (hK _ _ (bP rfl)).2
 ·have e1:decide ((l.length:Int)>20)=false:=decide_eq_false (by omega)
  have oc:=Qj l (by omega)
  by_cases hc:eI l=0
  ·have ht:=Bp hc
   have hs:=xN ht
   have hpos:=hs.pos
   rw [hc] at oc
   have nj:((0:Int) != 0)=false:=rfl
   have BB:((0:Int) == 0)=true:=rfl
   have Cz:=Qb l (by omega) hc
   have hm0:=xH l 0
   have hmn:=qL hpos
   rw [show ((0:Nat):Int)=0 from rfl] at hmn
   rw [hmn] at hm0
   cases h0:dR l 0 with
   | false=>
     rw [h0] at hm0
     have y_2:=xJ;have bS:=oc;have bY:=Cz;have cu:=hm0;repeat' (first | (simp -implicitDefEqProofs only [go_sem,Int.reduceNegSucc,hlen,e1,nj,BB]) | (with_reducible refine aA ?_) | (with_reducible first | refine aF y_2 ?_ | refine aG y_2 ?_) | (with_reducible first | refine aF bS ?_ | refine aG bS ?_) | (with_reducible first | refine aF bY ?_ | refine aG bY ?_) | (with_reducible first | refine aF cu ?_ | refine aG cu ?_) | ((first | refine ai (fun hg=>?_) (fun hg=>?_) | refine aB (fun hg=>?_) (fun hg=>?_) | refine aC (fun hg=>?_) (fun hg=>?_)) <;> try simp -implicitDefEqProofs only [hg,Bool.not_true,Bool.not_false]) | ((with_reducible apply And.intro);focus (first | trivial | omega | decide | (simp -implicitDefEqProofs only [maxLen];omega) | (simp [maxLen,an,ak,au,az,aj,ay,ax] <;> omega))) | fail)
     exact (hK _ _ (bP rfl)).2
   | true=>
     rw [h0] at hm0
     have cw:bt l 0=true:=by rw [MK];exact h0
     have cm:=xJ;have cG:=oc;have cH:=Cz;have cY:=hm0;repeat' (first | (simp -implicitDefEqProofs only [go_sem,Int.reduceNegSucc,hlen,e1,nj,BB,uL]) | (with_reducible refine aA ?_) | (with_reducible first | refine aF cm ?_ | refine aG cm ?_) | (with_reducible first | refine aF cG ?_ | refine aG cG ?_) | (with_reducible first | refine aF cH ?_ | refine aG cH ?_) | (with_reducible first | refine aF cY ?_ | refine aG cY ?_) | ((first | refine ai (fun hg=>?_) (fun hg=>?_) | refine aB (fun hg=>?_) (fun hg=>?_) | refine aC (fun hg=>?_) (fun hg=>?_)) <;> try simp -implicitDefEqProofs only [hg,Bool.not_true,Bool.not_false]) | ((with_reducible apply And.intro);focus (first | trivial | omega | decide | (simp -implicitDefEqProofs only [maxLen];omega) | (simp [maxLen,an,ak,au,az,aj,ay,ax] <;> omega) | (omega;done))) | fail)
     refine cK (ι:=Nat) (fun k=>[(56,.rv (.int .i64 k)),(55,.rv (.int .i64 l.length)),(0,.rv (.sl 49 (aQ l))),(1,.rv (.int .i64 w)),(5,.ptr 0 0),(7,.rv (cc l)),(9,.row 2 (rk l k) (rk l k)),(10,.row 3 (rk l k) (rk l k)),(11,.row 1 0 l.length)])
      (oZ h l) (fun k=>k≤l.length) (fun k=>l.length - k) 0 (Nat.zero_le _) ((qo 9 49 0 rfl).trans ((qo 10 1 0 rfl).trans (by unfold oZ;rw [GC];exact bp (by simp [lk,sw])))) (fun k hk K' hN hX hR=>?_)
     simp -implicitDefEqProofs only [oZ,Sz.cells,go_sem,Int.reduceNegSucc]
     refine ai (fun hg=>?_) (fun hg=>?_)
     ·have av:k<l.length:=by simp at hg;omega
      have wu:=ct (k:=k) (by omega)
      have ny:=Fq l ht k
      rw [qL av] at ny
      have dm:=ny;repeat' (first | (simp -implicitDefEqProofs only [go_sem,Int.reduceNegSucc,hlen]) | (with_reducible refine aA ?_) | (with_reducible first | refine aF dm ?_ | refine aG dm ?_) | ((first | refine ai (fun hg=>?_) (fun hg=>?_) | refine aB (fun hg=>?_) (fun hg=>?_) | refine aC (fun hg=>?_) (fun hg=>?_)) <;> try simp -implicitDefEqProofs only [hg,Bool.not_true,Bool.not_false]) | ((with_reducible apply And.intro);focus (first | trivial | omega | decide | (simp -implicitDefEqProofs only [maxLen];omega) | (simp [maxLen,an,ak,au,az,aj,ay,ax] <;> omega))) | fail)
      refine cK (ι:=Nat×Bool) (fun q=>[(13,.rv (.bool q.2)),(14,.rv (.int .i64 q.1)),(12,.rv (.int .i64 k)),(56,.rv (.int .i64 k)),(55,.rv (.int .i64 l.length)),(0,.rv (.sl 49 (aQ l))),(1,.rv (.int .i64 w)),(5,.ptr 0 0),(7,.rv (cc l)),(9,.row 2 (rk l k) (rk l k)),(10,.row 3 (rk l k) (rk l k)),(11,.row 1 0 l.length)])
       (fun _=>oZ h l k) (fun q=>q.1<l.length∧(q.2 || oR l q.1) = !bt l k) (fun q=>q.1) (k,!dR l k) ⟨av,by rw [MI];simp⟩ (bp (by simp [lk])) (fun q hq K2 yQ Ci Jm=>?_)
      obtain ⟨m,gone⟩:=q
      obtain ⟨gh,eW⟩:=hq
      dsimp at gh eW ⊢
      simp -implicitDefEqProofs only [oZ,Sz.cells,go_sem,Int.reduceNegSucc]
      refine ai (fun tK=>?_) (fun tK=>?_)
      ·have m0:0<m:=by simp at tK;omega
       have hu:=hs.up m m0 gh
       have hx:=eX gh
       have zp:(l[m]'gh).parent=(((aO l m).toNat:Nat):Int):=by rw [kz gh];omega
       have x1:=ak (l[m]'gh)
       have x2:=lM (l[m]'gh)
       rw [zp] at x2
       generalize l[m]'gh=x at *
       have Kb:=Qn l ht m
       rw [IN hs m0 gh] at eW
       cases gone with
       | true=>
         repeat' (first | (simp -implicitDefEqProofs only [go_sem,Int.reduceNegSucc,hlen,hx,x1,x2,List.length_drop]) | (with_reducible refine aA ?_) | ((first | refine ai (fun hg=>?_) (fun hg=>?_) | refine aB (fun hg=>?_) (fun hg=>?_) | refine aC (fun hg=>?_) (fun hg=>?_)) <;> try simp -implicitDefEqProofs only [hg,Bool.not_true,Bool.not_false]) | ((with_reducible apply And.intro);focus (first | trivial | omega | decide | (simp -implicitDefEqProofs only [maxLen];omega) | (simp [maxLen,an,ak,au,az,aj,ay,ax] <;> omega) | (omega;done))) | fail)
         refine yQ ((aO l m).toNat,true) _ _ ⟨by dsimp;omega,by simpa using eW⟩ (by dsimp;omega) (bp (by simp [lk]))
       | false=>
         have eZ:=Kb;repeat' (first | (simp -implicitDefEqProofs only [go_sem,Int.reduceNegSucc,hlen,hx,x1,x2,List.length_drop]) | (with_reducible refine aA ?_) | (with_reducible first | refine aF eZ ?_ | refine aG eZ ?_) | ((first | refine ai (fun hg=>?_) (fun hg=>?_) | refine aB (fun hg=>?_) (fun hg=>?_) | refine aC (fun hg=>?_) (fun hg=>?_)) <;> try simp -implicitDefEqProofs only [hg,Bool.not_true,Bool.not_false]) | ((with_reducible apply And.intro);focus (first | trivial | omega | decide | (simp -implicitDefEqProofs only [maxLen];omega) | (simp [maxLen,an,ak,au,az,aj,ay,ax] <;> omega) | (omega;done))) | fail)
         refine yQ ((aO l m).toNat,eu l m) _ _ ⟨by dsimp;omega,by simpa using eW⟩ (by dsimp;omega) (bp (by simp [lk]))
      ·have m0:m=0:=by simp at tK;omega
       subst m0
       rw [IP,Bool.or_false] at eW
       subst eW
       simp -implicitDefEqProofs only [go_sem,Int.reduceNegSucc]
       refine Ci _ _ _ ?_
       clear yQ Ci Jm
       cases hkp:bt l k with
       | false=>
         repeat' (first | (simp -implicitDefEqProofs only [go_sem,Int.reduceNegSucc,hkp,wu,Bool.not_false]) | (with_reducible refine aA ?_) | ((first | refine ai (fun hg=>?_) (fun hg=>?_) | refine aB (fun hg=>?_) (fun hg=>?_) | refine aC (fun hg=>?_) (fun hg=>?_)) <;> try simp -implicitDefEqProofs only [hg,Bool.not_true,Bool.not_false]) | ((with_reducible apply And.intro);focus (first | trivial | omega | decide | (simp -implicitDefEqProofs only [maxLen];omega) | (simp [maxLen,an,ak,au,az,aj,ay,ax] <;> omega))) | fail)
         refine hN (k+1) _ _ (by omega) (by omega) ?_
         rw [EF hkp]
         unfold oZ
         rw [EF hkp,GA hkp,Nh hkp,Ds hkp]
         exact bp (by simp [lk])
       | true=>
         have hx:=eX av
         have x1:=ak (l[k]'av)
         have x3:=nG (l[k]'av)
         have x4:=Ec (l[k]'av)
         have x5:=Ee (l[k]'av)
         have x6:=qM (l[k]'av)
         have x7:=NO (l[k]'av)
         have x8:=NP (l[k]'av)
         have x9:=Eb (l[k]'av)
         have hrl:=At l k
         have ha:=AY l k
         have wg:=aj (dV l k)
         have qG:=GB av hkp
         have CQ:(aJ (dV l k))[k]?.getD []=[.int .i64 ((dV l k).getD k 0)]:=by simp [aJ,List.getD_eq_getElem?_getD,ha,av]
         have wH:(aH (aJ (dV l k))).set k [.rv (.int .i64 (rk l k))]=aH (aJ (dV l (k+1))):=by rw [← qG];simp [aH,aJ,List.map_set]
         have l1:(aQ (fT l k)).length=rk l k:=by rw [au,Nj]
         have l2:(aJ (aX (fS l k))).length=rk l k:=by rw [wZ,Du]
         have t1:(aQ (fT l k)).take (rk l k)=aQ (fT l k):=List.take_of_length_le (by omega)
         have t2:(aJ (aX (fS l k))).take (rk l k)=aJ (aX (fS l k)):=List.take_of_length_le (by omega)
         have a2:aH (aJ (aX (fS l k)))++[[.rv (.int .i64 (k:Int))]]=aH (aJ (aX (fS l (k+1)))):=by rw [Dt hkp];simp [aH,aJ,aX]
         have hgd:l.getD k default=l[k]'av:=by simp [List.getD_eq_getElem?_getD,av]
         have qA:=Ni hkp
         unfold rY at qA
         rw [hgd] at qA
         by_cases k0:k=0
         ·have g1:decide ((k:Int)>0)=false:=decide_eq_false (by omega)
          rw [if_pos k0] at qA
          have wG:(l[k]'av).parent = -1:=by rw [kz av,k0];exact hs.root
          have oY:(⟨(l[k]'av).s,-1⟩:Nd)=l[k]'av:=by rw [← wG]
          rw [oY] at qA
          have a1:=Ea (fT l k) (l[k]'av)
          rw [← qA] at a1
          generalize l[k]'av=x at *
          repeat' (first | (simp -implicitDefEqProofs only [go_sem,Int.reduceNegSucc,hkp,wu,Bool.not_true,hlen,hx,x1,x3,x4,x5,x9,g1,ha,wg,CQ,wH,l1,l2,t1,t2,a1,a2,List.append_nil]) | (with_reducible refine aA ?_) | ((first | refine ai (fun hg=>?_) (fun hg=>?_) | refine aB (fun hg=>?_) (fun hg=>?_) | refine aC (fun hg=>?_) (fun hg=>?_)) <;> try simp -implicitDefEqProofs only [hg,Bool.not_true,Bool.not_false]) | ((with_reducible apply And.intro);focus (first | trivial | omega | decide | (simp -implicitDefEqProofs only [maxLen];omega) | (simp [maxLen,an,ak,au,az,aj,ay,ax] <;> omega) | (omega;done))) | fail)
          refine hN (k+1) _ _ (by omega) (by omega) ?_
          rw [xA hkp]
          unfold oZ
          rw [xA hkp]
          exact rG (h':=[some (.var (h.cells.map .rv)),some (.row 1 0 (aH (aJ (dV l (k+1))))),some (.row 49 (rk l k+1) (aH (aQ (fT l (k+1))))),some (.row 1 (rk l k+1) (aH (aJ (aX (fS l (k+1))))))]) (Nat.zero_le _) ⟨nR,eJ,eJ,eJ,trivial⟩ (by simp [fW,lk,ng,lu,nc])
         ·have g1:decide ((k:Int)>0)=true:=decide_eq_true (by omega)
          rw [if_neg k0] at qA
          have hu:=hs.up k (by omega) av
          have zp:(l[k]'av).parent=(((aO l k).toNat:Nat):Int):=by rw [kz av];omega
          have JO:=uj hs (by omega) av hkp
          have gu:=Gz (l:=l) (k:=k+1) (p:=(aO l k).toNat) (by omega) (by omega) JO
          have yS:=AY l (k+1)
          have Jo:=aj (dV l (k+1))
          rw [zp] at x6
          have QZ:=x7 (rk l (aO l k).toNat)
          have Ra:=x8 (rk l (aO l k).toNat)
          have a1:=Ea (fT l k) ⟨(l[k]'av).s,(rk l (aO l k).toNat:Int)⟩
          rw [← qA] at a1
          have z1:=Ec ⟨(l[k]'av).s,(rk l (aO l k).toNat:Int)⟩
          have z2:=Ee ⟨(l[k]'av).s,(rk l (aO l k).toNat:Int)⟩
          have z3:=Eb ⟨(l[k]'av).s,(rk l (aO l k).toNat:Int)⟩
          generalize l[k]'av=x at *
          repeat' (first | (simp -implicitDefEqProofs only [go_sem,Int.reduceNegSucc,hkp,wu,Bool.not_true,hlen,hx,x1,x3,x4,x5,x6,QZ,Ra,x9,z1,z2,z3,g1,ha,wg,CQ,gu,yS,Jo,wH,l1,l2,t1,t2,a1,a2,List.append_nil]) | (with_reducible refine aA ?_) | ((first | refine ai (fun hg=>?_) (fun hg=>?_) | refine aB (fun hg=>?_) (fun hg=>?_) | refine aC (fun hg=>?_) (fun hg=>?_)) <;> try simp -implicitDefEqProofs only [hg,Bool.not_true,Bool.not_false]) | ((with_reducible apply And.intro);focus (first | trivial | omega | decide | (simp -implicitDefEqProofs only [maxLen];omega) | (simp [maxLen,an,ak,au,az,aj,ay,ax] <;> omega) | (omega;done))) | fail)
          refine hN (k+1) _ _ (by omega) (by omega) ?_
          rw [xA hkp]
          unfold oZ
          rw [xA hkp]
          exact rG (h':=[some (.var (h.cells.map .rv)),some (.row 1 0 (aH (aJ (dV l (k+1))))),some (.row 49 (rk l k+1) (aH (aQ (fT l (k+1))))),some (.row 1 (rk l k+1) (aH (aJ (aX (fS l (k+1))))))]) (Nat.zero_le _) ⟨nR,eJ,eJ,eJ,trivial⟩ (by simp [fW,lk,ng,lu,nc])
     ·have av:k=l.length:=by simp at hg;omega
      subst av
      simp -implicitDefEqProofs only [go_sem,Int.reduceNegSucc]
      refine hX _ _ _ ?_
      clear hN hX hR
      have Ki:=DI hs cw
      have hrl:=At l l.length
      have zk:=Fk (cJ l) (by rw [uw];omega) (Nm hc cw) 2 (rk l l.length)
      rw [uw] at zk
      have hx1:=AB l hs (by omega) 0 w h false
      have pe:=AB (cJ l) Ki (by rw [uw];omega) 0 w h false
      rw [Nl hs cw] at pe
      have la:=Nk l
      have ka:=MM l
      cases kk:nQ l 0 w h false with
      | none=>
        rw [kk] at hx1 pe
        simp -implicitDefEqProofs only [lg,fj,cM,Option.map,Option.isSome,List.map_cons,List.map_nil,Sz.sv,Sz.cells] at hx1 pe
        have nA:=Fl ⟨⟨0,0⟩,⟨0,0⟩,⟨0,0⟩,false,0⟩
        simp -implicitDefEqProofs only [Ch.cells,List.map_cons,List.map_nil] at nA
        have kH:=zk;have kI:=hx1;have kJ:=pe;have mO:=nA;repeat' (first | (simp -implicitDefEqProofs only [go_sem,Int.reduceNegSucc,la,nj,yh,yc,yg,yb,Bool.and_self,Bool.not_true]) | (with_reducible refine aA ?_) | (refine cC kH ?_ ?_ ?_;(focus (simp [aW,ag] <;> fail));(focus (simp [bk,aZ] <;> fail))) | (refine cZ kH ?_ ?_ ?_;(focus (simp [aW,ag] <;> fail));(focus (simp [bk,aZ] <;> fail))) | (with_reducible first | refine aF kI ?_ | refine aG kI ?_) | (with_reducible first | refine aF kJ ?_ | refine aG kJ ?_) | (with_reducible first | refine aF mO ?_ | refine aG mO ?_) | ((first | refine ai (fun hg=>?_) (fun hg=>?_) | refine aB (fun hg=>?_) (fun hg=>?_) | refine aC (fun hg=>?_) (fun hg=>?_)) <;> try simp -implicitDefEqProofs only [hg,Bool.not_true,Bool.not_false]) | ((with_reducible apply And.intro);focus (first | trivial | omega | decide | (simp -implicitDefEqProofs only [maxLen];omega) | (simp [maxLen,an,ak,au,az,aj,ay,ax] <;> omega))) | fail)
        refine rL 1 ?_
        repeat' (first | (simp -implicitDefEqProofs only [go_sem,Int.reduceNegSucc,sK,sL,sM,sN,sO,sP,rz,Int.reduceLT,decide_true,decide_false,Int.reduceToNat,Nat.reduceMul]) | (with_reducible refine aA ?_) | (with_reducible show G _ _ (It.l _ _::_) _ _ _;refine rK ?_) | ((first | refine ai (fun hg=>?_) (fun hg=>?_) | refine aB (fun hg=>?_) (fun hg=>?_) | refine aC (fun hg=>?_) (fun hg=>?_)) <;> try simp -implicitDefEqProofs only [hg,Bool.not_true,Bool.not_false]) | ((with_reducible apply And.intro);focus (first | trivial | omega | decide | (simp -implicitDefEqProofs only [maxLen];omega) | (simp [maxLen,an,ak,au,az,aj,ay,ax] <;> omega))) | fail)
        exact (hK _ _ (bP rfl)).2
      | some q=>
        obtain ⟨f,t⟩:=q
        rw [kk] at hx1 pe
        have hkeep:∀ q∈t.L,q.1<l.length∧bt l q.1=true:=by
         unfold nQ at kk
         split at kk
         ·exact Bh hs _ 0 _ _ _ (f,t) hpos cw kk
         ·cases kk
        have htl:t.L.length≤1000:=by
         unfold nQ at kk
         split at kk
         ·have:=yf hs _ 0 _ _ _ (f,t) hpos kk
          have:=(hs.vO hpos).2
          simp only at *
          omega
         ·cases kk
        simp -implicitDefEqProofs only [lg,fj,cM,mK,mL,Option.map,Option.isSome,Pl.cells,List.map_cons,List.map_nil,List.cons_append,List.nil_append,Sz.sv,Sz.cells] at hx1 pe
        have nA:=Fl f.child
        rw [BY] at hx1 pe
        rw [Ho] at nA
        have dF:=pM t.L
        have wG:=OM (rk l) t.L
        have mP:=zk;have mQ:=hx1;have mR:=pe;have qb:=nA;repeat' (first | (simp -implicitDefEqProofs only [go_sem,Int.reduceNegSucc,la,ka,nj,yh,yc,yg,yb,dF,wG,Bool.and_self,Bool.not_true]) | (with_reducible refine aA ?_) | (refine cC mP ?_ ?_ ?_;(focus (simp [aW,ag] <;> fail));(focus (simp [bk,aZ] <;> fail))) | (refine cZ mP ?_ ?_ ?_;(focus (simp [aW,ag] <;> fail));(focus (simp [bk,aZ] <;> fail))) | (with_reducible first | refine aF mQ ?_ | refine aG mQ ?_) | (with_reducible first | refine aF mR ?_ | refine aG mR ?_) | (with_reducible first | refine aF qb ?_ | refine aG qb ?_) | ((first | refine ai (fun hg=>?_) (fun hg=>?_) | refine aB (fun hg=>?_) (fun hg=>?_) | refine aC (fun hg=>?_) (fun hg=>?_)) <;> try simp -implicitDefEqProofs only [hg,Bool.not_true,Bool.not_false]) | ((with_reducible apply And.intro);focus (first | trivial | omega | decide | (simp -implicitDefEqProofs only [maxLen];omega) | (simp [maxLen,an,ak,au,az,aj,ay,ax] <;> omega))) | fail)
        refine cK (ι:=Nat) (fun i=>[(158,.rv (.int .i64 i)),(157,.rv (.int .i64 t.L.length)),(10,.row 3 (rk l l.length) (rk l l.length)),(18,.ptr 5 0),(21,.ptr 7 0)])
         (fun i=>[some (.var (h.cells.map .rv)),some (.row 1 0 (aH (aJ (dV l l.length)))),some (.row 49 (rk l l.length) (aH (aQ (cJ l)))),some (.row 1 (rk l l.length) (aH (aJ (aX (kF l))))),some (.var (f.cells.map .rv)),some (.var ((cM (some t)).map .rv)),some (.var (f.cells.map .rv)),some (.var ((cM (some (mL (rk l) t))).map .rv))])
         (fun i=>i≤t.L.length) (fun i=>t.L.length - i) 0 (Nat.zero_le _) (bp (by simp [lk])) (fun i hi K' hN hX hR=>?_)
        simp -implicitDefEqProofs only [cM,mL,Pl.cells,Sz.cells,go_sem,Int.reduceNegSucc]
        refine ai (fun hg=>?_) (fun hg=>?_)
        ·have hi4:i<t.L.length:=by simp at hg;omega
         have wu:=ct (k:=i) (by omega)
         have y1:=Ot hi4
         have y2:=OL (g:=rk l) hi4
         obtain ⟨k1,k2⟩:=hkeep _ (List.getElem_mem hi4)
         have k3:=wR k1 k2
         have k4:rk l t.L[i].1<rk l l.length:=oz k1 k2
         have y3:(aJ (aX (kF l)))[rk l t.L[i].1]?.getD []=[.int .i64 t.L[i].1]:=by simp [aJ,aX,k3]
         have y4:(aJ (aX (kF l))).length=rk l l.length:=by rw [wZ,Dw]
         generalize t.L[i]=q at *
         have z1:=Et q
         have z2:=Et (rk l q.1,q.2)
         have z3:=Eu q
         have z4:=Eu (rk l q.1,q.2)
         have z5:=Ev q
         have z6:=Ev (rk l q.1,q.2)
         have z7:=BY q.2
         repeat' (first | (simp -implicitDefEqProofs only [go_sem,Int.reduceNegSucc,y1,y2,y3,y4,z1,z2,z3,z4,z5,z6,z7,wu,dF,wG,List.length_drop,yh,yc,yg,yb,Bool.and_self,Bool.not_true]) | (with_reducible refine aA ?_) | ((first | refine ai (fun hg=>?_) (fun hg=>?_) | refine aB (fun hg=>?_) (fun hg=>?_) | refine aC (fun hg=>?_) (fun hg=>?_)) <;> try simp -implicitDefEqProofs only [hg,Bool.not_true,Bool.not_false]) | ((with_reducible apply And.intro);focus (first | trivial | omega | decide | (simp -implicitDefEqProofs only [maxLen];omega) | (simp [maxLen,an,ak,au,az,aj,ay,ax] <;> omega) | (omega;done))) | fail)
         exact hN (i+1) _ _ (by omega) (by omega) (bp (by simp [lk]))
        ·simp -implicitDefEqProofs only [go_sem,Int.reduceNegSucc]
         refine hX _ _ _ ?_
         repeat' (first | (simp -implicitDefEqProofs only [go_sem,Int.reduceNegSucc]) | (with_reducible refine aA ?_) | ((first | refine ai (fun hg=>?_) (fun hg=>?_) | refine aB (fun hg=>?_) (fun hg=>?_) | refine aC (fun hg=>?_) (fun hg=>?_)) <;> try simp -implicitDefEqProofs only [hg,Bool.not_true,Bool.not_false]) | ((with_reducible apply And.intro);focus (first | trivial | omega | decide | (simp -implicitDefEqProofs only [maxLen];omega) | (simp [maxLen,an,ak,au,az,aj,ay,ax] <;> omega))) | fail)
         exact (hK _ _ (bP rfl)).2
  ·have nj:(eI l != 0)=true:=by simpa using hc
   have qc:=xJ;have qd:=oc;repeat' (first | (simp -implicitDefEqProofs only [go_sem,Int.reduceNegSucc,hlen,e1,nj]) | (with_reducible refine aA ?_) | (with_reducible first | refine aF qc ?_ | refine aG qc ?_) | (with_reducible first | refine aF qd ?_ | refine aG qd ?_) | ((first | refine ai (fun hg=>?_) (fun hg=>?_) | refine aB (fun hg=>?_) (fun hg=>?_) | refine aC (fun hg=>?_) (fun hg=>?_)) <;> try simp -implicitDefEqProofs only [hg,Bool.not_true,Bool.not_false]) | ((with_reducible apply And.intro);focus (first | trivial | omega | decide | (simp -implicitDefEqProofs only [maxLen];omega) | (simp [maxLen,an,ak,au,az,aj,ay,ax] <;> omega))) | fail)
   exact (hK _ _ (bP rfl)).2
end Go.aI
