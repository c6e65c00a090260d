/- Part 4 of the proof: F11, F12, F21, K9R, K13, F13, F22. -/
import Derived.Test.YtnaoehbodmiekaaPlaceAsked3
set_option linter.unusedSimpArgs false
set_option linter.unusedVariables false
set_option maxRecDepth 100000
set_option maxHeartbeats 16000000
namespace Go.aG
open Go
theorem Ga {l:List Nd} (hs:cZ l) {n:Int} {m:Nat} (h:m∈bl l n):n<m∧m<l.length:=by
 have h:=(List.mem_filter.1 h).1
 unfold dr at h
 split at h
 ·rename_i hin
  obtain ⟨k,rfl,hk⟩:=oV hin
  obtain ⟨h1,h2,h3⟩:=qz.1 h
  have:=hs.up m h1 h2
  simp -implicitDefEqProofs only [Int.toNat_natCast] at h3
  omega
 ·simp at h
theorem uH (l:List Nd) (n:Int):(bl l n).length≤l.length:=by
 have h1:=List.length_filter_le (fun (m:Nat)=>fD l m) (dr l n)
 have h2:=Ck l n
 unfold bl;omega
theorem xb (e:Ed):(e.cells.map U.rv)[26]?=some (.rv (.bool e.mV)):=rfl
theorem FF (e:Ed):(e.cells.map U.rv)[27]?=some (.rv (.bool e.mz)):=rfl
theorem oI (e:Ed):e.cells.length=28:=rfl
theorem xq (f:Fm):(f.cells.map U.rv).take 25=f.cells.map U.rv:=rfl
theorem AS (f:Fm):f.cells.take 25=f.cells:=rfl
theorem AR (f:Fm):(f.cells.map U.rv).drop 25=[]:=rfl
theorem Gp (f:Fm):((f.cells.map U.rv).drop 17).take 8=f.child.cells.map U.rv:=rfl
theorem Fq (c:Ch):c.cells.length=8:=rfl
theorem EC {X:List (Nat×Fm)} {m:Nat} {f:Fm}:aH (dg X)++[U.rv (.int .i64 m)::f.cells.map U.rv]=aH (dg (X++[(m,f)])):=by simp [aH,dg,eJ]
theorem ED {X Y:List (Nat×Fm)}:aH (dg X)++aH (dg Y)=aH (dg (X++Y)):=by simp [aH,dg]
theorem Ez {X:List Ch} {c:Ch}:aH (eR X)++[c.cells.map U.rv]=aH (eR (X++[c])):=by simp [aH,eR]
theorem OM {X:List (Nat×Fm)}:(dg X).take X.length=dg X:=List.take_of_length_le (by rw [nR];omega)
theorem ON {X:List (Nat×Fm)} {y:Nat×Fm}:(dg (X++[y])).take (X.length+1)=dg (X++[y]):=List.take_of_length_le (by rw [nR];simp)
def wA:List U:=[.rv .bO,.rv .bO,.rv (.int .i64 0),.rv (.int .i64 0),.rv (.int .i64 0),.rv (.int .i64 0),.rv (.int .i64 0),.rv (.bool false),.rv (.int .i64 0)]
def nK (h:Sz) (e:Ed) (k n:Nat) (o:List Int) (c:List Ch) (L:List (Nat×Fm)):List (Option HB):=
 [some (.var (h.cells.map .rv)),some (.var (e.cells.map .rv)),some (.var wA),some (.var [.row 6 (2*k) n,.rv .bO,.rv (.int .i64 0),.rv (.int .i64 0),.rv (.int .i64 0),.rv (.int .i64 0),.rv (.int .i64 0),.rv (.bool false),.rv (.int .i64 0)]),
  some (.row 1 k (aH (aJ o))),some (.row 8 k (aH (eR c))),some (.row 26 (2*k) (aH (dg L)))]
def vm (h:Sz) (e:Ed) (rs:List (Nat×Fm×La)):List (Option HB):=nK h e rs.length (cg rs).length (fL rs) (ep rs) (cg rs)
theorem Ja (h:Sz) (e:Ed) (k n:Nat) (o:List Int) (c:List Ch) (L:List (Nat×Fm)):gB (lS 7) (nK h e k n o c L):=
 ⟨gD,gD,gD (rs:=cF none),⟨nt.2 (by decide),gD (rs:=[.bO,.int .i64 0,.int .i64 0,.int .i64 0,.int .i64 0,.int .i64 0,.bool false,.int .i64 0])⟩,lX,lX,lX,trivial⟩
theorem Gb (l:List Nd) (n:Int):(bl l n).Pairwise (·< ·):=by
 unfold bl dr
 split
 ·unfold dB bK
  exact (List.pairwise_lt_range.filter _).filter _
 ·exact .nil
theorem Jb (h:Sz) (e:Ed):gB (lS 3) [some (.var (h.cells.map .rv)),some (.var (e.cells.map .rv)),some (.var wA)]:=⟨gD,gD,gD (rs:=cF none),trivial⟩
theorem DB (l:List Nd) (hb:l.length≤1000) (n:Int) (w:Int) (h:Sz) (e:Ed) (bx:Nat→Option (Fm×La)) (more:Int) (ks:List Nat) (hks:(more<0∧ks=bl l n)∨∃ x:Nat,more=x∧ks=gH (bl l n) x) (Pu:ks.length≤1000)
 (hlen:∀ m∈ks,∀ q,bx m=some q→q.2.L.length≤1000)
 (hB:gf w h=true→∀ m∈ks,aI Go.Proofs.Try.prog 26 [.rv (bM l),.rv (.int .i64 m),.rv (.int .i64 w),h.sv,.rv (.bool (cq l n).cn)] [] [] (nk (bx m))) :
 aI Go.Proofs.Try.prog 28 [.rv (bM l),.rv (.int .i64 n),.rv (.int .i64 w),h.sv,e.sv,.rv (.int .i64 more)] [] [] (.aM [.agg ((cF (gd bx ks (gf w h) e.mV e.mz).1).map .rv),.rv (.bool (gd bx ks (gf w h) e.mV e.mz).2)]):=by
 refine bH Kh [.rv (bM l),.rv (.int .i64 n),.rv (.int .i64 w),h.sv,e.sv,.rv (.int .i64 more)] _ (by simp) (by simp [aP,bg,bu,aZ,bn,ai.sv,Ln.sv,Nd.sv]) (fun K hK=>?_)
 have hm:=DA w h
 have hfl:=yG ks
 have hst:=Dw l n
 unfold gd at hK
 cases hmay:gf w h with
 | false=>
   rw [hmay] at hm
   simp -implicitDefEqProofs only [hmay,Bool.false_eq_true,if_false] at hK
   conv in fc _ _ _ _=>reduce
   simp -implicitDefEqProofs only [Sz.sv,Sz.cells,Ed.sv,go_sem,Int.reduceNegSucc] at hm ⊢
   have bE:=hm;repeat' (first | (simp -implicitDefEqProofs only [go_sem,Int.reduceNegSucc,oI]) | (with_reducible refine aF ?_) | (with_reducible first | refine az bE ?_ | refine aA bE ?_) | ((first | refine ak (fun hg=>?_) (fun hg=>?_) | refine aC (fun hg=>?_) (fun hg=>?_) | refine aD (fun hg=>?_) (fun hg=>?_)) <;> try simp -implicitDefEqProofs only [hg,Bool.not_true,Bool.not_false]) | ((with_reducible apply And.intro);focus (first | trivial | omega | decide | (simp -implicitDefEqProofs only [maxLen];omega) | (simp [maxLen,aq,av,ax,aE,aj,ay,aB] <;> omega))) | fail)
   all_goals (refine (hK _ _ ?_).2;clear hK;simp -implicitDefEqProofs only [go_sem,Int.reduceNegSucc,bk,bq,bA,bI,aQ,aO,aN,cF] <;>(try simp_all [-Int.not_lt,-Int.not_le,aQ,aO,aN,cz,cF]) <;> try omega)
 | true=>
   rw [hmay] at hm
   simp -implicitDefEqProofs only [hmay,if_true] at hK
   have hB:=hB hmay
   conv in fc _ _ _ _=>reduce
   simp -implicitDefEqProofs only [Sz.sv,Sz.cells,Ed.sv,go_sem,Int.reduceNegSucc] at hm ⊢
   have flb:=uH l n
   apply Pb
   ·intro main
    rcases hks with ⟨hm0,hk⟩ | ⟨x,rfl,hk⟩
    ·have g0:decide (more≥0)=false:=decide_eq_false (by clear main;omega)
     have hf:=Dt l n (by clear main;omega)
     rw [← hk] at hf
     have y_2:=hm;have bL:=hf;repeat' (first | (simp -implicitDefEqProofs only [go_sem,Int.reduceNegSucc,g0,oI]) | (with_reducible first | refine az y_2 ?_ | refine aA y_2 ?_) | (with_reducible first | refine az bL ?_ | refine aA bL ?_) | ((first | refine ak (fun hg=>?_) (fun hg=>?_) | refine aC (fun hg=>?_) (fun hg=>?_) | refine aD (fun hg=>?_) (fun hg=>?_)) <;> try simp -implicitDefEqProofs only [hg,Bool.not_true,Bool.not_false]) | ((with_reducible apply And.intro);focus (first | trivial | omega | decide | (simp -implicitDefEqProofs only [maxLen];omega) | (simp [maxLen,aq,av,ax,aE,aj,ay,aB] <;> omega))) | fail)
     refine AV [(14,.rv (.sl 1 (aJ (aY ks)))),(0,.rv (bM l)),(1,.rv (.int .i64 n)),(2,.rv (.int .i64 w)),(9,.ptr 0 0),(10,.ptr 1 0),(12,.ptr 2 0)] [some (.var (h.cells.map .rv)),some (.var (e.cells.map .rv)),some (.var wA)] (bV (by simp [lk])) main
    ·have g0:decide ((x:Int)≥0)=true:=decide_eq_true (by clear main;omega)
     have hf:=Ds l n (by clear main;omega) 3
     have fW:=Ny l n (by clear main;omega) (Gb l n) 3 1 x
     have hin:=NL 3 4 1 0 (gT (bl l n) x) (bl l n).length x (nv l n) (by decide) (Ae l n) (Af _ _) (by clear main;omega)
     rw [wU,Jd,← hk] at hin
     rw [show (fU (aY (dr l n)) fun m=>!fD l m)=nv l n from rfl] at hf
     have gF:ks.length=(bl l n).length+1:=by rw [hk,ym]
     have bN:=hm;have cc:=hf;have cl:=fW;have cm:=hin;repeat' (first | (simp -implicitDefEqProofs only [go_sem,Int.reduceNegSucc,g0,oI]) | (with_reducible first | refine az bN ?_ | refine aA bN ?_) | (refine ct cc ?_ ?_ ?_;(focus (simp [aS,ag] <;> fail));(focus (simp [aW,aT] <;> fail))) | (refine cK cc ?_ ?_ ?_;(focus (simp [aS,ag] <;> fail));(focus (simp [aW,aT] <;> fail))) | (refine ct cl ?_ ?_ ?_;(focus (simp [aS,ag] <;> fail));(focus (simp [aW,aT] <;> fail))) | (refine cK cl ?_ ?_ ?_;(focus (simp [aS,ag] <;> fail));(focus (simp [aW,aT] <;> fail))) | (refine ct cm ?_ ?_ ?_;(focus (simp [aS,ag] <;> fail));(focus (simp [aW,aT] <;> fail))) | (refine cK cm ?_ ?_ ?_;(focus (simp [aS,ag] <;> fail));(focus (simp [aW,aT] <;> fail))) | ((first | refine ak (fun hg=>?_) (fun hg=>?_) | refine aC (fun hg=>?_) (fun hg=>?_) | refine aD (fun hg=>?_) (fun hg=>?_)) <;> try simp -implicitDefEqProofs only [hg,Bool.not_true,Bool.not_false]) | ((with_reducible apply And.intro);focus (first | trivial | omega | decide | (simp -implicitDefEqProofs only [maxLen];omega) | (simp [maxLen,aq,av,ax,aE,aj,ay,aB] <;> omega))) | fail)
     have htl:(aJ (aY ks)).take ((bl l n).length+1)=aJ (aY ks):=List.take_of_length_le (by clear main;rw [hfl];omega)
     refine AV _ _ ?_ main
     refine FQ (j:=3) (e:=1) (af:=2) (len:=(bl l n).length+1) (xs:=aJ (aY ks)) (h':=[some (.var (h.cells.map .rv)),some (.var (e.cells.map .rv)),some (.var wA)]) (C:=[some (.row 1 2 (aH (aJ (aY ks)))),some (.row 1 0 [[.rv (.int .i64 x)]])]) htl (Nat.zero_le _) (Jb h e) ?_ (by simp) rfl (by clear main;rw [hfl];omega) (mo _) ?_
     ·rfl
     ·simp [fP,lk,oF,oE]
   clear hks hm
   repeat' (first | (simp -implicitDefEqProofs only [go_sem,Int.reduceNegSucc,hfl]) | (with_reducible refine aF ?_) | ((first | refine ak (fun hg=>?_) (fun hg=>?_) | refine aC (fun hg=>?_) (fun hg=>?_) | refine aD (fun hg=>?_) (fun hg=>?_)) <;> try simp -implicitDefEqProofs only [hg,Bool.not_true,Bool.not_false]) | ((with_reducible apply And.intro);focus (first | trivial | omega | decide | (simp -implicitDefEqProofs only [maxLen];omega) | (simp [maxLen,aq,av,ax,aE,aj,ay,aB] <;> omega))) | fail)
   refine dN (ι:=List (Nat×Fm×La)) (fun rs=>[(54,.rv (.int .i64 rs.length)),(53,.rv (.int .i64 ks.length)),(52,.rv (.sl 1 (aJ (aY ks)))),(17,.ptr 3 0),(18,.row 4 rs.length rs.length),(19,.row 5 rs.length rs.length),(12,.ptr 2 0),(9,.ptr 0 0),(10,.ptr 1 0),(0,.rv (bM l)),(1,.rv (.int .i64 n)),(2,.rv (.int .i64 w))]) (vm h e)
    (fun rs=>rs.length≤ks.length∧(cg rs).length≤1001*rs.length∧lM bx ks=(lM bx (ks.drop rs.length)).map (rs ++ ·)) (fun rs=>ks.length - rs.length) [] ⟨Nat.zero_le _,by simp [cg],by cases hq:lM bx ks <;> simp [hq]⟩
    ((rM 18 1 0 rfl).trans ((rM 19 8 0 rfl).trans ((AB 3 26 0 rfl rfl).trans (bV (by simp [lk,aT]))))) (fun rs IE K' hN hX hR=>?_)
   obtain ⟨IA,PI,lu⟩:=IE
   simp -implicitDefEqProofs only [vm,nK,Sz.cells,go_sem,Int.reduceNegSucc]
   refine ak (fun hg=>?_) (fun hg=>?_)
   ·have aK:rs.length<ks.length:=by simp at hg;omega
    have wu:=cQ (k:=rs.length) (by omega)
    have hx:(aJ (aY ks))[rs.length]?.getD []=[.int .i64 (ks[rs.length]:Nat)]:=by simp [aJ,aY,aK]
    have lg:=hB _ (List.getElem_mem aK)
    rw [List.drop_eq_getElem_cons aK,lM] at lu
    have so:=hlen _ (List.getElem_mem aK)
    have AX:=gP (cq l n)
    have q1:((cq l n).cells.map U.rv).length=48:=rfl
    generalize ks[rs.length]=m at *
    cases xA:bx m with
    | none=>
      rw [xA] at lg lu
      simp -implicitDefEqProofs only [Option.map] at lu
      rw [lu] at hK
      simp -implicitDefEqProofs only [nk,cX,cF,Option.map,Option.isSome,List.map_cons,List.map_nil,Sz.sv,Sz.cells] at lg
      have cw:=hst;have cM:=lg;repeat' (first | (simp -implicitDefEqProofs only [go_sem,Int.reduceNegSucc,hfl,hx,AX,q1,aq]) | (with_reducible refine aF ?_) | (with_reducible first | refine az cw ?_ | refine aA cw ?_) | (with_reducible first | refine az cM ?_ | refine aA cM ?_) | ((first | refine ak (fun hg=>?_) (fun hg=>?_) | refine aC (fun hg=>?_) (fun hg=>?_) | refine aD (fun hg=>?_) (fun hg=>?_)) <;> try simp -implicitDefEqProofs only [hg,Bool.not_true,Bool.not_false]) | ((with_reducible apply And.intro);focus (first | trivial | omega | decide | (simp -implicitDefEqProofs only [maxLen];omega) | (simp [maxLen,aq,av,ax,aE,aj,ay,aB] <;> omega))) | fail)
      refine hR _ _ (hK _ _ ?_).2
      simp -implicitDefEqProofs only [go_sem,Int.reduceNegSucc,bk,bq,bA,bI,aQ,aO,aN,cF]
    | some q=>
      rw [xA] at lg lu
      obtain ⟨f,t⟩:=q
      have Ir:=so _ xA
      simp -implicitDefEqProofs only [Option.map_map] at lu
      have Bv:(cg rs).length≤1001000:=by omega
      have hrl:rs.length≤1000:=by omega
      have hv:2*rs.length+1+1=2*(rs.length+1):=by omega
      have ho:=LZ (rs:=rs) (r:=(m,f,t))
      have hc:=Fp (rs:=rs) (r:=(m,f,t))
      have hls:cg rs++[(m,f)]++t.L=cg (rs++[(m,f,t)]):=by rw [En];simp [lW]
      have II:(aJ (fL rs)).take rs.length=aJ (fL rs):=List.take_of_length_le (by rw [aj,yN];omega)
      have IJ:(eR (ep rs)).take rs.length=eR (ep rs):=List.take_of_length_le (by rw [rF];simp [ep])
      have l1:(aJ (fL rs)).length=rs.length:=by rw [aj,yN]
      have l2:(eR (ep rs)).length=rs.length:=by rw [rF];simp [ep]
      have l3:=nR (cg rs)
      have l4:=nR t.L
      have l5:(dg (cg rs++[(m,f)])).length=(cg rs).length+1:=by rw [nR];simp
      simp only at Ir
      simp -implicitDefEqProofs only [nk,cX,cF,Option.map,Option.isSome,Pl.cells,List.map_cons,List.map_nil,List.cons_append,List.nil_append,Sz.sv,Sz.cells] at lg
      have cT:=hst;have eA:=lg;repeat' (first | (simp -implicitDefEqProofs only [go_sem,Int.reduceNegSucc,hfl,hx,AX,q1,aq,xp,xq,AS,AR,Gp,Fq,EC,ED,Ez,vW,OM,ON,II,IJ,l1,l2,l3,l4,l5,wu,hv]) | (with_reducible refine aF ?_) | (with_reducible first | refine az cT ?_ | refine aA cT ?_) | (with_reducible first | refine az eA ?_ | refine aA eA ?_) | ((first | refine ak (fun hg=>?_) (fun hg=>?_) | refine aC (fun hg=>?_) (fun hg=>?_) | refine aD (fun hg=>?_) (fun hg=>?_)) <;> try simp -implicitDefEqProofs only [hg,Bool.not_true,Bool.not_false]) | ((with_reducible apply And.intro);focus (first | trivial | omega | decide | (simp -implicitDefEqProofs only [maxLen];omega) | (simp [maxLen,aq,av,ax,aE,aj,ay,aB] <;> omega) | (omega;done))) | fail)
      have hq:vm h e (rs++[(m,f,t)])=nK h e (rs.length+1) ((cg rs).length+1+t.L.length) (fL rs++[((cg rs).length:Int)]) (ep rs++[f.child]) (cg rs++[(m,f)]++t.L):=by
       unfold vm
       rw [ho,hc,← hls]
       simp -implicitDefEqProofs only [List.length_append,List.length_cons,List.length_nil,Nat.zero_add]
      refine hN (rs++[(m,f,t)]) _ _ ⟨by simp;omega,by rw [← hls];simp;omega,?_⟩ (by simp;omega) ?_
      ·rw [lu]
       simp -implicitDefEqProofs only [List.length_append,List.length_cons,List.length_nil,Nat.zero_add]
       congr 1
       funext x
       simp
      ·rw [hq]
       exact uy (h':=nK h e (rs.length+1) ((cg rs).length+1+t.L.length) (fL rs++[((cg rs).length:Int)]) (ep rs++[f.child]) (cg rs++[(m,f)]++t.L)) (Nat.zero_le _) (Ja _ _ _ _ _ _ _) (by simp [fP,lk,oF,nt,oE,nK])
   ·have aK:rs.length=ks.length:=by simp at hg;omega
    rw [aK,List.drop_length] at lu
    simp -implicitDefEqProofs only [lM,Option.map,List.append_nil] at lu
    rw [lu] at hK
    simp -implicitDefEqProofs only [lu] at hK
    simp -implicitDefEqProofs only [go_sem,Int.reduceNegSucc]
    refine hX _ _ _ ?_
    clear hN hX hR
    have hrl:rs.length≤1000:=by omega
    have hcl:(ep rs).length=rs.length:=by simp [ep]
    have hS:=NT (ep rs) e.mV (by omega) 5 rs.length 7 (by decide)
    rw [hcl] at hS
    cases sw:lP (ep rs) e.mV with
    | none=>
      rw [sw] at hS
      simp -implicitDefEqProofs only [sw] at hK
      have hv:=zp ⟨0,0⟩
      simp -implicitDefEqProofs only [pz,nT,Option.isSome,Su.sv,Su.cells,List.map_cons,List.map_nil] at hS hv
      have gn:=hS;have gp:=hv;repeat' (first | (simp -implicitDefEqProofs only [go_sem,Int.reduceNegSucc,xb,oI]) | (with_reducible refine aF ?_) | (refine ct gn ?_ ?_ ?_;(focus (simp [aS,ag] <;> fail));(focus (simp [aW,aT] <;> fail))) | (refine cK gn ?_ ?_ ?_;(focus (simp [aS,ag] <;> fail));(focus (simp [aW,aT] <;> fail))) | (with_reducible first | refine az gp ?_ | refine aA gp ?_) | ((first | refine ak (fun hg=>?_) (fun hg=>?_) | refine aC (fun hg=>?_) (fun hg=>?_) | refine aD (fun hg=>?_) (fun hg=>?_)) <;> try simp -implicitDefEqProofs only [hg,Bool.not_true,Bool.not_false]) | ((with_reducible apply And.intro);focus (first | trivial | omega | decide | (simp -implicitDefEqProofs only [maxLen];omega) | (simp [maxLen,aq,av,ax,aE,aj,ay,aB] <;> omega))) | fail)
      all_goals (refine (hK _ _ ?_).2;clear hK;simp -implicitDefEqProofs only [go_sem,Int.reduceNegSucc,bk,bq,bA,bI,aQ,aO,aN,cF] <;>(try simp_all [-Int.not_lt,-Int.not_le,aQ,aO,aN,cz,cF]) <;> try omega)
    | some q=>
      obtain ⟨p,ys⟩:=q
      rw [sw] at hS
      simp -implicitDefEqProofs only [sw] at hK
      have mR:=zu sw
      simp -implicitDefEqProofs only [List.length_nil,Nat.zero_add,hcl] at mR
      have hv:=zp p.cur
      simp -implicitDefEqProofs only [pz,nT,gA,Option.isSome,Pl.cells,Su.sv,Su.cells,List.map_cons,List.map_nil] at hS hv
      cases vj:qT p.cur with
      | false=>
        rw [vj] at hv
        simp -implicitDefEqProofs only [vj,Bool.false_eq_true,if_false] at hK
        have gq:=hS;have gu:=hv;repeat' (first | (simp -implicitDefEqProofs only [go_sem,Int.reduceNegSucc,xb,oI]) | (with_reducible refine aF ?_) | (refine ct gq ?_ ?_ ?_;(focus (simp [aS,ag] <;> fail));(focus (simp [aW,aT] <;> fail))) | (refine cK gq ?_ ?_ ?_;(focus (simp [aS,ag] <;> fail));(focus (simp [aW,aT] <;> fail))) | (with_reducible first | refine az gu ?_ | refine aA gu ?_) | ((first | refine ak (fun hg=>?_) (fun hg=>?_) | refine aC (fun hg=>?_) (fun hg=>?_) | refine aD (fun hg=>?_) (fun hg=>?_)) <;> try simp -implicitDefEqProofs only [hg,Bool.not_true,Bool.not_false]) | ((with_reducible apply And.intro);focus (first | trivial | omega | decide | (simp -implicitDefEqProofs only [maxLen];omega) | (simp [maxLen,aq,av,ax,aE,aj,ay,aB] <;> omega))) | fail)
        all_goals (refine (hK _ _ ?_).2;clear hK;simp -implicitDefEqProofs only [go_sem,Int.reduceNegSucc,bk,bq,bA,bI,aQ,aO,aN,cF] <;>(try simp_all [-Int.not_lt,-Int.not_le,aQ,aO,aN,cz,cF]) <;> try omega)
      | true=>
        rw [vj] at hv
        simp -implicitDefEqProofs only [vj,if_true] at hK
        have gw:=hS;have gx:=hv;repeat' (first | (simp -implicitDefEqProofs only [go_sem,Int.reduceNegSucc,xb,oI]) | (with_reducible refine aF ?_) | (refine ct gw ?_ ?_ ?_;(focus (simp [aS,ag] <;> fail));(focus (simp [aW,aT] <;> fail))) | (refine cK gw ?_ ?_ ?_;(focus (simp [aS,ag] <;> fail));(focus (simp [aW,aT] <;> fail))) | (with_reducible first | refine az gx ?_ | refine aA gx ?_) | ((first | refine ak (fun hg=>?_) (fun hg=>?_) | refine aC (fun hg=>?_) (fun hg=>?_) | refine aD (fun hg=>?_) (fun hg=>?_)) <;> try simp -implicitDefEqProofs only [hg,Bool.not_true,Bool.not_false]) | ((with_reducible apply And.intro);focus (first | trivial | omega | decide | (simp -implicitDefEqProofs only [maxLen];omega) | (simp [maxLen,aq,av,ax,aE,aj,ay,aB] <;> omega))) | fail)
        have IV:=aj ys
        have oR:=yX rs
        refine dN (ι:=Nat) (fun i=>[(119,.rv (.int .i64 i)),(118,.rv (.int .i64 rs.length)),(117,.row 4 rs.length rs.length),(17,.ptr 3 0),(25,.ptr 8 0),(27,.rv (.int .i64 (nc p.cur))),(10,.ptr 1 0),(12,.ptr 2 0)])
         (fun i=>nK h e rs.length (cg rs).length (fL rs) (ep rs) (ez rs (ys.take i))++[some (.row 1 ys.length (aH (aJ ys))),some (.var [.row 7 ys.length ys.length,.rv (.int .i64 p.kY),.rv (.int .i64 p.top.p),.rv (.int .i64 p.top.n),.rv (.int .i64 p.cur.p),.rv (.int .i64 p.cur.n),.rv (.bool p.mD)])])
         (fun i=>i≤rs.length) (fun i=>rs.length - i) 0 (Nat.zero_le _) (by rw [List.take_zero,oR];exact bV (by simp [lk])) (fun i hi K' hN hX hR=>?_)
        simp -implicitDefEqProofs only [nK,Sz.cells,go_sem,Int.reduceNegSucc]
        refine ak (fun hg=>?_) (fun hg=>?_)
        ·have hi4:i<rs.length:=by simp at hg;omega
         have wu:=cQ (k:=i) (by omega)
         have ho:=LY hi4
         have Ix:=yN (rs:=rs)
         have hy:=nL (show i<ys.length by omega)
         have oO:=Ms hi4 (show i<ys.length by omega)
         have oT:=Mt hi4 (show i<ys.length by omega)
         have hlt:(cg (rs.take i)).length<(cg rs).length:=by
          have:=(vO rs ys i hi4 (by omega)).1
          have:=(List.getElem?_eq_some_iff.1 this).1
          rwa [qH] at this
         have ew:(dg (ez rs (ys.take i))).length=(cg rs).length:=by rw [nR,qH]
         have eS:=aj (fL rs)
         have OD:=OE (rs[i].1,rs[i].2.1) ys[i]
         have xV:=Mq (rs[i].1,rs[i].2.1)
         repeat' (first | (simp -implicitDefEqProofs only [go_sem,Int.reduceNegSucc,ho,hy,oO,oT,ew,eS,Ix,OD,xV,wu,IV]) | (with_reducible refine aF ?_) | ((first | refine ak (fun hg=>?_) (fun hg=>?_) | refine aC (fun hg=>?_) (fun hg=>?_) | refine aD (fun hg=>?_) (fun hg=>?_)) <;> try simp -implicitDefEqProofs only [hg,Bool.not_true,Bool.not_false]) | ((with_reducible apply And.intro);focus (first | trivial | omega | decide | (simp -implicitDefEqProofs only [maxLen];omega) | (simp [maxLen,aq,av,ax,aE,aj,ay,aB] <;> omega) | (omega;done))) | fail)
         exact hN (i+1) _ _ (by omega) (by omega) (bV (by simp [lk]))
        ·have hi4:i=rs.length:=by simp at hg;omega
         have oU:ys.take i=ys:=List.take_of_length_le (by omega)
         rw [oU]
         clear oU hg
         simp -implicitDefEqProofs only [go_sem,Int.reduceNegSucc]
         refine hX _ _ _ ?_
         clear hN hX hR
         have hfit:=fN (qx rs (p,ys) e.mz).high
         have ew:(dg (ez rs ys)).length=(cg rs).length:=by rw [nR,qH]
         simp -implicitDefEqProofs only [qx] at hfit hK
         cases oO:p.mD <;> cases mQ:e.mz <;> simp -implicitDefEqProofs only [oO,mQ,Bool.false_eq_true,if_true,if_false] at hfit hK
         all_goals ((have gz:=hfit;repeat' (first | (simp -implicitDefEqProofs only [go_sem,Int.reduceNegSucc,FF,oI,oO,mQ]) | (with_reducible refine aF ?_) | (with_reducible first | refine az gz ?_ | refine aA gz ?_) | ((first | refine ak (fun hg=>?_) (fun hg=>?_) | refine aC (fun hg=>?_) (fun hg=>?_) | refine aD (fun hg=>?_) (fun hg=>?_)) <;> try simp -implicitDefEqProofs only [hg,Bool.not_true,Bool.not_false]) | ((with_reducible apply And.intro);focus (first | trivial | omega | decide | (simp -implicitDefEqProofs only [maxLen];omega) | (simp [maxLen,aq,av,ax,aE,aj,ay,aB] <;> omega))) | fail)))
         all_goals (refine (hK _ _ ?_).2;simp -implicitDefEqProofs only [go_sem,Int.reduceNegSucc,bk,bq,bA,bI,aQ,aO,aN,cF,Pl.cells,oO])
         all_goals (refine ⟨CY rfl rfl (by rw [ew]) (Mr _),CY rfl rfl (by rw [aj]) (mo _)⟩)
theorem Ok (l:List Nd) (hb:l.length≤1000) (n:Int) (w:Int) (h:Sz) (e:Ed) (bx:Nat→Option (Fm×La)) (hlen:∀ m∈bl l n,∀ q,bx m=some q→q.2.L.length≤1000)
 (hB:∀ m∈bl l n,aI Go.Proofs.Try.prog 26 [.rv (bM l),.rv (.int .i64 m),.rv (.int .i64 w),h.sv,.rv (.bool (cq l n).cn)] [] [] (nk (bx m))) :
 aI Go.Proofs.Try.prog 28 [.rv (bM l),.rv (.int .i64 n),.rv (.int .i64 w),h.sv,e.sv,.rv (.int .i64 (-1))] [] [] (.aM [.agg ((cF (gd bx (bl l n) (gf w h) e.mV e.mz).1).map .rv),.rv (.bool (gd bx (bl l n) (gf w h) e.mV e.mz).2)]):=
 DB l hb n w h e bx (-1) (bl l n) (.inl ⟨by decide,rfl⟩) (by have:=uH l n;omega) hlen (fun _=>hB)
end Go.aG

namespace Go.aG
open Go
def yl (l:List Nd) (bd:Nat→Int→Sz→Bool→Option (Fm×La)) (n:Nat) (e:Ed) (x:Ao):Option La×Bool:=
 gd (fun m=>bd m x.w (nG e) (cq l n).cn) (bl l n) (gf x.w (nG e)) e.mV e.mz
def mE (l:List Nd):Nat→Nat→Int→Sz→Bool→Option (Fm×La)
 | 0,_,_,_,_=>none
 | d+1,n,w,h,cn=>rD l (yl l (mE l d) n) n w h cn
def Pp (l:List Nd) (n:Int) (w:Int) (h:Sz) (cn:Bool):Option (Fm×La):=if (mU l n && gf w h)=true then mE l (l.length+1) n.toNat w h cn else none
theorem Gm (l:List Nd) (n:Int):(bl l n).Pairwise (·< ·):=by
 unfold bl dr
 split
 ·unfold dB bK
  exact (List.pairwise_lt_range.filter _).filter _
 ·exact .nil
theorem oL {l:List Nd} {n:Nat} {m:Nat} (h:m∈bl l n):0<m∧m<l.length∧bp l m=n:=by
 have h:=(List.mem_filter.1 h).1
 unfold dr at h
 split at h
 ·exact qz.1 (by simpa using h)
 ·simp at h
theorem Gn {l:List Nd} (hs:cZ l) {n:Nat} (hn:n<l.length):(bl l n).Pairwise (fun x y=>cV l x≤y)∧∀ m∈bl l n,n+1≤m∧m≤cV l m∧cV l m≤cV l n:=by
 have hwf:=hs.wf
 refine ⟨?_,fun m hm=>?_⟩
 ·refine List.Pairwise.imp_of_mem (fun {x y} hx hy hlt=>?_) (Gm l n)
  obtain ⟨x1,x2,x3⟩:=oL hx
  obtain ⟨y1,y2,y3⟩:=oL hy
  have PN:=hs.up x x1 x2
  apply Classical.byContradiction
  intro hc
  have:=(hs.below x2 y2).2 ⟨by omega,by omega⟩
  rcases (oX hwf y1 y2).1 this with h | h
  ·omega
  ·rw [y3] at h
   have:=qE _ _ h
   simp at this
   omega
 ·obtain ⟨m1,m2,m3⟩:=oL hm
  have hu:=hs.up m m1 m2
  obtain ⟨g1,g2⟩:=hs.rK m2
  refine ⟨by omega,by omega,?_⟩
  have h1:=(hs.below m2 (show cV l m - 1<l.length by omega)).2 ⟨by omega,by omega⟩
  have h2:n∈br l m:=(oX hwf m1 m2).2 (.inr (by rw [m3];simpa using vw))
  have:=(hs.below hn (show cV l m - 1<l.length by omega)).1 (yV h1 n h2)
  omega
theorem DJ (e:Nat→Nat):∀ (ks:List Nat) (a b:Nat),ks.Pairwise (fun x y=>e x≤y)→(∀ k∈ks,a≤k∧k≤e k∧e k≤b)→(ks.map fun k=>e k - k).sum≤b - a
 | [],_,_,_,_=>by simp
 | k::ks,a,b,hp,hk=>by
   rw [List.pairwise_cons] at hp
   have:=DJ e ks (e k) b hp.2 (fun x hx=>⟨hp.1 x hx,(hk x (.tail _ hx)).2⟩)
   have:=hk k (.head _)
   simp -implicitDefEqProofs only [List.map_cons,List.sum_cons]
   omega
theorem ze {bx:Nat→Option (Fm×La)} {g:Nat→Nat}:∀ {ks:List Nat} {rs:List (Nat×Fm×La)},lM bx ks=some rs→(∀ m∈ks,∀ q,bx m=some q→q.2.L.length+1≤g m)→(cg rs).length≤(ks.map g).sum
 | [],rs,h,_=>by cases h;simp [cg]
 | m::ks,rs,h,hg=>by
   rw [lM] at h
   split at h
   ·rename_i q hq
    rw [Option.map_eq_some_iff] at h
    obtain ⟨rs',h1,rfl⟩:=h
    have:=ze h1 (fun x hx=>hg x (.tail _ hx))
    have:=hg m (.head _) q hq
    show (lW (m,q)++cg rs').length≤_
    simp -implicitDefEqProofs only [lW,List.length_append,List.length_cons,List.map_cons,List.sum_cons]
    omega
   ·cases h
theorem BR {bx:Nat→Option (Fm×La)} {ks:List Nat} {ok ot ob:Bool} {t:La} (h:(gd bx ks ok ot ob).1=some t):∃ rs q,lM bx ks=some rs∧lP (ep rs) ot=some q∧t=qx rs q ob:=by
 unfold gd at h
 repeat' split at h
 all_goals first | (cases h;done) | (cases h;exact ⟨_,_,by assumption,by assumption,rfl⟩)
theorem EX {l:List Nd} {ins:Ed→Ao→Option La×Bool} {n w:Int} {h:Sz} {cn:Bool} {q:Fm×La} (hq:rD l ins n w h cn=some q):∃ x,oB (rm l n w h cn)=some x∧okB l n w h=true∧(ins (ef l n w h) x)=(some q.2,true)∧q.1=uL (ef l n w h) x (bl l n).length q.2:=by
 unfold rD at hq
 split at hq
 ·rename_i hok
  rw [Option.bind_eq_some_iff] at hq
  obtain ⟨x,hx,hf⟩:=hq
  unfold qb at hf
  split at hf
  ·rename_i h2
   rw [Option.bind_eq_some_iff] at hf
   obtain ⟨t,ht,hf⟩:=hf
   split at hf
   ·cases hf;exact ⟨x,hx,hok,Prod.ext ht h2,rfl⟩
   ·cases hf
  ·cases hf
 ·cases hq
theorem tP {l:List Nd} (hs:cZ l):∀ (d n:Nat) (w:Int) (h:Sz) (cn:Bool) (q:Fm×La),n<l.length→mE l d n w h cn=some q→q.2.L.length+1≤cV l n - n
 | 0,_,_,_,_,_,_,h=>by cases h
 | d+1,n,w,h,cn,q,hn,hq=>by
   obtain ⟨x,_,_,hi,_⟩:=EX hq
   obtain ⟨rs,z,h1,h2,h3⟩:=BR (t:=q.2) (by rw [show gd _ _ _ _ _=yl l (mE l d) n (ef l n w h) x from rfl,hi])
   obtain ⟨p1,p2⟩:=Gn hs hn
   have hl:=ze (g:=fun m=>cV l m - m) h1 (fun m hm r hr=>tP hs d m _ _ _ r (oL hm).2.1 hr)
   have PL:=DJ (cV l) _ (n+1) (cV l n) p1 p2
   have:=(hs.rK hn).1
   rw [h3]
   simp -implicitDefEqProofs only [qx,qH]
   omega
theorem Dy (l:List Nd) (hs:cZ l) (hb:l.length≤1000):∀ (d n:Nat) (w:Int) (h:Sz) (cn:Bool),n<l.length→l.length<n+d→aI Go.Proofs.Try.prog 26 [.rv (bM l),.rv (.int .i64 n),.rv (.int .i64 w),h.sv,.rv (.bool cn)] [] [] (nk (mE l d n w h cn))
 | 0,n,w,h,cn,hn,hd=>by omega
 | d+1,n,w,h,cn,hn,hd=>by
   refine Oa l (by omega) n w h cn (yl l (mE l d) n) (fun e x hq=>Jj hq) (fun x=>?_)
   refine Ok l hb n x.w (nG (ef l n w h)) (ef l n w h) (fun m=>mE l d m x.w (nG (ef l n w h)) (cq l n).cn) (fun m hm q hq=>?_) (fun m hm=>?_)
   ·have:=tP hs d m _ _ _ q (oL hm).2.1 hq
    have:=(hs.rK (oL hm).2.1).2
    omega
   ·obtain ⟨h1,h2,h3⟩:=oL hm
    have:=hs.up m h1 h2
    exact Dy l hs hb d m _ _ _ h2 (by omega)
end Go.aG

namespace Go.aG
open Go
theorem Kb:aV Go.Proofs.Try.prog 15 60 (fc Go.Proofs.Try.prog 15 60 [(.c 10 25 true),(.t 11)]) [(.c 10 25 true),(.t 11)]:=bh (by kernel_rfl)
theorem Kw:aV Go.Proofs.Try.prog 30 35 (fc Go.Proofs.Try.prog 30 35 [(.t 10),(.t 11)]) [(.t 10),(.t 11)]:=bh (by kernel_rfl)
theorem Kv:aV Go.Proofs.Try.prog 17 15 (fc Go.Proofs.Try.prog 17 15 [(.t 2)]) [(.t 2)]:=bh (by kernel_rfl)
def zE (al ot:Bool):Ed:=⟨⟨⟨false,0⟩,⟨false,0⟩,⟨false,0⟩,⟨false,0⟩⟩,⟨⟨false,0⟩,⟨false,0⟩,⟨false,0⟩,⟨false,0⟩⟩,⟨0,0,0,0⟩,⟨false,0⟩,0,0,al,false,ot,false⟩
def nJ (l:List Nd) (n:Int) (ks:List Nat) (w:Int) (h:Sz) (ot:Bool):Option La×Bool:=gd (fun m=>mE l (l.length+1) m w h (cq l n).cn) ks (gf w h) ot false
theorem Jc (l:List Nd) (n:Int) (ks:List Nat) (w:Int) (h:Sz) (ot:Bool) (hm:gf w h=false):nJ l n ks w h ot=(none,false):=by simp [nJ,gd,hm]
theorem yz {l:List Nd} (hs:cZ l) {n:Int} {m:Nat} (h:m∈bl l n):m<l.length:=(Ga hs h).2
theorem Oj (l:List Nd) (hs:cZ l) (hb:l.length≤900) (n w:Int) (h:Sz) (al ot:Bool) (more:Int) (ks:List Nat) (hks:(more<0∧ks=bl l n)∨∃ x:Nat,x<l.length∧more=x∧ks=gH (bl l n) x) :
 aI Go.Proofs.Try.prog 28 [.rv (bM l),.rv (.int .i64 n),.rv (.int .i64 w),h.sv,(zE al ot).sv,.rv (.int .i64 more)] [] [] (.aM [.agg ((cF (nJ l n ks w h ot).1).map .rv),.rv (.bool (nJ l n ks w h ot).2)]):=by
 have fl:=uH l n
 have hm:∀ m∈ks,m<l.length:=fun m hm=>by
  rcases hks with ⟨_,rfl⟩ | ⟨x,hx,_,rfl⟩
  ·exact yz hs hm
  ·rcases BP.1 hm with rfl | hm
   ·exact hx
   ·exact yz hs hm
 refine DB l (by omega) n w h (zE al ot) (fun m=>mE l (l.length+1) m w h (cq l n).cn) more ks ?_ ?_ (fun m hk q hq=>?_) (fun _ m hk=>?_)
 ·rcases hks with h1 | ⟨x,_,h1,h2⟩
  ·exact .inl h1
  ·exact .inr ⟨x,h1,h2⟩
 ·rcases hks with ⟨_,rfl⟩ | ⟨x,hx,_,rfl⟩
  ·omega
  ·rw [ym];omega
 ·have:=tP hs _ m _ _ _ q (hm m hk) hq
  have:=(hs.rK (hm m hk)).2
  omega
 ·exact Dy l hs (by omega) (l.length+1) m w h _ (hm m hk) (by omega)
def PR (l:List Nd) (n w:Int) (h:Sz):Option La×Bool:=if mW l n=true then nJ l n (bl l n) w h false else (none,false)
def xu (n:Int) (t:La):Option Fm:=(t.L.find? fun q=>((q.1:Int) == n)).map (·.2)
def zC (n:Int) (r:Option La×Bool):Option Fm:=if r.2=true then r.1.bind (xu n) else none
def ou (l:List Nd) (n:Int) (w:Int) (h:Sz) (op:Bool):Option Fm:=if mW l n=true then zC n (nJ l (gK l n) (gH (bl l (gK l n)) n.toNat) w h op) else none
theorem Mu (q:Nat×Fm):(eJ q)[0]?=some (.int .i64 q.1):=rfl
theorem Mv (q:Nat×Fm):((eJ q).map U.rv)[0]?=some (.rv (.int .i64 q.1)):=rfl
theorem Mw (q:Nat×Fm):(((eJ q).map U.rv).drop 1).take 25=q.2.cells.map U.rv:=rfl
theorem Mx (q:Nat×Fm):((eJ q).drop 1).take 25=q.2.cells:=rfl
theorem My (q:Nat×Fm):(eJ q).take 26=eJ q:=rfl
theorem Mz (q:Nat×Fm):((eJ q).map U.rv).take 26=(eJ q).map U.rv:=rfl
theorem MA (q:Nat×Fm):((eJ q).map U.rv).drop 26=[]:=rfl
theorem MB (q:Nat×Fm):(eJ q).length=26:=rfl
theorem MC {L:List (Nat×Fm)} {i:Nat} (h:i<L.length):(dg L)[i]?.getD []=eJ (L[i]'h):=by simp [dg,h]
theorem Ml {l:List Nd} {n:Int} (h:mW l n=true):∃ k:Nat,n=k∧0<k∧k<l.length:=by
 simp -implicitDefEqProofs only [mW,mU,Bool.and_eq_true,decide_eq_true_eq] at h
 obtain ⟨k,rfl,hk⟩:=oV h.1.1.1
 exact ⟨k,rfl,by omega,hk⟩
theorem IZ {l:List Nd} (hs:cZ l) {n:Int} {ks:List Nat} {w:Int} {h:Sz} {ot:Bool} {t:La} (hk:∀ m∈ks,m<l.length) (ht:(nJ l n ks w h ot).1=some t):t.L.length≤ks.length*(l.length+1)∧t.ys.length≤ks.length:=by
 obtain ⟨rs,q,h1,h2,rfl⟩:=BR ht
 have hr:=ze (g:=fun _=>l.length+1) h1 (fun m hm z hz=>by
  have:=tP hs _ m _ _ _ z (hk m hm) hz
  have:=(hs.rK (hk m hm)).2
  show _≤l.length+1
  omega)
 have hrl:rs.length=ks.length:=by
  clear h2 hr ht
  induction ks generalizing rs with
  | nil=>cases h1;rfl
  | cons m ks ih=>
    rw [lM] at h1
    split at h1
    ·rw [Option.map_eq_some_iff] at h1
     obtain ⟨rs',h3,rfl⟩:=h1
     simp [ih (fun m hm=>hk m (.tail _ hm)) rs' h3]
    ·cases h1
 have mR:=zu h2
 have hc:(ep rs).length=rs.length:=by simp [ep]
 simp -implicitDefEqProofs only [List.length_nil,Nat.zero_add,hc] at mR
 refine ⟨?_,by show q.2.length≤_;omega⟩
 show (ez rs q.2).length≤_
 rw [qH]
 have:(List.map (fun _=>l.length+1) ks).sum=ks.length*(l.length+1):=by
  clear hr hrl h1 ht hk
  induction ks with
  | nil=>simp
  | cons a ks ih=>simp [Nat.add_mul];omega
 omega
theorem NV (l:List Nd) (hs:cZ l) (hb:l.length≤900) (n w:Int) (h:Sz) (op:Bool):aI Go.Proofs.Try.prog 15 [.rv (bM l),.rv (.int .i64 n),.rv (.int .i64 w),h.sv,.rv (.bool op)] [] [] (.aM [.agg ((cX (ou l n w h op)).map .rv),.rv (.bool (ou l n w h op).isSome)]):=by
 refine bH Kb [.rv (bM l),.rv (.int .i64 n),.rv (.int .i64 w),h.sv,.rv (.bool op)] _ (by simp) (by simp [aP,bg,bu,aZ,bn,ai.sv,Ln.sv,Nd.sv]) (fun K hK=>?_)
 have ho:=Dv l n
 have hw:=DA w h
 have hpa:=NP l n
 unfold ou at hK
 cases hout:mW l n with
 | false=>
   rw [hout] at ho
   simp -implicitDefEqProofs only [hout,Bool.false_eq_true,if_false] at hK
   conv in fc _ _ _ _=>reduce
   simp -implicitDefEqProofs only [Sz.sv,Sz.cells,go_sem,Int.reduceNegSucc] at hw ⊢
   have bE:=ho;repeat' (first | (simp -implicitDefEqProofs only [go_sem,Int.reduceNegSucc]) | (with_reducible refine aF ?_) | (with_reducible first | refine az bE ?_ | refine aA bE ?_) | ((first | refine ak (fun hg=>?_) (fun hg=>?_) | refine aC (fun hg=>?_) (fun hg=>?_) | refine aD (fun hg=>?_) (fun hg=>?_)) <;> try simp -implicitDefEqProofs only [hg,Bool.not_true,Bool.not_false]) | ((with_reducible apply And.intro);focus (first | trivial | omega | decide | (simp -implicitDefEqProofs only [maxLen];omega) | (simp [maxLen,aq,av,ax,aE,aj,ay,aB] <;> omega))) | fail)
   all_goals (refine (hK _ _ ?_).2;clear hK;simp -implicitDefEqProofs only [go_sem,Int.reduceNegSucc,bk,bq,bA,bI,aQ,aO,aN,cX] <;>(try simp_all [-Int.not_lt,-Int.not_le,aQ,aO,aN,cz,cX]) <;> try omega)
 | true=>
   rw [hout] at ho
   simp -implicitDefEqProofs only [hout,if_true] at hK
   cases xR:gf w h with
   | false=>
     rw [xR] at hw
     rw [Jc l _ _ w h _ xR] at hK
     simp -implicitDefEqProofs only [zC,Bool.false_eq_true,if_false] at hK
     conv in fc _ _ _ _=>reduce
     simp -implicitDefEqProofs only [Sz.sv,Sz.cells,go_sem,Int.reduceNegSucc] at hw ⊢
     have y_2:=ho;have bL:=hw;repeat' (first | (simp -implicitDefEqProofs only [go_sem,Int.reduceNegSucc]) | (with_reducible refine aF ?_) | (with_reducible first | refine az y_2 ?_ | refine aA y_2 ?_) | (with_reducible first | refine az bL ?_ | refine aA bL ?_) | ((first | refine ak (fun hg=>?_) (fun hg=>?_) | refine aC (fun hg=>?_) (fun hg=>?_) | refine aD (fun hg=>?_) (fun hg=>?_)) <;> try simp -implicitDefEqProofs only [hg,Bool.not_true,Bool.not_false]) | ((with_reducible apply And.intro);focus (first | trivial | omega | decide | (simp -implicitDefEqProofs only [maxLen];omega) | (simp [maxLen,aq,av,ax,aE,aj,ay,aB] <;> omega))) | fail)
     all_goals (refine (hK _ _ ?_).2;clear hK;simp -implicitDefEqProofs only [go_sem,Int.reduceNegSucc,bk,bq,bA,bI,aQ,aO,aN,cX] <;>(try simp_all [-Int.not_lt,-Int.not_le,aQ,aO,aN,cz,cX]) <;> try omega)
   | true=>
     rw [xR] at hw
     obtain ⟨k,rfl,k0,kl⟩:=Ml hout
     rw [Int.toNat_natCast] at hK
     have hin:=Oj l hs hb (gK l k) w h (!op) op k (gH (bl l (gK l k)) k) (.inr ⟨k,kl,rfl,rfl⟩)
     have hlen:=fun t=>@IZ l hs (gK l k) (gH (bl l (gK l k)) k) w h op t (fun m hm=>by
      rcases BP.1 hm with rfl | hm
      ·exact kl
      ·exact yz hs hm)
     have hks:(gH (bl l (gK l k)) k).length≤901:=by rw [ym];have:=uH l (gK l k);omega
     generalize gH (bl l (gK l k)) k=ks at *
     generalize nJ l (gK l k) ks w h op=r at *
     obtain ⟨r1,r2⟩:=r
     unfold zC at hK
     dsimp at hin hK hlen
     conv in fc _ _ _ _=>reduce
     simp -implicitDefEqProofs only [Sz.sv,Sz.cells,Ed.sv,Ed.cells,zE,Q4.eL,Q4.ints,List.map_cons,List.map_nil,List.cons_append,List.nil_append,go_sem,Int.reduceNegSucc] at hw hin ⊢
     cases r2 with
     | false=>
       simp -implicitDefEqProofs only [Bool.false_eq_true,if_false] at hK
       obtain ⟨u,hu,lz⟩:∃ u,cF r1=u∧u.length=9:=⟨_,rfl,by cases r1 <;> rfl⟩
       rw [hu] at hin
       have v1:(u.map U.rv).drop 9=[]:=List.drop_of_length_le (by simp [lz])
       have v2:(u.map U.rv).take 9=u.map U.rv:=List.take_of_length_le (by simp [lz])
       have bN:=ho;have cc:=hw;have cl:=hpa;have cm:=hin;repeat' (first | (simp -implicitDefEqProofs only [go_sem,Int.reduceNegSucc,lz,v1,v2,List.length_map,List.append_nil]) | (with_reducible refine aF ?_) | (with_reducible first | refine az bN ?_ | refine aA bN ?_) | (with_reducible first | refine az cc ?_ | refine aA cc ?_) | (with_reducible first | refine az cl ?_ | refine aA cl ?_) | (with_reducible first | refine az cm ?_ | refine aA cm ?_) | ((first | refine ak (fun hg=>?_) (fun hg=>?_) | refine aC (fun hg=>?_) (fun hg=>?_) | refine aD (fun hg=>?_) (fun hg=>?_)) <;> try simp -implicitDefEqProofs only [hg,Bool.not_true,Bool.not_false]) | ((with_reducible apply And.intro);focus (first | trivial | omega | decide | (simp -implicitDefEqProofs only [maxLen];omega) | (simp [maxLen,aq,av,ax,aE,aj,ay,aB] <;> omega))) | fail)
       all_goals (refine (hK _ _ ?_).2;clear hK;simp -implicitDefEqProofs only [go_sem,Int.reduceNegSucc,bk,bq,bA,bI,aQ,aO,aN,cX] <;>(try simp_all [-Int.not_lt,-Int.not_le,aQ,aO,aN,cz,cX]) <;> try omega)
     | true=>
       cases r1 with
       | none=>
         simp -implicitDefEqProofs only [if_true,Option.bind] at hK
         simp -implicitDefEqProofs only [cF,List.map_cons,List.map_nil] at hin
         have cw:=ho;have cM:=hw;have cT:=hpa;have eA:=hin;repeat' (first | (simp -implicitDefEqProofs only [go_sem,Int.reduceNegSucc]) | (with_reducible refine aF ?_) | (with_reducible first | refine az cw ?_ | refine aA cw ?_) | (with_reducible first | refine az cM ?_ | refine aA cM ?_) | (with_reducible first | refine az cT ?_ | refine aA cT ?_) | (with_reducible first | refine az eA ?_ | refine aA eA ?_) | ((first | refine ak (fun hg=>?_) (fun hg=>?_) | refine aC (fun hg=>?_) (fun hg=>?_) | refine aD (fun hg=>?_) (fun hg=>?_)) <;> try simp -implicitDefEqProofs only [hg,Bool.not_true,Bool.not_false]) | ((with_reducible apply And.intro);focus (first | trivial | omega | decide | (simp -implicitDefEqProofs only [maxLen];omega) | (simp [maxLen,aq,av,ax,aE,aj,ay,aB] <;> omega))) | fail)
         refine qf 1 ?_
         repeat' (first | (simp -implicitDefEqProofs only [go_sem,Int.reduceNegSucc,qU,qV,qW,qX,qY,qZ,pQ,Int.reduceLT,decide_true,decide_false,Int.reduceToNat,Nat.reduceMul]) | (with_reducible refine aF ?_) | (with_reducible show G _ _ (It.l _ _::_) _ _ _;refine qe ?_) | ((first | refine ak (fun hg=>?_) (fun hg=>?_) | refine aC (fun hg=>?_) (fun hg=>?_) | refine aD (fun hg=>?_) (fun hg=>?_)) <;> try simp -implicitDefEqProofs only [hg,Bool.not_true,Bool.not_false]) | ((with_reducible apply And.intro);focus (first | trivial | omega | decide | (simp -implicitDefEqProofs only [maxLen];omega) | (simp [maxLen,aq,av,ax,aE,aj,ay,aB] <;> omega))) | fail)
         all_goals (refine (hK _ _ ?_).2;clear hK;simp -implicitDefEqProofs only [go_sem,Int.reduceNegSucc,bk,bq,bA,bI,aQ,aO,aN,cX] <;>(try simp_all [-Int.not_lt,-Int.not_le,aQ,aO,aN,cz,cX]) <;> try omega)
       | some t=>
         have htl:=(hlen t rfl).1
         have PM:t.L.length≤1000000:=by
          have:ks.length*(l.length+1)≤901*901:=Nat.mul_le_mul hks (by omega)
          omega
         simp -implicitDefEqProofs only [if_true,Option.bind] at hK
         simp -implicitDefEqProofs only [cF,Pl.cells,List.map_cons,List.map_nil,List.cons_append,List.nil_append] at hin
         have ew:=nR t.L
         have gn:=ho;have gp:=hw;have gq:=hpa;have gu:=hin;repeat' (first | (simp -implicitDefEqProofs only [go_sem,Int.reduceNegSucc,ew]) | (with_reducible refine aF ?_) | (with_reducible first | refine az gn ?_ | refine aA gn ?_) | (with_reducible first | refine az gp ?_ | refine aA gp ?_) | (with_reducible first | refine az gq ?_ | refine aA gq ?_) | (with_reducible first | refine az gu ?_ | refine aA gu ?_) | ((first | refine ak (fun hg=>?_) (fun hg=>?_) | refine aC (fun hg=>?_) (fun hg=>?_) | refine aD (fun hg=>?_) (fun hg=>?_)) <;> try simp -implicitDefEqProofs only [hg,Bool.not_true,Bool.not_false]) | ((with_reducible apply And.intro);focus (first | trivial | omega | decide | (simp -implicitDefEqProofs only [maxLen];omega) | (simp [maxLen,aq,av,ax,aE,aj,ay,aB] <;> omega))) | fail)
         refine dN (ι:=Nat) (fun i=>[(48,.rv (.int .i64 i)),(47,.rv (.int .i64 t.L.length)),(46,.rv (.sl 26 (dg t.L))),(1,.rv (.int .i64 k)),(10,.ptr 1 0)])
          (fun _=>[some (.var (h.cells.map .rv)),some (.var ((cX none).map .rv)),some (.var ((cF (some t)).map .rv))]) (fun i=>i≤t.L.length∧(t.L.find? fun q=>((q.1:Int) ==(k:Int)))=(t.L.drop i).find? fun q=>((q.1:Int) ==(k:Int))) (fun i=>t.L.length - i) 0 ⟨Nat.zero_le _,rfl⟩ (bV (by simp [lk])) (fun i hi K' hN hX hR=>?_)
         obtain ⟨hi,lq⟩:=hi
         simp -implicitDefEqProofs only [cF,cX,Pl.cells,Sz.cells,go_sem,Int.reduceNegSucc]
         refine ak (fun hg=>?_) (fun hg=>?_)
         ·have hi4:i<t.L.length:=by simp at hg;omega
          have wu:=cQ (k:=i) (by omega)
          have y1:=MC hi4
          rw [List.drop_eq_getElem_cons hi4,List.find?_cons] at lq
          generalize t.L[i]=q at *
          have z0:=Mu q
          have z1:=Mv q
          have z2:=Mw q
          have z3:=Mx q
          have z4:=My q
          have z5:=Mz q
          have z6:=MA q
          have z7:=MB q
          have z8:=xp q.2
          cases hq:((q.1:Int) ==(k:Int)) with
          | true=>
            rw [hq] at lq
            dsimp at lq
            simp -implicitDefEqProofs only [xu,lq,Option.map,Option.isSome] at hK
            repeat' (first | (simp -implicitDefEqProofs only [go_sem,Int.reduceNegSucc,y1,z0,z1,z2,z3,z4,z5,z6,z7,z8,ew,hq,List.length_map,List.append_nil,List.length_drop]) | (with_reducible refine aF ?_) | ((first | refine ak (fun hg=>?_) (fun hg=>?_) | refine aC (fun hg=>?_) (fun hg=>?_) | refine aD (fun hg=>?_) (fun hg=>?_)) <;> try simp -implicitDefEqProofs only [hg,Bool.not_true,Bool.not_false]) | ((with_reducible apply And.intro);focus (first | trivial | omega | decide | (simp -implicitDefEqProofs only [maxLen];omega) | (simp [maxLen,aq,av,ax,aE,aj,ay,aB] <;> omega) | (omega;done))) | fail)
            refine hR _ _ (hK _ _ ?_).2
            simp -implicitDefEqProofs only [go_sem,Int.reduceNegSucc,bk,bq,bA,bI,aQ,aO,aN,cG,cX,z8,List.length_map,xq,AS]
          | false=>
            rw [hq] at lq
            dsimp at lq
            repeat' (first | (simp -implicitDefEqProofs only [go_sem,Int.reduceNegSucc,y1,z0,z1,z2,z3,z4,z5,z6,z7,z8,ew,hq,wu,List.length_map,List.append_nil,List.length_drop]) | (with_reducible refine aF ?_) | ((first | refine ak (fun hg=>?_) (fun hg=>?_) | refine aC (fun hg=>?_) (fun hg=>?_) | refine aD (fun hg=>?_) (fun hg=>?_)) <;> try simp -implicitDefEqProofs only [hg,Bool.not_true,Bool.not_false]) | ((with_reducible apply And.intro);focus (first | trivial | omega | decide | (simp -implicitDefEqProofs only [maxLen];omega) | (simp [maxLen,aq,av,ax,aE,aj,ay,aB] <;> omega) | (omega;done))) | fail)
            exact hN (i+1) _ _ ⟨by omega,lq⟩ (by omega) (uy (h':=[some (.var (h.cells.map .rv)),some (.var ((cX none).map .rv)),some (.var ((cF (some t)).map .rv))]) (Nat.zero_le _) ⟨gD,gD,gD,trivial⟩ (by simp [fP,lk,oF,oE]))
         ·have hi4:i=t.L.length:=by simp at hg;omega
          subst hi4
          rw [List.drop_length,List.find?_nil] at lq
          simp -implicitDefEqProofs only [xu,lq,Option.map,Option.isSome] at hK
          simp -implicitDefEqProofs only [go_sem,Int.reduceNegSucc]
          refine hX _ _ _ ?_
          repeat' (first | (simp -implicitDefEqProofs only [go_sem,Int.reduceNegSucc]) | (with_reducible refine aF ?_) | ((first | refine ak (fun hg=>?_) (fun hg=>?_) | refine aC (fun hg=>?_) (fun hg=>?_) | refine aD (fun hg=>?_) (fun hg=>?_)) <;> try simp -implicitDefEqProofs only [hg,Bool.not_true,Bool.not_false]) | ((with_reducible apply And.intro);focus (first | trivial | omega | decide | (simp -implicitDefEqProofs only [maxLen];omega) | (simp [maxLen,aq,av,ax,aE,aj,ay,aB] <;> omega))) | fail)
          all_goals (refine (hK _ _ ?_).2;clear hK;simp -implicitDefEqProofs only [go_sem,Int.reduceNegSucc,bk,bq,bA,bI,aQ,aO,aN,cX] <;>(try simp_all [-Int.not_lt,-Int.not_le,aQ,aO,aN,cz,cX]) <;> try omega)
def DR (r:Option Fm):List Int:=match r with
 | some f=>[f.y,IntKind.i64.wrap (0 - f.bC.a)]
 | none=>[]
def DQ (r:Option Fm):Int:=match r with
 | some f=>dy (DR (some f))
 | none=>0
def DP (r:Option Fm):Bool:=match r with
 | some f=>dx (DR (some f))
 | none=>false
theorem Gr (f:Fm):(f.cells.map U.rv)[1]?=some (.rv (.int .i64 f.y)):=rfl
theorem Gq (f:Fm):(f.cells.map U.rv)[4]?=some (.rv (.int .i64 f.bC.a)):=rfl
theorem NU (l:List Nd) (hs:cZ l) (hb:l.length≤900) (n w:Int) (h:Sz) (op:Bool):aI Go.Proofs.Try.prog 30 [.rv (bM l),.rv (.int .i64 n),.rv (.int .i64 w),h.sv,.rv (.bool op)] [] [] (.aM [.rv (.int .i64 (DQ (ou l n w h op))),.rv (.bool (DP (ou l n w h op)))]):=by
 refine bH Kw [.rv (bM l),.rv (.int .i64 n),.rv (.int .i64 w),h.sv,.rv (.bool op)] _ (by simp) (by simp [aP,bg,bu,aZ,bn,ai.sv,Ln.sv,Nd.sv]) (fun K hK=>?_)
 have hw:=NV l hs hb n w h op
 conv in fc _ _ _ _=>reduce
 simp -implicitDefEqProofs only [Sz.sv,Sz.cells,go_sem,Int.reduceNegSucc] at hw ⊢
 cases hr:ou l n w h op with
 | none=>
   rw [hr] at hw hK
   simp -implicitDefEqProofs only [cX,Option.isSome,List.map_cons,List.map_nil] at hw
   have gw:=hw;repeat' (first | (simp -implicitDefEqProofs only [go_sem,Int.reduceNegSucc]) | (with_reducible refine aF ?_) | (with_reducible first | refine az gw ?_ | refine aA gw ?_) | ((first | refine ak (fun hg=>?_) (fun hg=>?_) | refine aC (fun hg=>?_) (fun hg=>?_) | refine aD (fun hg=>?_) (fun hg=>?_)) <;> try simp -implicitDefEqProofs only [hg,Bool.not_true,Bool.not_false]) | ((with_reducible apply And.intro);focus (first | trivial | omega | decide | (simp -implicitDefEqProofs only [maxLen];omega) | (simp [maxLen,aq,av,ax,aE,aj,ay,aB] <;> omega))) | fail)
   refine (hK _ _ (eK ?_ ?_)).2 <;> rfl
 | some f=>
   rw [hr] at hw hK
   simp -implicitDefEqProofs only [cX,Option.isSome] at hw
   have z1:=xq f
   have z2:=AR f
   have z3:=xp f
   have z4:=Gr f
   have z5:=Gq f
   have hs:=fun id=>pH id [f.y,IntKind.i64.wrap (0 - f.bC.a)] (by simp)
   simp -implicitDefEqProofs only [gZ,List.map_cons,List.map_nil,List.length_cons,List.length_nil,Nat.reduceAdd] at hs
   have gx:=hw;have gz:=hs;repeat' (first | (simp -implicitDefEqProofs only [go_sem,Int.reduceNegSucc,z1,z2,z3,z4,z5,List.length_map,List.append_nil]) | (with_reducible refine aF ?_) | (with_reducible first | refine az gx ?_ | refine aA gx ?_) | ((first | refine ct (gz _) ?_ ?_ ?_ | refine cK (gz _) ?_ ?_ ?_ | fail);(focus (simp [aS,ag] <;> fail));(focus (simp [aW,aT] <;> fail))) | ((first | refine ak (fun hg=>?_) (fun hg=>?_) | refine aC (fun hg=>?_) (fun hg=>?_) | refine aD (fun hg=>?_) (fun hg=>?_)) <;> try simp -implicitDefEqProofs only [hg,Bool.not_true,Bool.not_false]) | ((with_reducible apply And.intro);focus (first | trivial | omega | decide | (simp -implicitDefEqProofs only [maxLen];omega) | (simp [maxLen,aq,av,ax,aE,aj,ay,aB] <;> omega))) | fail)
   refine (hK _ _ (eK ?_ ?_)).2 <;> rfl
def rB (s:ai):Bool:=(s.off.a.kind == 0) && (s.off.c.kind == 0)
theorem Dr (s:ai):aI Go.Proofs.Try.prog 17 [s.sv] [] [] (.rv (.bool (rB s))):=by
 refine bH Kv [s.sv] _ (by simp) (by simp [aP,bg,bu,aZ,bn,ai.sv,Ln.sv,Nd.sv]) (fun K hK=>?_)
 conv in fc _ _ _ _=>reduce
 simp -implicitDefEqProofs only [go_sem,Int.reduceNegSucc]
 repeat' (first | (simp -implicitDefEqProofs only [go_sem,Int.reduceNegSucc,iq,jB,ir,jC,iG,jN,iR,jY,jc,kz,jl,kK,jm,kL,jn,kM,jo,kN,jq,kO,iu,jD,iw,jE,iy,jF,iz,jG,iA,jH,iB,jI,iC,jJ,iD,jK,iE,jL,iF,jM,iH,jO,iI,jP,iJ,jQ,iK,jR,iL,jS,iM,jT,iN,jU,iO,jV,iP,jW,iQ,jX,iS,jZ,iT,ke,iU,kf,iV,kg,iW,ki,iX,kj,iY,kk,iZ,ko,ja,kr,jb,ku,jd,kC,je,kD,gP,kE,jf,kF,jg,kG,jh,kH,ji,kI,jk,kJ,jw,jr,js,jt,ju,jv,jx,jy,jz,jA,ij,gO,aq,Q4.mu,Ln.cells]) | (with_reducible refine aF ?_) | ((first | refine ak (fun hg=>?_) (fun hg=>?_) | refine aC (fun hg=>?_) (fun hg=>?_) | refine aD (fun hg=>?_) (fun hg=>?_)) <;> try simp -implicitDefEqProofs only [hg,Bool.not_true,Bool.not_false]) | ((with_reducible apply And.intro);focus (first | trivial | omega | decide | (simp -implicitDefEqProofs only [maxLen];omega) | (simp [maxLen,aq,av,ax,aE,aj,ay,aB] <;> omega))) | fail)
 all_goals (refine (hK _ _ ?_).2;clear hK;simp -implicitDefEqProofs only [go_sem,Int.reduceNegSucc,bk,bq,bA,bI,aQ,aO,aN,rB] <;>(try simp_all [-Int.not_lt,-Int.not_le,aQ,aO,aN,cz,rB]) <;> try omega)
end Go.aG

namespace Go.aG
open Go
theorem Gd (s:ai):∀ r∈s.cells,ec r:=by
 intro r hr
 simp -implicitDefEqProofs only [ai.cells,List.mem_cons,List.not_mem_nil,or_false] at hr
 repeat' rcases hr with rfl | hr
 all_goals first | exact .int _ _ | exact .bool _ | (subst hr;exact .int _ _)
theorem Ge (x:Nd):∀ r∈x.cells,ec r:=by
 intro r hr
 rcases List.mem_append.1 hr with hr | hr
 ·exact Gd _ r hr
 ·simp at hr;rw [hr];exact .int _ _
theorem Gc {e v:Nat} {xs:List (List RV)} (h:∀ x∈xs,∀ r∈x,ec r):lT (.row e v (aH xs)):=by
 refine .row _ _ _ (fun i x j y hx hy=>?_)
 unfold aH at hx
 rw [List.getElem?_map] at hx
 cases hq:xs[i]? with
 | none=>simp [hq] at hx
 | some z=>
   simp [hq] at hx
   subst hx
   rw [List.getElem?_map] at hy
   cases hr:z[j]? with
   | none=>simp [hr] at hy
   | some r=>simp [hr] at hy;subst hy;exact .rv _ (h z (List.mem_of_getElem? hq) r (List.mem_of_getElem? hr))
theorem NA (l:List Nd) (hb:l.length≤8589934592) (i v m:Nat) (hne:i≠m):aI Go.Proofs.Try.prog 23 [.row i v l.length] [(i,.row 49 v (aH (ck l)))] [(m,.row 49 1 (aH (ck l)))] (.row m 1 l.length):=by
 have h:=Nz (ck l) m (by rw [ax];exact hb)
 rw [ax] at h
 refine tW (rs:=[.sl 49 (ck l)]) h (fun hp hpre=>⟨?_,trivial⟩) rfl (.row _ _ _) (fun q hq=>?_)
 ·exact qd (hpre _ (.head _)) rfl (by simp [ck]) (yH l)
 ·simp at hq;subst hq
  refine ⟨Gc fun x hx=>?_,by simpa using hne⟩
  obtain ⟨n,_,rfl⟩:=List.mem_map.1 hx
  exact Ge n
theorem yK (x:Nd):(x.cells.map U.rv).take 49=x.cells.map U.rv:=rfl
def dI (l:List Nd) (k:Nat):List (List U):=(List.range l.length).map fun p=>[.row (p+7) (bK l k p).length (bK l k p).length]
def dA (l:List Nd) (k:Nat):List (Option HB):=(List.range l.length).map fun p=>some (.row 1 (bK l k p).length (aH (aJ (aY (bK l k p)))))
theorem sH (l:List Nd) (k:Nat):(dI l k).length=l.length:=by simp [dI]
theorem hD (l:List Nd) (k:Nat):(dA l k).length=l.length:=by simp [dA]
theorem Cb {l:List Nd} {k p:Nat} (hp:p<l.length):(dI l k)[p]?.getD []=[.row (p+7) (bK l k p).length (bK l k p).length]:=by simp [dI,hp]
theorem yw {l:List Nd} {k p:Nat} {C:List (Option HB)} (hp:p<l.length):ag (dA l k++C) p=some (.row 1 (bK l k p).length (aH (aJ (aY (bK l k p))))):=by
 unfold ag
 rw [List.getElem?_append_left (by rw [hD];exact hp)]
 simp [dA,hp]
theorem yu {l:List Nd} {k:Nat} {x:Option HB} {C:List (Option HB)}:ag (dA l k++x::C) l.length=x:=by
 unfold ag
 rw [List.getElem?_append_right (by rw [hD];exact Nat.le_refl _),hD]
 simp
theorem BZ {l:List Nd} {k:Nat} {x y:Option HB} {C:List (Option HB)}:ag (dA l k++x::y::C) (l.length+1)=y:=by
 unfold ag
 rw [List.getElem?_append_right (by rw [hD];omega),hD,show l.length+1 - l.length=1 by omega]
 simp
theorem Ca {l:List Nd} {k p:Nat} {hb:Option HB} {x y:Option HB} {C:List (Option HB)}:ag ((dA l k).set p hb++x::C) l.length=x:=by
 unfold ag
 rw [List.getElem?_append_right (by rw [List.length_set,hD];exact Nat.le_refl _),List.length_set,hD]
 simp
theorem yx {l:List Nd} {k:Nat} {x y:Option HB} {C:List (Option HB)}:(dA l k++x::C).set l.length y=dA l k++y::C:=by
 rw [List.set_append_right _ _ (by rw [hD];exact Nat.le_refl _),hD,Nat.sub_self];rfl
theorem JF {l:List Nd} {k p:Nat} {y:Option HB} {C:List (Option HB)} (hp:p<l.length):(dA l k++C).set p y=(dA l k).set p y++C:=by
 rw [List.set_append_left _ _ (by rw [hD];exact hp)]
theorem JG (l:List Nd):dA l 0=eg l.length 1:=by
 refine List.ext_getElem (by simp [dA,eg]) (fun i h1 h2=>?_)
 simp [dA,eg,yB,aY,aJ,aH]
theorem Cc (l:List Nd):dI l 0=dO 7 l.length l.length:=by
 refine List.ext_getElem (by simp [dI,dO]) (fun i h1 h2=>?_)
 simp [dI] at h1
 simp [dI,dO,yB,h1];omega
theorem JE {l:List Nd} {k p:Nat} (h0:0<k) (hp:bp l k=p) (hl:p<l.length) :
 (dA l k).set p (some (.row 1 ((bK l k p).length+1) (aH (aJ (aY (bK l k p)++[(k:Int)])))))=dA l (k+1):=by
 refine List.ext_getElem (by simp [dA]) (fun i h1 h2=>?_)
 simp -implicitDefEqProofs only [List.getElem_set,dA,List.getElem_map,List.getElem_range,yA]
 by_cases h:p=i
 ·subst h;simp [h0,hp,aY]
 ·rw [if_neg h,if_neg (by rw [hp];omega)];simp
theorem JJ {l:List Nd} {k p:Nat} (h0:0<k) (hp:bp l k=p) (hl:p<l.length) :
 (dI l k).set p [.row (p+7) ((bK l k p).length+1) ((bK l k p).length+1)]=dI l (k+1):=by
 refine List.ext_getElem (by simp [dI]) (fun i h1 h2=>?_)
 simp -implicitDefEqProofs only [List.getElem_set,dI,List.getElem_map,List.getElem_range,yA]
 by_cases h:p=i
 ·subst h;simp [h0,hp]
 ·rw [if_neg h,if_neg (by rw [hp];omega)];simp
theorem JD (l:List Nd):dA l 1=dA l 0:=by
 refine List.ext_getElem (by simp [dA]) (fun i h1 h2=>?_)
 simp [dA,bK,List.range_succ]
theorem JI (l:List Nd):dI l 1=dI l 0:=by
 refine List.ext_getElem (by simp [dI]) (fun i h1 h2=>?_)
 simp [dI,bK,List.range_succ]
def nN (v:Nat) (l:List Nd) (k:Nat) (es ds:List Int) (bs:List Bool):List (Option HB):=some (.row 49 v (aH (ck l)))::some (.row 49 1 (aH (ck l)))::some (.row 1 0 (dI l k))::some (.row 1 0 (aH (aJ es)))::some (.row 1 0 (aH (aJ ds)))::some (.row 1 0 (aH (eE bs)))::some (.var [.row 1 1 l.length,.row 2 0 l.length,.row 3 0 l.length,.row 4 0 l.length,.row 5 0 l.length])::dA l k
theorem yp {v:Nat} {l:List Nd} {k:Nat} {es ds:List Int} {bs:List Bool}:(nN v l k es ds bs).length=l.length+7:=by simp [nN,hD]
theorem JB {v:Nat} {l:List Nd} {k:Nat} {es ds:List Int} {bs:List Bool}:gB (lS (l.length+7)) (nN v l k es ds bs):=by
 refine ⟨lX,lX,fun i x hx=>?_,lX,lX,lX,by simp [lS,lR,nt],gB.of fun j x hx=>?_⟩
 ·obtain ⟨hl,rfl⟩:=List.getElem?_eq_some_iff.1 hx
  simp [sH] at hl
  simp [dI,lR,nt,hl]
 ·obtain ⟨hl,rfl⟩:=List.getElem?_eq_some_iff.1 hx
  exact ⟨.row 1 (bK l k j).length (aH (aJ (aY (bK l k j)))),by simp [dA],lX⟩
theorem yq {v:Nat} {l:List Nd} {k:Nat} {es ds:List Int} {bs:List Bool} {env env':List (Nat×U)} {C:List (Option HB)} (he:fP (l.length+7) env env'):cA 1 ⟨env,nN v l k es ds bs++C⟩ ⟨env',nN v l k es ds bs⟩:=
 uy (by rw [yp];omega) (by rw [yp];exact JB) (by rw [yp];exact he)
theorem Lg (v:Nat) (l:List Nd) {τ:Nat→Option Nat} (fJ:∀ j,0<j→τ j=none):Fz τ (ag (nN v l l.length (rL l) (bU l l.length) (cS l l.length))) (.ptr 6 0) (bM l):=by
 refine .ptr 6 [.row 1 1 l.length,.row 2 0 l.length,.row 3 0 l.length,.row 4 0 l.length,.row 5 0 l.length] _ (fJ _ (by decide)) rfl rfl (fun i r hr=>?_) (fun i x r hx hr=>?_)
 ·match i with
  | 0=>cases hr;rfl
  | 1=>cases hr;rfl
  | 2=>cases hr;rfl
  | 3=>cases hr;rfl
  | 4=>cases hr;rfl
  | i+5=>simp at hr
 ·match i with
  | 0=>cases hx;cases hr;exact qd rfl (fJ _ (by decide)) (by simp [ck]) (yH l)
  | 1=>
    cases hx;cases hr
    refine .row 2 1 0 l.length (dI l l.length) (mq l) (fJ _ (by decide)) rfl (by simp [mq]) (by rw [sH];exact Nat.le_refl _) (fun i x r hx hr=>?_) (fun i r k q hr hq=>?_) (fun i x r k y q hx hr hy hq=>?_)
    ·obtain ⟨_,rfl⟩:=List.getElem?_eq_some_iff.1 hx
     obtain ⟨_,rfl⟩:=List.getElem?_eq_some_iff.1 hr
     simp [dI,mq]
    ·obtain ⟨_,rfl⟩:=List.getElem?_eq_some_iff.1 hr
     have:=List.mem_of_getElem? hq
     simp [mq] at this
     rw [this];rfl
    ·obtain ⟨hl,rfl⟩:=List.getElem?_eq_some_iff.1 hx
     obtain ⟨_,rfl⟩:=List.getElem?_eq_some_iff.1 hr
     rw [sH] at hl
     cases k with
     | succ k=>simp [dI] at hy
     | zero=>
       simp [dI] at hy
       simp [mq] at hq
       subst hy;subst hq
       refine qd (xs:=aJ (aY (dB l i))) ?_ (fJ _ (by omega)) (by simp [aJ,aY,dB]) (mo _)
       have:=yw (k:=l.length) (C:=[]) hl
       rw [List.append_nil] at this
       exact this
  | 2=>cases hx;cases hr;exact qd rfl (fJ _ (by decide)) (by simp [aJ,rL]) (mo _)
  | 3=>cases hx;cases hr;exact qd rfl (fJ _ (by decide)) (by simp [aJ,bU]) (mo _)
  | 4=>cases hx;cases hr;exact qd rfl (fJ _ (by decide)) (by simp [eE,cS]) (EW _)
  | i+5=>simp at hx
theorem On (l:List Nd) (hb:l.length≤8589934592) (hc:nr l=0) (i0 v:Nat):aI Go.Proofs.Try.prog 9 [.row i0 v l.length] [(i0,.row 49 v (aH (ck l)))] [] (.aM [.rv (bM l),.rv (.int .i64 0)]):=by
 refine gR Ks [i0] [.row 49 v (aH (ck l))] [.row 49 v (aH (ck l))] [.row 0 v l.length] [.row i0 v l.length] _ _ (by simp) (by simp [aP,fA]) rfl (by simp [bG]) ⟨rfl,rfl,⟨rfl,_,rfl⟩,trivial⟩ (fun K hK=>?_)
 have hlen:=ax l
 have Be:=Oz l hb
 rw [hc] at Be
 have HR:=Cp (id:=0) (v:=v) (n:=l.length) (bs:=[]) Be (.int _ _) (by simp [ck]) (yH l)
 have ht:eM l=true:=by
  unfold nr at hc
  cases h:eM l with
  | true=>rfl
  | false=>rw [h] at hc;simp at hc
 have hs:cZ l:=zl.1 (by unfold eM at ht;simp -implicitDefEqProofs only [Bool.and_eq_true] at ht;exact ht.1)
 have FD:(((0:Int)) != 0)=false:=rfl
 conv in fc _ _ _ _=>reduce
 simp -implicitDefEqProofs only [go_sem,Int.reduceNegSucc]
 have hb2:(ck l).length≤8589934592:=by rw [hlen];exact hb
 have bE:=HR;have y_2:=NA l hb 0 v 1 (by decide);repeat' (first | (simp -implicitDefEqProofs only [go_sem,Int.reduceNegSucc,FD,hlen,zj,Nm]) | (with_reducible refine aF ?_) | (refine ct bE ?_ ?_ ?_;(focus (simp [aS,ag] <;> fail));(focus (simp [aW,aT] <;> fail))) | (refine cK bE ?_ ?_ ?_;(focus (simp [aS,ag] <;> fail));(focus (simp [aW,aT] <;> fail))) | (refine ct y_2 ?_ ?_ ?_;(focus (simp [aS,ag] <;> fail));(focus (simp [aW,aT] <;> fail))) | (refine cK y_2 ?_ ?_ ?_;(focus (simp [aS,ag] <;> fail));(focus (simp [aW,aT] <;> fail))) | ((first | refine ak (fun hg=>?_) (fun hg=>?_) | refine aC (fun hg=>?_) (fun hg=>?_) | refine aD (fun hg=>?_) (fun hg=>?_)) <;> try simp -implicitDefEqProofs only [hg,Bool.not_true,Bool.not_false]) | ((with_reducible apply And.intro);focus (first | trivial | omega | decide | (simp -implicitDefEqProofs only [maxLen];omega) | (simp [maxLen,aq,av,ax,aE,aj,ay,aB] <;> omega))) | fail)
 have PF:∀ n:Nat,dI l 0=dO 7 l.length l.length:=fun _=>Cc l
 let ev:Nat→List (Nat×U):=fun k=>[(33,.rv (.int .i64 k)),(32,.rv (.int .i64 l.length)),(31,.row 0 v l.length),(5,.ptr 6 0),(0,.row 0 v l.length)]
 refine dN (ι:=Nat) (fun k=>[(33,.rv (.int .i64 k)),(32,.rv (.int .i64 l.length)),(31,.row 0 v l.length),(5,.ptr 6 0),(0,.row 0 v l.length)]) (fun k=>some (.row 49 v (aH (ck l)))::some (.row 49 1 (aH (ck l)))::some (.row 1 0 (dI l k))::some (.row 1 0 (aH (aJ (List.replicate l.length 0))))::some (.row 1 0 (aH (aJ (bU l k))))::some (.row 1 0 (aH (eE (cS l k))))::some (.var [.row 1 1 l.length,.row 2 0 l.length,.row 3 0 l.length,.row 4 0 l.length,.row 5 0 l.length])::dA l k) (fun k=>k≤l.length) (fun k=>l.length - k) 0 (by simp) ?_ (fun k hk K' hN hX hR=>?_)
 ·refine (bV (env':=[(33,.rv (.int .i64 0)),(32,.rv (.int .i64 l.length)),(31,.row 0 v l.length),(5,.ptr 6 0),(0,.row 0 v l.length)]) (by simp [lk])).trans ?_
  rw [Cc,JG,Au,LK]
  exact FN (r:=2) (v:=0) (n:=l.length) (e:=1) rfl
 simp -implicitDefEqProofs only [go_sem,Int.reduceNegSucc]
 refine ak (fun hg=>?_) (fun hg=>?_)
 ·have aK:k<l.length:=by simp at hg;omega
  have hx:=mw aK
  have yD:=hD l k
  have hdl:=rJ l k
  have gX:=aj (bU l k)
  have qj:=mm (l:=bU l k) (i:=k) (by omega)
  have hml:=LJ l k
  have xQ:=zY (cS l k)
  have xP:=wL (bs:=cS l k) (i:=k) (by omega)
  have hsh:=Np aK
  have e1:(l.length=l.length+1)=False:=eq_false (by omega)
  have e2:(l.length=l.length+2)=False:=eq_false (by omega)
  have hds:=wZ aK
  have uT:=At aK
  have wu:=cQ (k:=k) (by omega)
  by_cases dX:0<k
  ·have hgt:decide ((k:Int)>0)=true:=decide_eq_true (by omega)
   obtain ⟨p1,p2⟩:=hs.wf.2 k dX aK
   obtain ⟨p,hp⟩:∃ p:Nat,bp l k=p:=⟨(bp l k).toNat,by omega⟩
   have ew:p<l.length:=by omega
   have q0:(p=l.length)=False:=eq_false (by omega)
   have q1:(p=l.length+1)=False:=eq_false (by omega)
   have q2:(p=l.length+2)=False:=eq_false (by omega)
   have hpk:=qB aK
   have PC:(bU l k).set k 1=(bU l k).set k 1:=rfl
   have uU:((bU l k).set k 1).length=l.length:=by simp [hdl]
   have Bj:=aj ((bU l k).set k 1)
   have qk:=mm (l:=(bU l k).set k 1) (i:=p) (by omega)
   have uS:=mm (l:=(bU l k).set k 1) (i:=k) (by omega)
   rw [As (by omega) (by omega)] at qk
   have rX:=Av hs.wf dX aK
   rw [hp,Int.toNat_natCast] at rX
   have wd:=cQ (k:=depth l p) (by have:=yU (l:=l) p;unfold depth;omega)
   rw [← rX] at wd
   obtain ⟨b,yd⟩:∃ b,qN l k=b:=⟨_,rfl⟩
   have hmp:=wL (bs:=(cS l k).set k b) (i:=p) (by simp [hml];omega)
   have hmk:=wL (bs:=(cS l k).set k b) (i:=k) (by simp [hml];omega)
   rw [LI (by omega) (by omega)] at hmp
   have Bz:((cS l k).set k b).length=l.length:=by simp [hml]
   have BA:=zY ((cS l k).set k b)
   have qt:((cS l k).set k b).set k (b && lH l p)=cS l (k+1):=by
    have:=LG hs.wf dX aK
    rw [hp,Int.toNat_natCast,yd] at this
    rw [List.set_set,← this,Cw aK]
   have sn:=sH l k
   have sk:=Cb (k:=k) ew
   have qp:=fun C=>yw (k:=k) (C:=C) ew
   have hkn:=JE dX hp ew
   have htn:=JJ dX hp ew
   have hsp:=fun (y:Option HB) C=>JF (k:=k) (y:=y) (C:=C) ew
   have gF:(aY (bK l k p)).length=(bK l k p).length:=by simp [aY]
   have sj:=aj (aY (bK l k p))
   have oU:(aJ (aY (bK l k p))).take (bK l k p).length=aJ (aY (bK l k p)):=List.take_of_length_le (by rw [sj,gF];exact Nat.le_refl _)
   have hkk:=vu (l:=l) (k:=k) (p:=p)
   cases b
   all_goals simp -implicitDefEqProofs only [Bool.false_and,Bool.true_and] at qt
   ·repeat' (first | (simp -implicitDefEqProofs only [go_sem,Int.reduceNegSucc,hlen,hx,yD,av,qA,yK,Nat.add_assoc,yu,List.append_assoc,hdl,gX,qj,hml,xQ,xP,nW,zk,yI,hsh,yd,e1,e2,yx,hgt,hpk,hp,vC,sn,sk,qp,q0,q1,q2,hsp,BZ,Ca,gF,sj,oU,vW,hkn,htn,uU,Bj,qk,uS,wd,uT,wu,hmp,hmk,Bz,BA]) | (with_reducible refine aF ?_) | ((first | refine ak (fun hg=>?_) (fun hg=>?_) | refine aC (fun hg=>?_) (fun hg=>?_) | refine aD (fun hg=>?_) (fun hg=>?_)) <;> try simp -implicitDefEqProofs only [hg,Bool.not_true,Bool.not_false]) | ((with_reducible apply And.intro);focus (first | trivial | omega | decide | (simp -implicitDefEqProofs only [maxLen];omega) | (simp [maxLen,aq,av,ax,aE,aj,ay,aB] <;> omega) | (simp (decide:=true) [ny,pT,kS,oH,Nat.testBit,q0,q1,q2];done))) | fail)
    rw [qt]
    exact hN (k+1) _ _ (by omega) (by omega) (yq (v:=v) (l:=l) (k:=k+1) (by simp [fP,lk,oF,oE,nt]))
   ·repeat' (first | (simp -implicitDefEqProofs only [go_sem,Int.reduceNegSucc,hlen,hx,yD,av,qA,yK,Nat.add_assoc,yu,List.append_assoc,hdl,gX,qj,hml,xQ,xP,nW,zk,yI,hsh,yd,e1,e2,yx,hgt,hpk,hp,vC,sn,sk,qp,q0,q1,q2,hsp,BZ,Ca,gF,sj,oU,vW,hkn,htn,uU,Bj,qk,uS,wd,uT,wu,hmp,hmk,Bz,BA]) | (with_reducible refine aF ?_) | ((first | refine ak (fun hg=>?_) (fun hg=>?_) | refine aC (fun hg=>?_) (fun hg=>?_) | refine aD (fun hg=>?_) (fun hg=>?_)) <;> try simp -implicitDefEqProofs only [hg,Bool.not_true,Bool.not_false]) | ((with_reducible apply And.intro);focus (first | trivial | omega | decide | (simp -implicitDefEqProofs only [maxLen];omega) | (simp [maxLen,aq,av,ax,aE,aj,ay,aB] <;> omega) | (simp (decide:=true) [ny,pT,kS,oH,Nat.testBit,q0,q1,q2];done))) | fail)
    rw [qt]
    exact hN (k+1) _ _ (by omega) (by omega) (yq (v:=v) (l:=l) (k:=k+1) (by simp [fP,lk,oF,oE,nt]))
  ·obtain rfl:k=0:=by omega
   have hgt:decide (((0:Nat):Int)>0)=false:=rfl
   rw [Aw] at hds
   have qt:=Cw aK
   rw [LH] at qt
   have HT:(bU l 0).set 0 1=bU l (0+1):=hds
   repeat' (first | (simp -implicitDefEqProofs only [go_sem,Int.reduceNegSucc,hlen,hx,yD,av,qA,yK,Nat.add_assoc,yu,List.append_assoc,hdl,gX,qj,hml,xQ,xP,nW,zk,yI,hsh,e1,e2,yx,hgt,wu,qt,HT]) | (with_reducible refine aF ?_) | ((first | refine ak (fun hg=>?_) (fun hg=>?_) | refine aC (fun hg=>?_) (fun hg=>?_) | refine aD (fun hg=>?_) (fun hg=>?_)) <;> try simp -implicitDefEqProofs only [hg,Bool.not_true,Bool.not_false]) | ((with_reducible apply And.intro);focus (first | trivial | omega | decide | (simp -implicitDefEqProofs only [maxLen];omega) | (simp [maxLen,aq,av,ax,aE,aj,ay,aB] <;> omega))) | fail)
   refine hN 1 _ _ (by omega) (by omega) ?_
   rw [JI,JD]
   exact yq (v:=v) (l:=l) (k:=0) (es:=List.replicate l.length 0) (ds:=bU l (0+1)) (bs:=cS l (0+1)) (C:=[some (.var ((l[0]'aK).cells.map .rv))]) (by simp [fP,lk,oF,oE,nt])
 ·have aK:k=l.length:=by simp at hg;omega
  subst aK
  simp -implicitDefEqProofs only [go_sem,Int.reduceNegSucc]
  refine hX _ _ _ ?_
  have wl:=zD hs.pos (by omega)
  repeat' (first | (simp -implicitDefEqProofs only [go_sem,Int.reduceNegSucc,hlen,wl]) | (with_reducible refine aF ?_) | ((first | refine ak (fun hg=>?_) (fun hg=>?_) | refine aC (fun hg=>?_) (fun hg=>?_) | refine aD (fun hg=>?_) (fun hg=>?_)) <;> try simp -implicitDefEqProofs only [hg,Bool.not_true,Bool.not_false]) | ((with_reducible apply And.intro);focus (first | trivial | omega | decide | (simp -implicitDefEqProofs only [maxLen];omega) | (simp [maxLen,aq,av,ax,aE,aj,ay,aB] <;> omega))) | fail)
  clear hN hX hR
  refine dN (ι:=Nat) (fun k=>[(8,.rv (.int .i64 ((k:Int) - 1))),(5,.ptr 6 0)]) (fun k=>nN v l l.length (dL l k) (bU l l.length) (cS l l.length)) (fun k=>k≤l.length) (fun k=>k) l.length (Nat.le_refl _) (by rw [FL];exact bV (by simp [lk];have:=hs.pos;omega)) (fun k hk K' hN hX hR=>?_)
  simp -implicitDefEqProofs only [nN,go_sem,Int.reduceNegSucc]
  refine ak (fun hg=>?_) (fun hg=>?_)
  ·have dX:0<k:=by simp at hg;omega
   obtain ⟨j,rfl⟩:∃ j,k=j+1:=⟨k - 1,by omega⟩
   have ej:(((j+1:Nat):Int) - 1)=(j:Int):=by omega
   have wj:=cQ (k:=j) (by omega)
   have hjl:j<l.length:=by omega
   have hel:=FJ l (j+1)
   have Bm:=aj (dL l (j+1))
   have uV:=mm (l:=dL l (j+1)) (i:=j) (by omega)
   have sn:=sH l l.length
   have sk:=Cb (k:=l.length) hjl
   have qp:=yw (k:=l.length) (C:=[]) hjl
   simp -implicitDefEqProofs only [List.append_nil] at qp
   have gF:(aY (bK l l.length j)).length=(bK l l.length j).length:=by simp [aY]
   have sj:=aj (aY (bK l l.length j))
   have hkk:=vu (l:=l) (k:=l.length) (p:=j)
   have mg:((dL l (j+1)).set j ((j+1:Nat):Int)).length=l.length:=by simp [hel]
   have IF:=aj ((dL l (j+1)).set j ((j+1:Nat):Int))
   have oT:=FK (l:=l) (k:=j+1) (by omega) (by omega)
   simp -implicitDefEqProofs only [Nat.add_sub_cancel] at oT
   have wd:IntKind.i64.wrap ((j:Int) - 1)=((j:Int) - 1):=wrap_i64 (by omega) (by omega)
   by_cases de:bK l l.length j=[]
   ·have hm0:decide ((((bK l l.length j).length:Nat):Int)>0)=false:=by rw [de];rfl
    have he:=AA de
    rw [he] at oT
    repeat' (first | (simp -implicitDefEqProofs only [go_sem,Int.reduceNegSucc,hel,Bm,uV,sn,sk,qp,ej,wj,hm0,nW,oT,wd]) | (with_reducible refine aF ?_) | ((first | refine ak (fun hg=>?_) (fun hg=>?_) | refine aC (fun hg=>?_) (fun hg=>?_) | refine aD (fun hg=>?_) (fun hg=>?_)) <;> try simp -implicitDefEqProofs only [hg,Bool.not_true,Bool.not_false]) | ((with_reducible apply And.intro);focus (first | trivial | omega | decide | (simp -implicitDefEqProofs only [maxLen];omega) | (simp [maxLen,aq,av,ax,aE,aj,ay,aB] <;> omega))) | fail)
    refine hN j _ _ (by omega) (by omega) (bV (by simp [lk]))
   ·obtain ⟨c,hc⟩:∃ c,(bK l l.length j).getLast?=some c:=by
     cases h:(bK l l.length j).getLast? with
     | none=>exact absurd (List.getLast?_eq_none_iff.1 h) de
     | some c=>exact ⟨c,rfl⟩
    have hpos:0<(bK l l.length j).length:=List.length_pos_iff.2 de
    have hm0:decide ((((bK l l.length j).length:Nat):Int)>0)=true:=decide_eq_true (by omega)
    have lp:c∈dB l j:=List.mem_of_getLast? hc
    obtain ⟨c1,c2,c3⟩:=qz.1 lp
    have HQ:j<c:=by have:=(hs.wf.2 c c1 c2).2;omega
    have he:=Az hc HQ c2
    rw [he] at oT
    have wm:=zD hpos (by omega)
    have HP:(aY (bK l l.length j)).getD ((bK l l.length j).length - 1) 0=(c:Int):=by
     rw [List.getLast?_eq_getElem?] at hc
     simp [aY,List.getD_eq_getElem?_getD,hc]
    have fe:=mm (l:=aY (bK l l.length j)) (i:=(bK l l.length j).length - 1) (by omega)
    rw [HP] at fe
    have Bl:=mm (l:=(dL l (j+1)).set j ((j+1:Nat):Int)) (i:=c) (by omega)
    have qn:=FI (l:=l) (k:=j+1) (j:=c) (v:=((j+1:Nat):Int)) (by omega) (by omega) c2
    simp -implicitDefEqProofs only [Nat.add_sub_cancel] at qn
    rw [qn] at Bl
    have HX:=mm (l:=(dL l (j+1)).set j ((j+1:Nat):Int)) (i:=j) (by omega)
    have yc:((dL l (j+1)).set j ((j+1:Nat):Int)).set j (cV l c)=dL l j:=by rw [List.set_set,oT]
    repeat' (first | (simp -implicitDefEqProofs only [go_sem,Int.reduceNegSucc,hel,Bm,uV,sn,sk,qp,ej,wj,hm0,nW,wd,wm,fe,Bl,HX,yc,mg,IF,gF,sj]) | (with_reducible refine aF ?_) | ((first | refine ak (fun hg=>?_) (fun hg=>?_) | refine aC (fun hg=>?_) (fun hg=>?_) | refine aD (fun hg=>?_) (fun hg=>?_)) <;> try simp -implicitDefEqProofs only [hg,Bool.not_true,Bool.not_false]) | ((with_reducible apply And.intro);focus (first | trivial | omega | decide | (simp -implicitDefEqProofs only [maxLen];omega) | (simp [maxLen,aq,av,ax,aE,aj,ay,aB] <;> omega))) | fail)
    refine hN j _ _ (by omega) (by omega) (bV (by simp [lk]))
  ·obtain rfl:k=0:=by simp at hg;omega
   simp -implicitDefEqProofs only [go_sem,Int.reduceNegSucc]
   refine hX _ _ _ ?_
   repeat' (first | (simp -implicitDefEqProofs only [go_sem,Int.reduceNegSucc]) | (with_reducible refine aF ?_) | ((first | refine ak (fun hg=>?_) (fun hg=>?_) | refine aC (fun hg=>?_) (fun hg=>?_) | refine aD (fun hg=>?_) (fun hg=>?_)) <;> try simp -implicitDefEqProofs only [hg,Bool.not_true,Bool.not_false]) | ((with_reducible apply And.intro);focus (first | trivial | omega | decide | (simp -implicitDefEqProofs only [maxLen];omega) | (simp [maxLen,aq,av,ax,aE,aj,ay,aB] <;> omega))) | fail)
   refine (hK _ _ _ _ [] (cW _ _) ?_).2
   rw [FM]
   simp -implicitDefEqProofs only [dh,List.map_cons,List.map_nil,List.append_nil]
   refine ⟨by simp [bG],trivial,trivial,⟨?_,trivial⟩,trivial,bI.2 ⟨?_,aO.2 rfl,trivial⟩⟩
   ·rw [show cE (cL ([i0].zip [HB.row 49 v (aH (ck l))]) i0) [] i0=some (HB.row 49 v (aH (ck l))) from by simp [cE,cL]]
    exact ⟨rfl,rfl,di.2 rfl⟩
   ·exact .fz _ _ (Lg v l (fun j hj=>by cases j with
     | zero=>omega
     | succ j=>rfl))
end Go.aG

namespace Go.aG
open Go
theorem JS:aV Go.Proofs.Try.prog 18 13 (fc Go.Proofs.Try.prog 18 13 [(.c 0 48 true)]) [(.c 0 48 true)]:=bh (by kernel_rfl)
def yC:List CK→List RV→Bool
 | [],[]=>true
 | .b::ks,.bool _::rs=>yC ks rs
 | .i::ks,.int _ _::rs=>yC ks rs
 | .s::ks,.str _::rs=>yC ks rs
 | _,_=>false
def qD:ai:={ (default:ai) with shown:=true,pad:=⟨⟨1,0⟩,⟨1,0⟩,⟨1,0⟩,⟨1,0⟩⟩ }
def MI (k:Nat):ai:={ (default:ai) with shown:=true,pad:=⟨if 0<k then ⟨1,0⟩ else default,if 1<k then ⟨1,0⟩ else default,if 2<k then ⟨1,0⟩ else default,if 3<k then ⟨1,0⟩ else default⟩ }
theorem NR:aI Go.Proofs.Try.prog 18 [] [] [] qD.sv:=by
 refine bH JS [] _ (by simp) (by simp [aP,bg,bu,aZ,bn,ai.sv,Ln.sv,Nd.sv]) (fun K hK=>?_)
 conv in fc _ _ _ _=>reduce
 simp -implicitDefEqProofs only [go_sem,Int.reduceNegSucc]
 repeat' (first | (simp -implicitDefEqProofs only [go_sem,Int.reduceNegSucc]) | (with_reducible refine aF ?_) | ((first | refine ak (fun hg=>?_) (fun hg=>?_) | refine aC (fun hg=>?_) (fun hg=>?_) | refine aD (fun hg=>?_) (fun hg=>?_)) <;> try simp -implicitDefEqProofs only [hg,Bool.not_true,Bool.not_false]) | ((with_reducible apply And.intro);focus (first | trivial | omega | decide | (simp -implicitDefEqProofs only [maxLen];omega) | (simp [maxLen,aq,av,ax,aE,aj,ay,aB] <;> omega) | (exact ⟨rfl,by decide⟩;done))) | fail)
 refine dN (ι:=Nat) (fun k=>[(4,.rv (.int .i64 k)),(0,.ptr 0 0),(1,.ptr 1 0)]) (fun k=>[some (.var ((default:ai).cells.map .rv)),some (.var ((MI k).cells.map .rv))]) (fun k=>k≤4) (fun k=>4 - k) 0 (by simp) (bV (by simp [lk])) (fun k hk K' hN hX hR=>?_)
 simp -implicitDefEqProofs only [go_sem,Int.reduceNegSucc]
 refine ak (fun hg=>?_) (fun hg=>?_)
 ·have:k=0∨k=1∨k=2∨k=3:=by simp at hg;omega
  rcases this with rfl | rfl | rfl | rfl
  all_goals
   repeat' (first | (simp -implicitDefEqProofs only [go_sem,Int.reduceNegSucc,aq,cQ (k:=0) (by decide),cQ (k:=1) (by decide),cQ (k:=2) (by decide),cQ (k:=3) (by decide)]) | (with_reducible refine aF ?_) | ((first | refine ak (fun hg=>?_) (fun hg=>?_) | refine aC (fun hg=>?_) (fun hg=>?_) | refine aD (fun hg=>?_) (fun hg=>?_)) <;> try simp -implicitDefEqProofs only [hg,Bool.not_true,Bool.not_false]) | ((with_reducible apply And.intro);focus (first | trivial | omega | decide | (simp -implicitDefEqProofs only [maxLen];omega) | (simp [maxLen,aq,av,ax,aE,aj,ay,aB] <;> omega))) | fail)
  ·exact hN 1 _ _ (by omega) (by omega) (bV (by simp [lk]))
  ·exact hN 2 _ _ (by omega) (by omega) (bV (by simp [lk]))
  ·exact hN 3 _ _ (by omega) (by omega) (bV (by simp [lk]))
  ·exact hN 4 _ _ (by omega) (by omega) (bV (by simp [lk]))
 ·have aK:k=4:=by simp at hg;omega
  subst aK
  simp -implicitDefEqProofs only [go_sem,Int.reduceNegSucc]
  refine hX _ _ _ ?_
  repeat' (first | (simp -implicitDefEqProofs only [go_sem,Int.reduceNegSucc,aq,gO]) | (with_reducible refine aF ?_) | ((first | refine ak (fun hg=>?_) (fun hg=>?_) | refine aC (fun hg=>?_) (fun hg=>?_) | refine aD (fun hg=>?_) (fun hg=>?_)) <;> try simp -implicitDefEqProofs only [hg,Bool.not_true,Bool.not_false]) | ((with_reducible apply And.intro);focus (first | trivial | omega | decide | (simp -implicitDefEqProofs only [maxLen];omega) | (simp [maxLen,aq,av,ax,aE,aj,ay,aB] <;> omega) | (rfl;done) | (exact ⟨rfl,by decide⟩;done))) | fail)
  exact (hK _ _ (zc (rs:=qD.cells) rfl rfl rfl)).2
end Go.aG

namespace Go.aG
open Go
end Go.aG

namespace Go.aG
open Go
theorem JU:aV Go.Proofs.Try.prog 16 36 (fc Go.Proofs.Try.prog 16 36 [(.t 0)]) [(.t 0)]:=bh (by kernel_rfl)
def uG:ai:={ qD with position:=3 }
def td:List Nd:=[⟨qD,-1⟩,⟨uG,0⟩]
theorem DS:nr td=0:=by decide +kernel
theorem OQ:DQ (ou td 1 10 ⟨true,0⟩ false)=0∧DP (ou td 1 10 ⟨true,0⟩ false)=true:=by decide +kernel
theorem Dx:aI Go.Proofs.Try.prog 16 [] [] [] (.rv (.bool true)):=by
 refine bH JU [] _ (by simp) (by simp [aP,bg,bu,aZ,bn,ai.sv,Ln.sv,Nd.sv]) (fun K hK=>?_)
 have hk:=On td (by decide) DS 1 0
 have ht:=NU td (OP (Fs DS)) (by decide) 1 10 ⟨true,0⟩ false
 obtain ⟨h1,h2⟩:=OQ
 rw [h1,h2] at ht
 have ha:=Dr uG
 have HG:rB uG=true:=rfl
 rw [HG] at ha
 have e0:((0:Int) == 0)=true:=rfl
 conv in fc _ _ _ _=>reduce
 simp -implicitDefEqProofs only [go_sem,Int.reduceNegSucc]
 have bE:=NR;repeat' (first | (simp -implicitDefEqProofs only [go_sem,Int.reduceNegSucc,aq]) | (with_reducible refine aF ?_) | (with_reducible first | refine az bE ?_ | refine aA bE ?_) | ((first | refine ak (fun hg=>?_) (fun hg=>?_) | refine aC (fun hg=>?_) (fun hg=>?_) | refine aD (fun hg=>?_) (fun hg=>?_)) <;> try simp -implicitDefEqProofs only [hg,Bool.not_true,Bool.not_false]) | ((with_reducible apply And.intro);focus (first | trivial | omega | decide | (simp -implicitDefEqProofs only [maxLen];omega) | (simp [maxLen,aq,av,ax,aE,aj,ay,aB] <;> omega))) | fail)
 refine cK hk (MK rfl) trivial ?_
 simp -implicitDefEqProofs only [Sz.sv,Sz.cells,List.map_cons,List.map_nil] at ht
 have hz:List.take 48 (List.take 1 (List.map U.rv qD.cells)++[U.rv (RV.int IntKind.i64 3)]++List.drop 2 (List.map U.rv qD.cells))=uG.cells.map U.rv:=rfl
 have y_2:=ht;have bL:=ha;repeat' (first | (simp -implicitDefEqProofs only [go_sem,Int.reduceNegSucc,e0,hz]) | (with_reducible refine aF ?_) | (with_reducible first | refine az y_2 ?_ | refine aA y_2 ?_) | (with_reducible first | refine az bL ?_ | refine aA bL ?_) | ((first | refine ak (fun hg=>?_) (fun hg=>?_) | refine aC (fun hg=>?_) (fun hg=>?_) | refine aD (fun hg=>?_) (fun hg=>?_)) <;> try simp -implicitDefEqProofs only [hg,Bool.not_true,Bool.not_false]) | ((with_reducible apply And.intro);focus (first | trivial | omega | decide | (simp -implicitDefEqProofs only [maxLen];omega) | (simp [maxLen,aq,av,ax,aE,aj,ay,aB] <;> omega))) | fail)
 exact (hK _ _ (cC rfl)).2
theorem JT:aV Go.Proofs.Try.prog 6 21 (fc Go.Proofs.Try.prog 6 21 [(.t 2)]) [(.t 2)]:=bh (by kernel_rfl)
theorem NQ (s:ai):aI Go.Proofs.Try.prog 6 [s.sv] [] [] (.rv (.bool true)):=by
 refine bH JT [s.sv] _ (by simp) (by simp [aP,bg,bu,aZ,bn,ai.sv,Ln.sv,Nd.sv]) (fun K hK=>?_)
 have ha:=Dr s
 have l1:(s.cells.map U.rv).take 48=s.cells.map U.rv:=rfl
 have l2:(s.cells.map U.rv).length=48:=rfl
 have l3:s.cells.length=48:=rfl
 have b1:∀ b:Bool,(b == b)=true:=by decide
 unfold rB at ha
 conv in fc _ _ _ _=>reduce
 simp -implicitDefEqProofs only [go_sem,Int.reduceNegSucc]
 cases h1:(s.off.a.kind == 0) with
 | false=>
   rw [h1,Bool.false_and] at ha
   have bN:=Dx;have cc:=ha;repeat' (first | (simp -implicitDefEqProofs only [go_sem,Int.reduceNegSucc,iq,jB,ir,jC,iG,jN,iR,jY,jc,kz,jl,kK,jm,kL,jn,kM,jo,kN,jq,kO,iu,jD,iw,jE,iy,jF,iz,jG,iA,jH,iB,jI,iC,jJ,iD,jK,iE,jL,iF,jM,iH,jO,iI,jP,iJ,jQ,iK,jR,iL,jS,iM,jT,iN,jU,iO,jV,iP,jW,iQ,jX,iS,jZ,iT,ke,iU,kf,iV,kg,iW,ki,iX,kj,iY,kk,iZ,ko,ja,kr,jb,ku,jd,kC,je,kD,gP,kE,jf,kF,jg,kG,jh,kH,ji,kI,jk,kJ,jw,jr,js,jt,ju,jv,jx,jy,jz,jA,ij,gO,aq,Q4.mu,Ln.cells,l1,l2,l3,h1,b1]) | (with_reducible refine aF ?_) | (with_reducible first | refine az bN ?_ | refine aA bN ?_) | (with_reducible first | refine az cc ?_ | refine aA cc ?_) | ((first | refine ak (fun hg=>?_) (fun hg=>?_) | refine aC (fun hg=>?_) (fun hg=>?_) | refine aD (fun hg=>?_) (fun hg=>?_)) <;> try simp -implicitDefEqProofs only [hg,Bool.not_true,Bool.not_false]) | ((with_reducible apply And.intro);focus (first | trivial | omega | decide | (simp -implicitDefEqProofs only [maxLen];omega) | (simp [maxLen,aq,av,ax,aE,aj,ay,aB] <;> omega))) | fail)
   exact (hK _ _ (cC rfl)).2
 | true=>
   rw [h1,Bool.true_and] at ha
   have cl:=Dx;have cm:=ha;repeat' (first | (simp -implicitDefEqProofs only [go_sem,Int.reduceNegSucc,iq,jB,ir,jC,iG,jN,iR,jY,jc,kz,jl,kK,jm,kL,jn,kM,jo,kN,jq,kO,iu,jD,iw,jE,iy,jF,iz,jG,iA,jH,iB,jI,iC,jJ,iD,jK,iE,jL,iF,jM,iH,jO,iI,jP,iJ,jQ,iK,jR,iL,jS,iM,jT,iN,jU,iO,jV,iP,jW,iQ,jX,iS,jZ,iT,ke,iU,kf,iV,kg,iW,ki,iX,kj,iY,kk,iZ,ko,ja,kr,jb,ku,jd,kC,je,kD,gP,kE,jf,kF,jg,kG,jh,kH,ji,kI,jk,kJ,jw,jr,js,jt,ju,jv,jx,jy,jz,jA,ij,gO,aq,Q4.mu,Ln.cells,l1,l2,l3,h1,b1]) | (with_reducible refine aF ?_) | (with_reducible first | refine az cl ?_ | refine aA cl ?_) | (with_reducible first | refine az cm ?_ | refine aA cm ?_) | ((first | refine ak (fun hg=>?_) (fun hg=>?_) | refine aC (fun hg=>?_) (fun hg=>?_) | refine aD (fun hg=>?_) (fun hg=>?_)) <;> try simp -implicitDefEqProofs only [hg,Bool.not_true,Bool.not_false]) | ((with_reducible apply And.intro);focus (first | trivial | omega | decide | (simp -implicitDefEqProofs only [maxLen];omega) | (simp [maxLen,aq,av,ax,aE,aj,ay,aB] <;> omega))) | fail)
   exact (hK _ _ (cC rfl)).2
end Go.aG
