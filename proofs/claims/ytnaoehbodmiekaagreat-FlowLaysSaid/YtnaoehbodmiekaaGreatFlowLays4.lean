/- Part 4 of the proof: F4, F5, F6, G4b, G5, G6, F7, F8, F9, G8, G8b, F10, EngZg, F9i, F11, F12, G9, G7, G7b. -/
import Derived.Test.YtnaoehbodmiekaaGreatFlowLays3
import Derived.Shelf.Spec.SlicesInsert
import Derived.Shelf.Spec.SlicesInsertGrow
set_option linter.unusedSimpArgs false
set_option linter.unusedVariables false
set_option maxRecDepth 100000
set_option maxHeartbeats 16000000
namespace Go.aJ
open Go
theorem Oy:aT Go.Proofs.Tryz.prog 94 53 (fc Go.Proofs.Tryz.prog 94 53 [(.c 4 3 true),(.t 5),(.t 6)]) [(.c 4 3 true),(.t 5),(.t 6)]:=bn (by kernel_rfl)
theorem OC:aT Go.Proofs.Tryz.prog 112 27 (fc Go.Proofs.Tryz.prog 112 27 [(.t 4)]) [(.t 4)]:=bn (by kernel_rfl)
structure Ai where
 base:Int
 left:Sz
 wide:Sz
 right:Sz
 around:Int
 bH:Bool
 least:Int
 most:Int
def Ai.cells (i:Ai):List RV:=[.int .i64 i.base,.bool i.left.auto,.int .i64 i.left.n,.bool i.wide.auto,.int .i64 i.wide.n,.bool i.right.auto,.int .i64 i.right.n,.int .i64 i.around,.bool i.bH,.int .i64 i.least,.int .i64 i.most]
abbrev Ai.sv (i:Ai):SV:=.agg (i.cells.map .rv)
structure Ao where
 l:Int
 w:Int
 r:Int
def Ao.cells (o:Ao):List RV:=[.int .i64 o.l,.int .i64 o.w,.int .i64 o.r]
def tW (i:Ai) (w:Int):Int×Int:=
 if ¬ i.base - i.around - w - bf i.left 0 - bf i.right 0<0∧i.left.auto=true∧i.right.auto=true then ((i.base - i.around - w) / 2,i.base - i.around - w - (i.base - i.around - w) / 2)
 else if ¬ i.base - i.around - w - bf i.left 0 - bf i.right 0<0∧i.left.auto=true∨i.bH=true∧(i.base - i.around - w - bf i.left 0 - bf i.right 0<0∨i.right.auto=false) then (i.base - i.around - w - bf i.right 0,bf i.right 0)
 else (bf i.left 0,i.base - i.around - w - bf i.left 0)
def iX (i:Ai) (s:Sz):Ao:=if s.auto=true then ⟨bf i.left 0,i.base - i.around - bf i.left 0 - bf i.right 0,bf i.right 0⟩ else ⟨(tW i s.n).1,s.n,(tW i s.n).2⟩
def mH (i:Ai) (s:Sz):Bool:=bN (iX i s).l && bN (iX i s).w && bN (iX i s).r
structure Fit (i:Ai):Prop where
 b:bN i.base=true
 a:bN i.around=true
 l:bN (bf i.left 0)=true
 r:bN (bf i.right 0)=true
theorem TZ (i:Ai) (xs:List Int) (hb:bN i.base=true) (ha:bN i.around=true) (hx:∀ x∈xs,bN x=true) (hl:xs.length≤100):aG Go.Proofs.Tryz.prog 113 [i.sv,.rv (.sl 1 (aL xs))] [] [] (.rv (.int .i64 (i.base - i.around - xs.sum))):=by
 refine bt Ow [i.sv,.rv (.sl 1 (aL xs))] _ (by simp) (by simp [aO,aW,bl,aQ,aY,aC.sv,Ln.sv,Nd.sv]) (fun K hK=>?_)
 have qO:=aj xs
 rw [iZ] at hb ha
 have w0:IntKind.i64.wrap (i.base - i.around)=i.base - i.around:=wrap_i64 (by omega) (by omega)
 conv in fc _ _ _ _=>reduce
 simp -implicitDefEqProofs only [Ai.sv,Ai.cells,go_sem,Int.reduceNegSucc]
 repeat' (first | (simp -implicitDefEqProofs only [go_sem,Int.reduceNegSucc,qO,w0]) | (with_reducible refine aA ?_) | ((first | refine ai (fun hg=>?_) (fun hg=>?_) | refine ay (fun hg=>?_) (fun hg=>?_) | refine az (fun hg=>?_) (fun hg=>?_)) <;> try simp -implicitDefEqProofs only [hg,Bool.not_true,Bool.not_false]) | ((with_reducible apply And.intro);focus (first | trivial | omega | decide | (simp -implicitDefEqProofs only [maxLen];omega) | (simp [maxLen,af,ak,an,ax,aj,av,au] <;> omega))) | fail)
 refine fG (ι:=Nat) (fun k=>[(15,.rv (.int .i64 k)),(14,.rv (.int .i64 xs.length)),(13,.rv (.sl 1 (aL xs))),(5,.rv (.int .i64 (i.base - i.around - (xs.take k).sum)))]) (fun _=>[some (.var (i.cells.map .rv))]) (fun k=>k≤xs.length∧-(1125899906842624*k)≤(xs.take k).sum∧(xs.take k).sum≤1125899906842624*k) (fun k=>xs.length - k) 0 (by simp) (aZ (by simp [lk])) (fun k hk K' hN hX hR=>?_)
 obtain ⟨fI,hk2,fY⟩:=hk
 simp -implicitDefEqProofs only [go_sem,Int.reduceNegSucc]
 refine ai (fun hg=>?_) (fun hg=>?_)
 ·have aE:k<xs.length:=by simp at hg;omega
  have hg:=ow aE
  have wu:=fy (k:=k) (by omega)
  have hf:=iZ.1 (hx _ (List.getElem_mem aE))
  have hst:=CB aE
  have ws:IntKind.i64.wrap (i.base - i.around - (xs.take k).sum - xs[k])=i.base - i.around - (xs.take (k+1)).sum:=by rw [wrap_i64 (by omega) (by omega),hst];omega
  repeat' (first | (simp -implicitDefEqProofs only [go_sem,Int.reduceNegSucc,hg,qO,wu,ws]) | (with_reducible refine aA ?_) | ((first | refine ai (fun hg=>?_) (fun hg=>?_) | refine ay (fun hg=>?_) (fun hg=>?_) | refine az (fun hg=>?_) (fun hg=>?_)) <;> try simp -implicitDefEqProofs only [hg,Bool.not_true,Bool.not_false]) | ((with_reducible apply And.intro);focus (first | trivial | omega | decide | (simp -implicitDefEqProofs only [maxLen];omega) | (simp [maxLen,af,ak,an,ax,aj,av,au] <;> omega))) | fail)
  exact hN (k+1) _ _ ⟨by omega,by omega,by omega⟩ (by omega) (aZ (by simp [lk]))
 ·have aE:k=xs.length:=by simp at hg;omega
  subst aE
  simp -implicitDefEqProofs only [go_sem,Int.reduceNegSucc]
  refine hX _ _ _ ?_
  rw [List.take_length]
  repeat' (first | (simp -implicitDefEqProofs only [go_sem,Int.reduceNegSucc]) | (with_reducible refine aA ?_) | ((first | refine ai (fun hg=>?_) (fun hg=>?_) | refine ay (fun hg=>?_) (fun hg=>?_) | refine az (fun hg=>?_) (fun hg=>?_)) <;> try simp -implicitDefEqProofs only [hg,Bool.not_true,Bool.not_false]) | ((with_reducible apply And.intro);focus (first | trivial | omega | decide | (simp -implicitDefEqProofs only [maxLen];omega) | (simp [maxLen,af,ak,an,ax,aj,av,au] <;> omega))) | fail)
  exact (hK _ _ (bO rfl)).2
theorem Ct (i:Ai) (xs:List Int) (hb:bN i.base=true) (ha:bN i.around=true) (hx:∀ x∈xs,bN x=true) (hl:xs.length≤100) (id:Nat):aG Go.Proofs.Tryz.prog 113 [i.sv,.row id 0 xs.length] [(id,.row 1 0 (lK xs))] [] (.rv (.int .i64 (i.base - i.around - xs.sum))):=by
 refine uQ (iO:=[i.sv,.rv (.sl 1 (aL xs))]) (TZ i xs hb ha hx hl) rfl (fun hp hpre k y r hy hr=>?_) (.rv _ (.int _ _)) (by simp)
 match k with
 | 0=>cases hy;cases hr;exact aM.2 (ga.2 rfl)
 | 1=>
   cases hy;cases hr
   have:=nX (h:=hp) (τ:=fun _=>none) (j:=id) (e:=1) (aq:=0) (len:=xs.length) (xs:=aL xs) (by rw [← Bw];exact hpre _ (.head _)) rfl (by rw [aj];omega) (kF _)
   rw [List.take_of_length_le (by rw [aj];omega)] at this
   exact .fz _ _ this
 | k+2=>simp at hy
theorem BY {x:Sz} (h:x.auto=false) (d:Int):bf x d=x.n:=by simp [bf,h]
theorem Ub (i:Ai) (w:Int) (hf:Fit i) (hw:bN w=true):aG Go.Proofs.Tryz.prog 114 [i.sv,.rv (.int .i64 w)] [] [] (.aP [.rv (.int .i64 (tW i w).1),.rv (.int .i64 (tW i w).2)]):=by
 refine bt Ox [i.sv,.rv (.int .i64 w)] _ (by simp) (by simp [aO,aW,bl,aQ,aY,aC.sv,Ln.sv,Nd.sv]) (fun K hK=>?_)
 have h1:=mU i.left 0
 have h2:=mU i.right 0
 have h3:=Ct i [w] hf.b hf.a (by simp [hw]) (by simp)
 have h4:=Ct i [w,bf i.left 0,bf i.right 0] hf.b hf.a (by simp [hw,hf.l,hf.r]) (by simp)
 have q1:=iZ.1 hf.b
 have q2:=iZ.1 hf.a
 have q3:=iZ.1 hf.l
 have q4:=iZ.1 hf.r
 have q5:=iZ.1 hw
 have h5:=TI (i.base - i.around - w)
 have w1:IntKind.i64.wrap (i.base - i.around - w - (i.base - i.around - w) / 2)=i.base - i.around - w - (i.base - i.around - w) / 2:=wrap_i64 (by omega) (by omega)
 have w2:IntKind.i64.wrap (i.base - i.around - w - bf i.right 0)=i.base - i.around - w - bf i.right 0:=wrap_i64 (by omega) (by omega)
 have w3:IntKind.i64.wrap (i.base - i.around - w - bf i.left 0)=i.base - i.around - w - bf i.left 0:=wrap_i64 (by omega) (by omega)
 have e1:[w].sum=w:=by simp
 have e2:i.base - i.around - [w,bf i.left 0,bf i.right 0].sum=i.base - i.around - w - bf i.left 0 - bf i.right 0:=by simp;omega
 rw [e1] at h3
 rw [e2] at h4
 simp -implicitDefEqProofs only [lK,List.map_cons,List.map_nil,List.length_cons,List.length_nil,Ai.sv,Ai.cells,Sz.sv,Sz.cells,Nat.reduceAdd] at h1 h2 h3 h4
 simp -implicitDefEqProofs only [tW] at hK
 conv in fc _ _ _ _=>reduce
 simp -implicitDefEqProofs only [Ai.sv,Ai.cells,go_sem,Int.reduceNegSucc]
 generalize bf i.left 0=L at *
 generalize bf i.right 0=R at *
 cases hl:i.left.auto <;> cases hr:i.right.auto <;> cases ht:i.bH <;> simp -implicitDefEqProofs only [hl,hr,ht] at h1 h2 h3 h4 hK ⊢ <;> by_cases yD:i.base - i.around - w - L - R<0 <;> simp -implicitDefEqProofs only [yD,decide_true,decide_false] at hK ⊢
 all_goals ((have aS:=h1;have y_2:=h2;have bA:=h3;have bF:=h4;have bJ:=h5;repeat' (first | (simp -implicitDefEqProofs only [go_sem,Int.reduceNegSucc,w1,w2,w3,yD,decide_true,decide_false]) | (with_reducible refine aA ?_) | (with_reducible first | refine ag aS ?_ | refine ah aS ?_) | (with_reducible first | refine ag y_2 ?_ | refine ah y_2 ?_) | ((first | refine bR (bA _) ?_ ?_ ?_ | refine cg (bA _) ?_ ?_ ?_ | fail);(focus (simp [aU,aB] <;> fail));(focus (simp [bh,aR] <;> fail))) | ((first | refine bR (bF _) ?_ ?_ ?_ | refine cg (bF _) ?_ ?_ ?_ | fail);(focus (simp [aU,aB] <;> fail));(focus (simp [bh,aR] <;> fail))) | (with_reducible first | refine ag bJ ?_ | refine ah bJ ?_) | ((first | refine ai (fun hg=>?_) (fun hg=>?_) | refine ay (fun hg=>?_) (fun hg=>?_) | refine az (fun hg=>?_) (fun hg=>?_)) <;> try simp -implicitDefEqProofs only [hg,Bool.not_true,Bool.not_false]) | ((with_reducible apply And.intro);focus (first | trivial | omega | decide | (simp -implicitDefEqProofs only [maxLen];omega) | (simp [maxLen,af,ak,an,ax,aj,av,au] <;> omega))) | fail)))
 all_goals (refine (hK _ _ (gI rfl rfl)).2)
theorem UB (i:Ai) (s:Sz) (hf:Fit i) (hs:s.auto=false→bN s.n=true):aG Go.Proofs.Tryz.prog 94 [i.sv,s.sv] [] [] (.aP [.agg ((iX i s).cells.map .rv),.rv (.int .i64 (iX i s).w),.rv (.bool (mH i s))]):=by
 refine bt Oy [i.sv,s.sv] _ (by simp) (by simp [aO,aW,bl,aQ,aY,aC.sv,Ln.sv,Nd.sv]) (fun K hK=>?_)
 have h1:=mU i.left 0
 have h2:=mU i.right 0
 have h3:=Ct i [bf i.left 0,bf i.right 0] hf.b hf.a (by simp [hf.l,hf.r]) (by simp)
 have f1:=lR (iX i s).l
 have f2:=lR (iX i s).w
 have f3:=lR (iX i s).r
 have e2:i.base - i.around - [bf i.left 0,bf i.right 0].sum=i.base - i.around - bf i.left 0 - bf i.right 0:=by simp;omega
 rw [e2] at h3
 simp -implicitDefEqProofs only [mH] at hK
 simp -implicitDefEqProofs only [lK,List.map_cons,List.map_nil,List.length_cons,List.length_nil,Ai.sv,Ai.cells,Sz.sv,Sz.cells,Nat.reduceAdd,Ao.cells,iX] at h1 h2 h3 hK f1 f2 f3
 conv in fc _ _ _ _=>reduce
 simp -implicitDefEqProofs only [Ai.sv,Ai.cells,Sz.sv,Sz.cells,go_sem,Int.reduceNegSucc]
 cases ha:s.auto with
 | true=>
   simp -implicitDefEqProofs only [ha,if_true] at hK f1 f2 f3
   have bL:=h1;have bP:=h2;have bT:=h3;have cq:=f1;have cu:=f2;have gf:=f3;repeat' (first | (simp -implicitDefEqProofs only [go_sem,Int.reduceNegSucc]) | (with_reducible refine aA ?_) | (with_reducible first | refine ag bL ?_ | refine ah bL ?_) | (with_reducible first | refine ag bP ?_ | refine ah bP ?_) | ((first | refine bR (bT _) ?_ ?_ ?_ | refine cg (bT _) ?_ ?_ ?_ | fail);(focus (simp [aU,aB] <;> fail));(focus (simp [bh,aR] <;> fail))) | (with_reducible first | refine ag cq ?_ | refine ah cq ?_) | (with_reducible first | refine ag cu ?_ | refine ah cu ?_) | (with_reducible first | refine ag gf ?_ | refine ah gf ?_) | ((first | refine ai (fun hg=>?_) (fun hg=>?_) | refine ay (fun hg=>?_) (fun hg=>?_) | refine az (fun hg=>?_) (fun hg=>?_)) <;> try simp -implicitDefEqProofs only [hg,Bool.not_true,Bool.not_false]) | ((with_reducible apply And.intro);focus (first | trivial | omega | decide | (simp -implicitDefEqProofs only [maxLen];omega) | (simp [maxLen,af,ak,an,ax,aj,av,au] <;> omega))) | fail)
   all_goals (refine (hK _ _ ?_).2;clear hK;simp -implicitDefEqProofs only [go_sem,Int.reduceNegSucc,aX,bg,bp,bq,aM,aK,aI] <;>(try simp_all [-Int.not_lt,-Int.not_le,aM,aK,aI,bG]) <;> try omega)
 | false=>
   have h4:=Ub i s.n hf (hs ha)
   simp -implicitDefEqProofs only [Ai.sv,Ai.cells,List.map_cons,List.map_nil] at h4
   simp -implicitDefEqProofs only [ha,Bool.false_eq_true,if_false] at hK f1 f2 f3
   have gN:=h1;have ig:=h2;have ij:=h4;have iq:=f1;have ir:=f2;have iu:=f3;repeat' (first | (simp -implicitDefEqProofs only [go_sem,Int.reduceNegSucc]) | (with_reducible refine aA ?_) | (with_reducible first | refine ag gN ?_ | refine ah gN ?_) | (with_reducible first | refine ag ig ?_ | refine ah ig ?_) | (with_reducible first | refine ag ij ?_ | refine ah ij ?_) | (with_reducible first | refine ag iq ?_ | refine ah iq ?_) | (with_reducible first | refine ag ir ?_ | refine ah ir ?_) | (with_reducible first | refine ag iu ?_ | refine ah iu ?_) | ((first | refine ai (fun hg=>?_) (fun hg=>?_) | refine ay (fun hg=>?_) (fun hg=>?_) | refine az (fun hg=>?_) (fun hg=>?_)) <;> try simp -implicitDefEqProofs only [hg,Bool.not_true,Bool.not_false]) | ((with_reducible apply And.intro);focus (first | trivial | omega | decide | (simp -implicitDefEqProofs only [maxLen];omega) | (simp [maxLen,af,ak,an,ax,aj,av,au] <;> omega))) | fail)
   all_goals (refine (hK _ _ ?_).2;clear hK;simp -implicitDefEqProofs only [go_sem,Int.reduceNegSucc,aX,bg,bp,bq,aM,aK,aI] <;>(try simp_all [-Int.not_lt,-Int.not_le,aM,aK,aI,bG]) <;> try omega)
theorem zw (i:Ai) (s:Sz) (hf:Fit i) (hs:s.auto=false→bN s.n=true) (j:Nat) (o:Ao) (n:Int):aG Go.Proofs.Tryz.prog 112 [.ptr j 0,s.sv]
 [(j,.var (SV.fE 94 [i.sv]::(o.cells++[RV.int .i64 n]).map .rv))] [(j,.var (SV.fE 94 [i.sv]::((iX i s).cells++[RV.int .i64 (iX i s).w]).map .rv))] (.rv (.bool (mH i s))):=by
 refine mJ OC [j] [.var (SV.fE 94 [i.sv]::(o.cells++[RV.int .i64 n]).map .rv)] [.var (SV.fE 94 [i.sv]::(o.cells++[RV.int .i64 n]).map .rv)] [.ptr 0 0,s.sv] [.ptr j 0,s.sv] _ _ (by simp) (by simp [aO,lG,aW,bl]) rfl (by simp [bV]) (by simp [gZ,Dd,aW,bl,aO,aQ,Ao.cells]) (fun K hK=>?_)
 have h1:=UB i s hf hs
 simp -implicitDefEqProofs only [Ao.cells,List.cons_append,List.nil_append,List.map_cons,List.map_nil] at hK ⊢
 simp -implicitDefEqProofs only [Ao.cells,Sz.sv,Sz.cells,List.map_cons,List.map_nil] at h1
 conv in fc _ _ _ _=>reduce
 simp -implicitDefEqProofs only [Sz.sv,Sz.cells,go_sem,Int.reduceNegSucc]
 have iJ:=h1;repeat' (first | (simp -implicitDefEqProofs only [go_sem,Int.reduceNegSucc]) | (with_reducible refine aA ?_) | (with_reducible first | refine ag iJ ?_ | refine ah iJ ?_) | ((first | refine ai (fun hg=>?_) (fun hg=>?_) | refine ay (fun hg=>?_) (fun hg=>?_) | refine az (fun hg=>?_) (fun hg=>?_)) <;> try simp -implicitDefEqProofs only [hg,Bool.not_true,Bool.not_false]) | ((with_reducible apply And.intro);focus (first | trivial | omega | decide | (simp -implicitDefEqProofs only [maxLen];omega) | (simp [maxLen,af,ak,an,ax,aj,av,au] <;> omega))) | fail)
 all_goals (try ((first | refine (hK _ _ _ _ [] (gL _ _) ?_).2 | refine (hK _ _ ?_).2 | refine (hK _ _ _ _ [] (gL _ _) ?_).1 | refine (hK _ _ ?_).1 | fail);clear hK;(simp_all [gS,bV,newL,gV,gM,bg,aX,lk,bp,fV,gi,fX,iz,iy,aB,gT,bq,aK,gq,gU,iG,aM,iF,aI,gx,ga,bG,Sw,Ao.cells]) <;> try omega))
end Go.aJ

namespace Go.aJ
open Go
theorem OA:aT Go.Proofs.Tryz.prog 93 60 (fc Go.Proofs.Tryz.prog 93 60 [(.c 8 3 true),(.t 9)]) [(.c 8 3 true),(.t 9)]:=bn (by kernel_rfl)
theorem Oz:aT Go.Proofs.Tryz.prog 66 41 (fc Go.Proofs.Tryz.prog 66 41 [(.c 2 3 true),(.t 3)]) [(.c 2 3 true),(.t 3)]:=bn (by kernel_rfl)
def rB (i:Ai) (c:Ao→Bool) (s:Sz) (o:Ao):Option Ao:=if c o=true then (if mH i s=true then some (iX i s) else none) else some o
def uI (i:Ai):Option Ao:=if mH i i.wide=true then (rB i (fun o=>decide (o.w>i.most)) ⟨false,i.most⟩ (iX i i.wide)).bind (rB i (fun o=>decide (o.w<i.least)) ⟨false,i.least⟩) else none
def ic:Option Ao→Ao
 | some o=>o
 | none=>⟨0,0,0⟩
theorem TB (i:Ai) (hf:Fit i) (hw:bN (bf i.wide 0)=true) (h1:bN i.least=true) (h2:bN i.most=true):aG Go.Proofs.Tryz.prog 93 [.fE 94 [i.sv],i.wide.sv,.rv (.int .i64 i.least),.rv (.int .i64 i.most)] [] [] (.aP [.agg ((ic (uI i)).cells.map .rv),.rv (.bool (uI i).isSome)]):=by
 refine bt OA [.fE 94 [i.sv],i.wide.sv,.rv (.int .i64 i.least),.rv (.int .i64 i.most)] _ (by simp) (by simp [aO,Dd,aW,bl,aQ]) (fun K hK=>?_)
 have a0:=zw i i.wide hf (fun h=>by rwa [BY h] at hw) 3 ⟨0,0,0⟩ 0
 have a1:=zw i ⟨false,i.most⟩ hf (fun _=>h2) 3 (iX i i.wide) (iX i i.wide).w
 have a2:=zw i ⟨false,i.least⟩ hf (fun _=>h1) 3 (iX i i.wide) (iX i i.wide).w
 have a3:=zw i ⟨false,i.least⟩ hf (fun _=>h1) 3 (iX i ⟨false,i.most⟩) (iX i ⟨false,i.most⟩).w
 unfold uI rB at hK
 simp -implicitDefEqProofs only [Ao.cells,Ai.sv,Sz.sv,Sz.cells,List.cons_append,List.nil_append,List.map_cons,List.map_nil] at a0 a1 a2 a3
 conv in fc _ _ _ _=>reduce
 simp -implicitDefEqProofs only [Ai.sv,Sz.sv,Sz.cells,go_sem,Int.reduceNegSucc]
 have aS:=a0;have y_2:=a1;have bA:=a2;have bF:=a3;repeat' (first | (simp -implicitDefEqProofs only [go_sem,Int.reduceNegSucc]) | (with_reducible refine aA ?_) | (refine bR aS ?_ ?_ ?_;(focus (simp [aU,aB] <;> fail));(focus (simp [bh,aR] <;> fail))) | (refine cg aS ?_ ?_ ?_;(focus (simp [aU,aB] <;> fail));(focus (simp [bh,aR] <;> fail))) | (refine bR y_2 ?_ ?_ ?_;(focus (simp [aU,aB] <;> fail));(focus (simp [bh,aR] <;> fail))) | (refine cg y_2 ?_ ?_ ?_;(focus (simp [aU,aB] <;> fail));(focus (simp [bh,aR] <;> fail))) | (refine bR bA ?_ ?_ ?_;(focus (simp [aU,aB] <;> fail));(focus (simp [bh,aR] <;> fail))) | (refine cg bA ?_ ?_ ?_;(focus (simp [aU,aB] <;> fail));(focus (simp [bh,aR] <;> fail))) | (refine bR bF ?_ ?_ ?_;(focus (simp [aU,aB] <;> fail));(focus (simp [bh,aR] <;> fail))) | (refine cg bF ?_ ?_ ?_;(focus (simp [aU,aB] <;> fail));(focus (simp [bh,aR] <;> fail))) | ((first | refine ai (fun hg=>?_) (fun hg=>?_) | refine ay (fun hg=>?_) (fun hg=>?_) | refine az (fun hg=>?_) (fun hg=>?_)) <;> try simp -implicitDefEqProofs only [hg,Bool.not_true,Bool.not_false]) | ((with_reducible apply And.intro);focus (first | trivial | omega | decide | (simp -implicitDefEqProofs only [maxLen];omega) | (simp [maxLen,af,ak,an,ax,aj,av,au] <;> omega))) | fail)
 all_goals (refine (hK _ _ ?_).2;clear hK;simp -implicitDefEqProofs only [go_sem,Int.reduceNegSucc,aX,bg,bp,bq,aM,aK,aI,Ao.cells,ic] <;>(try simp_all [-Int.not_lt,-Int.not_le,aM,aK,aI,bG,Ao.cells,ic]) <;> try omega)
def rZ (i:Ai):Bool:=bN i.base && bN i.around && bN (bf i.left 0) && bN (bf i.wide 0) && bN (bf i.right 0)
def mY (i:Ai):Option Ao:=if rZ i=true then uI i else none
theorem Ee {i:Ai} (h:rZ i=true):Fit i∧bN (bf i.wide 0)=true:=by
 simp -implicitDefEqProofs only [rZ,Bool.and_eq_true] at h
 obtain ⟨⟨⟨⟨a,b⟩,c⟩,d⟩,e⟩:=h
 exact ⟨⟨a,b,c,e⟩,d⟩
theorem Ty (i:Ai) (h1:bN i.least=true) (h2:bN i.most=true):aG Go.Proofs.Tryz.prog 66 [i.sv] [] [] (.aP [.agg ((ic (mY i)).cells.map .rv),.rv (.bool (mY i).isSome)]):=by
 refine bt Oz [i.sv] _ (by simp) (by simp [aO,aW,bl,aQ,aY,aC.sv,Ln.sv,Nd.sv]) (fun K hK=>?_)
 have o1:=mU i.left 0
 have o2:=mU i.wide 0
 have o3:=mU i.right 0
 have f1:=lR i.base
 have f2:=lR i.around
 have f3:=lR (bf i.left 0)
 have f4:=lR (bf i.wide 0)
 have f5:=lR (bf i.right 0)
 cases h5:rZ i with
 | true=>
   obtain ⟨hF,hw⟩:=Ee h5
   have hb:=TB i hF hw h1 h2
   rw [hF.b] at f1
   rw [hF.a] at f2
   rw [hF.l] at f3
   rw [hw] at f4
   rw [hF.r] at f5
   simp -implicitDefEqProofs only [mY,h5,if_true] at hK
   simp -implicitDefEqProofs only [Ai.sv,Ai.cells,Sz.sv,Sz.cells,List.map_cons,List.map_nil] at hb o1 o2 o3
   conv in fc _ _ _ _=>reduce
   simp -implicitDefEqProofs only [Ai.sv,Ai.cells,Sz.sv,Sz.cells,go_sem,Int.reduceNegSucc]
   have bJ:=o1;have bL:=o2;have bP:=o3;repeat' (first | (simp -implicitDefEqProofs only [go_sem,Int.reduceNegSucc]) | (with_reducible refine aA ?_) | (with_reducible first | refine ag bJ ?_ | refine ah bJ ?_) | (with_reducible first | refine ag bL ?_ | refine ah bL ?_) | (with_reducible first | refine ag bP ?_ | refine ah bP ?_) | ((first | refine ai (fun hg=>?_) (fun hg=>?_) | refine ay (fun hg=>?_) (fun hg=>?_) | refine az (fun hg=>?_) (fun hg=>?_)) <;> try simp -implicitDefEqProofs only [hg,Bool.not_true,Bool.not_false]) | ((with_reducible apply And.intro);focus (first | trivial | omega | decide | (simp -implicitDefEqProofs only [maxLen];omega) | (simp [maxLen,af,ak,an,ax,aj,av,au] <;> omega))) | fail)
   refine jV 6 ?_
   have bT:=f1;have cq:=f2;have cu:=f3;have gf:=f4;have gN:=f5;have ig:=hb;repeat' (first | (simp -implicitDefEqProofs only [go_sem,Int.reduceNegSucc,ke,kf,kg,ki,kj,kk,jR,Int.reduceLT,decide_true,decide_false,Int.reduceToNat,Nat.reduceMul]) | (with_reducible refine aA ?_) | (with_reducible show G _ _ (It.l _ _::_) _ _ _;refine jU ?_) | (with_reducible first | refine ag bT ?_ | refine ah bT ?_) | (with_reducible first | refine ag cq ?_ | refine ah cq ?_) | (with_reducible first | refine ag cu ?_ | refine ah cu ?_) | (with_reducible first | refine ag gf ?_ | refine ah gf ?_) | (with_reducible first | refine ag gN ?_ | refine ah gN ?_) | (with_reducible first | refine ag ig ?_ | refine ah ig ?_) | ((first | refine ai (fun hg=>?_) (fun hg=>?_) | refine ay (fun hg=>?_) (fun hg=>?_) | refine az (fun hg=>?_) (fun hg=>?_)) <;> try simp -implicitDefEqProofs only [hg,Bool.not_true,Bool.not_false]) | ((with_reducible apply And.intro);focus (first | trivial | omega | decide | (simp -implicitDefEqProofs only [maxLen];omega) | (simp [maxLen,af,ak,an,ax,aj,av,au] <;> omega))) | fail)
   all_goals (refine (hK _ _ ?_).2;clear hK;simp -implicitDefEqProofs only [go_sem,Int.reduceNegSucc,aX,bg,bp,bq,aM,aK,aI,Ao.cells] <;>(try simp_all [-Int.not_lt,-Int.not_le,aM,aK,aI,bG,Ao.cells]) <;> try omega)
 | false=>
   simp -implicitDefEqProofs only [mY,h5,Bool.false_eq_true,if_false] at hK
   simp -implicitDefEqProofs only [Ai.sv,Ai.cells,Sz.sv,Sz.cells,List.map_cons,List.map_nil] at o1 o2 o3
   conv in fc _ _ _ _=>reduce
   simp -implicitDefEqProofs only [Ai.sv,Ai.cells,Sz.sv,Sz.cells,go_sem,Int.reduceNegSucc]
   have ij:=o1;have iq:=o2;have ir:=o3;repeat' (first | (simp -implicitDefEqProofs only [go_sem,Int.reduceNegSucc]) | (with_reducible refine aA ?_) | (with_reducible first | refine ag ij ?_ | refine ah ij ?_) | (with_reducible first | refine ag iq ?_ | refine ah iq ?_) | (with_reducible first | refine ag ir ?_ | refine ah ir ?_) | ((first | refine ai (fun hg=>?_) (fun hg=>?_) | refine ay (fun hg=>?_) (fun hg=>?_) | refine az (fun hg=>?_) (fun hg=>?_)) <;> try simp -implicitDefEqProofs only [hg,Bool.not_true,Bool.not_false]) | ((with_reducible apply And.intro);focus (first | trivial | omega | decide | (simp -implicitDefEqProofs only [maxLen];omega) | (simp [maxLen,af,ak,an,ax,aj,av,au] <;> omega))) | fail)
   refine jV 6 ?_
   have iu:=f1;have iJ:=f2;have jN:=f3;have jO:=f4;have kW:=f5;repeat' (first | (simp -implicitDefEqProofs only [go_sem,Int.reduceNegSucc,ke,kf,kg,ki,kj,kk,jR,Int.reduceLT,decide_true,decide_false,Int.reduceToNat,Nat.reduceMul]) | (with_reducible refine aA ?_) | (with_reducible show G _ _ (It.l _ _::_) _ _ _;refine jU ?_) | (with_reducible first | refine ag iu ?_ | refine ah iu ?_) | (with_reducible first | refine ag iJ ?_ | refine ah iJ ?_) | (with_reducible first | refine ag jN ?_ | refine ah jN ?_) | (with_reducible first | refine ag jO ?_ | refine ah jO ?_) | (with_reducible first | refine ag kW ?_ | refine ah kW ?_) | ((first | refine ai (fun hg=>?_) (fun hg=>?_) | refine ay (fun hg=>?_) (fun hg=>?_) | refine az (fun hg=>?_) (fun hg=>?_)) <;> try simp -implicitDefEqProofs only [hg,Bool.not_true,Bool.not_false]) | ((with_reducible apply And.intro);focus (first | trivial | omega | decide | (simp -implicitDefEqProofs only [maxLen];omega) | (simp [maxLen,af,ak,an,ax,aj,av,au] <;> omega))) | fail)
   all_goals first | (exfalso;simp_all [rZ];done) | skip
   all_goals (refine (hK _ _ ?_).2;clear hK;simp -implicitDefEqProofs only [go_sem,Int.reduceNegSucc,aX,bg,bp,bq,aM,aK,aI,Ao.cells,ic] <;>(try simp_all [-Int.not_lt,-Int.not_le,aM,aK,aI,bG,Ao.cells,ic]) <;> try omega)
end Go.aJ

namespace Go.aJ
open Go
theorem PW:aT Go.Proofs.Tryz.prog 107 132 (fc Go.Proofs.Tryz.prog 107 132 [(.t 4)]) [(.t 4)]:=bn (by kernel_rfl)
theorem PX:aT Go.Proofs.Tryz.prog 79 23 (fc Go.Proofs.Tryz.prog 79 23 [(.c 4 7 true),(.t 5)]) [(.c 4 7 true),(.t 5)]:=bn (by kernel_rfl)
structure Ch where
 top:Su
 bottom:Su
 inner:Su
 through:Bool
 high:Int
 deriving Inhabited,DecidableEq
def Ch.cells (c:Ch):List RV:=[.int .i64 c.top.p,.int .i64 c.top.n,.int .i64 c.bottom.p,.int .i64 c.bottom.n,.int .i64 c.inner.p,.int .i64 c.inner.n,.bool c.through,.int .i64 c.high]
structure Pl where
 iB:Int
 top:Su
 cur:Su
 lV:Bool
 deriving Inhabited,DecidableEq
def Pl.cells (p:Pl):List RV:=[.int .i64 p.iB,.int .i64 p.top.p,.int .i64 p.top.n,.int .i64 p.cur.p,.int .i64 p.cur.n,.bool p.lV]
def gC (l:List Ch):List (List RV):=l.map Ch.cells
theorem nS (l:List Ch):(gC l).length=l.length:=by simp [gC]
theorem uS {l:List Ch} {i:Nat} (h:i<l.length):(gC l)[i]?.getD []=(l[i]'h).cells:=by simp [gC,h]
def lW (c:Ch):Su:=if c.through=true then c.inner else c.top
def nG (p:Pl) (c:Ch):Int:=if p.lV=true then 0 else ct [p.iB,iN (fL p.cur (lW c))]
def qo (p:Pl) (c:Ch):Pl:=
 if p.lV=true then (if c.through=true then { p with top:=fL p.top c.top } else ⟨c.high,fL p.top c.top,c.bottom,false⟩)
 else if c.through=true then { p with cur:=fL p.cur c.top } else { p with iB:=ct [nG p c,c.high],cur:=c.bottom }
def sP (p:Pl) (c:Ch):Bool:=
 if p.lV=true then bN (qo p c).iB
 else nL (fL p.cur (lW c)) && fT [p.iB,iN (fL p.cur (lW c))] && (c.through || fT [nG p c,c.high])
def pJ (m:Nat) (p:Pl) (ys:List Int):HB:=.var (.row m ys.length ys.length::p.cells.map .rv)
def lE (ys:List Int):HB:=.row 1 ys.length (aN (aL ys))
theorem Uc (p:Pl) (c:Ch) (j m:Nat) (sy:j≠m) (ys:List Int) (hy:ys.length≤1000000):aG Go.Proofs.Tryz.prog 107 [.ptr j 0,.agg (c.cells.map .rv)] [(j,pJ m p ys),(m,lE ys)]
 [(j,pJ m (qo p c) (ys++[nG p c])),(m,lE (ys++[nG p c]))] (.rv (.bool (sP p c))):=by
 refine mJ PW [j,m] [pJ 1 p ys,lE ys] [pJ m p ys,lE ys] [.ptr 0 0,.agg (c.cells.map .rv)] [.ptr j 0,.agg (c.cells.map .rv)] _ _ (by simp) (by simp [aO,lG,aW,bl]) rfl (by simp [bV,sy]) (by simp [gZ,pJ,lE,nI,aO,aQ,lg,bl]) (fun K hK=>?_)
 have j1:=uz p.top c.top
 have j2:=uz p.cur (lW c)
 have j3:=uz p.cur c.top
 have v1:=Cx (fL p.cur (lW c))
 have s1:=fun id=>uw id [p.iB,iN (fL p.cur (lW c))] (by simp)
 have s2:=fun id=>uw id [ct [p.iB,iN (fL p.cur (lW c))],c.high] (by simp)
 have f1:=lR p.iB
 have f2:=lR c.high
 have hl:=aj ys
 have jd:(aL ys).take ys.length=aL ys:=List.take_of_length_le (by omega)
 have vq:∀ y:Int,(ys++[y]).length=ys.length+1:=fun y=>by simp
 simp -implicitDefEqProofs only [pJ,lE,Pl.cells,qo,nG,sP,vq] at hK
 simp -implicitDefEqProofs only [lK,Su.sv,Su.cells,List.map_cons,List.map_nil,List.length_cons,List.length_nil,Nat.reduceAdd] at j1 j2 j3 v1 s1 s2
 conv in fc _ _ _ _=>reduce
 simp -implicitDefEqProofs only [pJ,lE,Pl.cells,Ch.cells,go_sem,Int.reduceNegSucc]
 cases ha:p.lV <;> cases ht:c.through <;> simp -implicitDefEqProofs only [ha,ht,lW,Bool.false_eq_true,if_true,if_false,Bool.false_or,Bool.true_or,Bool.and_true] at hK j1 j2 j3 v1 s1 s2 ⊢
 all_goals ((have aS:=j1;have y_2:=j2;have bA:=j3;have bF:=v1;have bJ:=s1;have bL:=s2;have bP:=f1;have bT:=f2;repeat' (first | (simp -implicitDefEqProofs only [go_sem,Int.reduceNegSucc,hl,jd,mw]) | (with_reducible refine aA ?_) | (with_reducible first | refine ag aS ?_ | refine ah aS ?_) | (with_reducible first | refine ag y_2 ?_ | refine ah y_2 ?_) | (with_reducible first | refine ag bA ?_ | refine ah bA ?_) | (with_reducible first | refine ag bF ?_ | refine ah bF ?_) | ((first | refine bR (bJ _) ?_ ?_ ?_ | refine cg (bJ _) ?_ ?_ ?_ | fail);(focus (simp [aU,aB] <;> fail));(focus (simp [bh,aR] <;> fail))) | ((first | refine bR (bL _) ?_ ?_ ?_ | refine cg (bL _) ?_ ?_ ?_ | fail);(focus (simp [aU,aB] <;> fail));(focus (simp [bh,aR] <;> fail))) | (with_reducible first | refine ag bP ?_ | refine ah bP ?_) | (with_reducible first | refine ag bT ?_ | refine ah bT ?_) | ((first | refine ai (fun hg=>?_) (fun hg=>?_) | refine ay (fun hg=>?_) (fun hg=>?_) | refine az (fun hg=>?_) (fun hg=>?_)) <;> try simp -implicitDefEqProofs only [hg,Bool.not_true,Bool.not_false]) | ((with_reducible apply And.intro);focus (first | trivial | omega | decide | (simp -implicitDefEqProofs only [maxLen];omega) | (simp [maxLen,af,ak,an,ax,aj,av,au] <;> omega))) | fail)))
 all_goals (refine (hK _ _ _ _ [] (gL _ _) ?_).2;clear hK j1 j2 j3 v1 s1 s2 f1 f2;simp [gS,bV,newL,gV,gM,bg,aX,lk,bp,fV,gi,fX,iz,iy,aB,gT,bq,aK,gq,gU,iG,aM,iF,aI,gx,ga,sy,Ne.symm sy] <;> simp_all)
def nJ:List Ch→Pl→List Int→Option (Pl×List Int)
 | [],p,ys=>some (p,ys)
 | c::l,p,ys=>if sP p c=true then nJ l (qo p c) (ys++[nG p c]) else none
def js (l:List Ch) (o:Bool):Option (Pl×List Int):=nJ l ⟨0,⟨0,0⟩,⟨0,0⟩,o⟩ []
def lP (m:Nat):Option (Pl×List Int)→SV
 | some q=>.agg (.row m q.2.length q.2.length::q.1.cells.map .rv)
 | none=>.agg [.rv .cm,.rv (.int .i64 0),.rv (.int .i64 0),.rv (.int .i64 0),.rv (.int .i64 0),.rv (.int .i64 0),.rv (.bool false)]
def kG (m:Nat):Option (Pl×List Int)→List (Nat×HB)
 | some q=>[(m,lE q.2)]
 | none=>[]
theorem Tw (l:List Ch) (o:Bool) (hb:l.length≤1000000) (m:Nat):aG Go.Proofs.Tryz.prog 79 [.rv (.sl 8 (gC l)),.rv (.bool o)] [] (kG m (js l o)) (.aP [lP m (js l o),.rv (.bool (js l o).isSome)]):=by
 refine mJ PX [] [] [] [.rv (.sl 8 (gC l)),.rv (.bool o)] [.rv (.sl 8 (gC l)),.rv (.bool o)] _ _ (by simp) (by simp [aO,aQ]) rfl (by simp [bV]) (by simp [gZ]) (fun K hK=>?_)
 have hl:=nS l
 conv in fc _ _ _ _=>reduce
 simp -implicitDefEqProofs only [go_sem,Int.reduceNegSucc]
 repeat' (first | (simp -implicitDefEqProofs only [go_sem,Int.reduceNegSucc,hl]) | (with_reducible refine aA ?_) | ((first | refine ai (fun hg=>?_) (fun hg=>?_) | refine ay (fun hg=>?_) (fun hg=>?_) | refine az (fun hg=>?_) (fun hg=>?_)) <;> try simp -implicitDefEqProofs only [hg,Bool.not_true,Bool.not_false]) | ((with_reducible apply And.intro);focus (first | trivial | omega | decide | (simp -implicitDefEqProofs only [maxLen];omega) | (simp [maxLen,af,ak,an,ax,aj,av,au] <;> omega))) | fail)
 refine fG (ι:=Nat×Pl×List Int) (fun q=>[(13,.rv (.int .i64 q.1)),(12,.rv (.int .i64 l.length)),(11,.rv (.sl 8 (gC l))),(6,.ptr 1 0),(4,.ptr 0 0)]) (fun q=>[some (.var [.rv .cm,.rv (.int .i64 0),.rv (.int .i64 0),.rv (.int .i64 0),.rv (.int .i64 0),.rv (.int .i64 0),.rv (.bool false)]),some (pJ 2 q.2.1 q.2.2),some (lE q.2.2)])
  (fun q=>q.1≤l.length∧q.2.2.length=q.1∧nJ (l.drop q.1) q.2.1 q.2.2=js l o) (fun q=>l.length - q.1) (0,⟨0,⟨0,0⟩,⟨0,0⟩,o⟩,[]) ⟨Nat.zero_le _,rfl,rfl⟩ ((tw 1 1 0 rfl rfl).trans (aZ (by simp [lk,aR]))) (fun q hq K' hN hX hR=>?_)
 obtain ⟨k,p,ys⟩:=q
 obtain ⟨fI,hk2,fY⟩:=hq
 dsimp only at fI hk2 fY ⊢
 simp -implicitDefEqProofs only [go_sem,Int.reduceNegSucc]
 refine ai (fun hg=>?_) (fun hg=>?_)
 ·have aE:k<l.length:=by simp at hg;omega
  have wu:=fy (k:=k) (by omega)
  have hx:=uS aE
  have hp:=Uc p l[k] 1 2 (by decide) ys (by omega)
  rw [List.drop_eq_getElem_cons aE,nJ] at fY
  generalize l[k]=c at *
  have q1:(c.cells.map SV.rv).take 8=c.cells.map SV.rv:=rfl
  have q2:c.cells.take 8=c.cells:=rfl
  have q3:(c.cells.map SV.rv).length=8:=rfl
  have q4:(c.cells.map SV.rv).drop 8=[]:=rfl
  have q5:c.cells.length=8:=rfl
  cases hok:sP p c with
  | true=>
    rw [hok] at hp
    rw [if_pos hok] at fY
    have cq:=hp;repeat' (first | (simp -implicitDefEqProofs only [go_sem,Int.reduceNegSucc,hl,hx,q1,q2,q3,q4,q5,wu]) | (with_reducible refine aA ?_) | (refine bR cq ?_ ?_ ?_;(focus (simp [aU,aB] <;> fail));(focus (simp [bh,aR] <;> fail))) | (refine cg cq ?_ ?_ ?_;(focus (simp [aU,aB] <;> fail));(focus (simp [bh,aR] <;> fail))) | ((first | refine ai (fun hg=>?_) (fun hg=>?_) | refine ay (fun hg=>?_) (fun hg=>?_) | refine az (fun hg=>?_) (fun hg=>?_)) <;> try simp -implicitDefEqProofs only [hg,Bool.not_true,Bool.not_false]) | ((with_reducible apply And.intro);focus (first | trivial | omega | decide | (simp -implicitDefEqProofs only [maxLen];omega) | (simp [maxLen,af,ak,an,ax,aj,av,au] <;> omega))) | fail)
    exact hN (k+1,qo p c,ys++[nG p c]) _ _ ⟨by dsimp only;omega,by simp [hk2],fY⟩ (by dsimp only;omega) (nU (h':=[some (.var [.rv .cm,.rv (.int .i64 0),.rv (.int .i64 0),.rv (.int .i64 0),.rv (.int .i64 0),.rv (.int .i64 0),.rv (.bool false)]),some (pJ 2 (qo p c) (ys++[nG p c])),some (lE (ys++[nG p c]))]) (Nat.zero_le _) ⟨kC (rs:=[.cm,.int .i64 0,.int .i64 0,.int .i64 0,.int .i64 0,.int .i64 0,.bool false]),⟨jx.2 (by simp),kC⟩,iP,trivial⟩ (by simp [iw,lk,jT,lY]))
  | false=>
    rw [hok] at hp
    rw [if_neg (by rw [hok];simp)] at fY
    have cu:=hp;repeat' (first | (simp -implicitDefEqProofs only [go_sem,Int.reduceNegSucc,hl,hx,q1,q2,q3,q4,q5,wu]) | (with_reducible refine aA ?_) | (refine bR cu ?_ ?_ ?_;(focus (simp [aU,aB] <;> fail));(focus (simp [bh,aR] <;> fail))) | (refine cg cu ?_ ?_ ?_;(focus (simp [aU,aB] <;> fail));(focus (simp [bh,aR] <;> fail))) | ((first | refine ai (fun hg=>?_) (fun hg=>?_) | refine ay (fun hg=>?_) (fun hg=>?_) | refine az (fun hg=>?_) (fun hg=>?_)) <;> try simp -implicitDefEqProofs only [hg,Bool.not_true,Bool.not_false]) | ((with_reducible apply And.intro);focus (first | trivial | omega | decide | (simp -implicitDefEqProofs only [maxLen];omega) | (simp [maxLen,af,ak,an,ax,aj,av,au] <;> omega))) | fail)
    refine hR _ _ (hK _ _ _ _ [] (gL _ _) ?_).2
    rw [← fY]
    simp [gS,bV,newL,gV,gM,bg,aX,lk,bp,fV,gi,fX,iz,iy,aB,gT,bq,aK,gq,gU,iG,aM,iF,aI,gx,ga,ia,lP,kG,Pl.cells,aM,aI]
 ·have aE:k=l.length:=by simp at hg;omega
  subst aE
  simp -implicitDefEqProofs only [go_sem,Int.reduceNegSucc]
  refine hX _ _ _ ?_
  rw [List.drop_length,nJ] at fY
  simp -implicitDefEqProofs only [pJ,lE,Pl.cells,go_sem,Int.reduceNegSucc]
  repeat' (first | (simp -implicitDefEqProofs only [go_sem,Int.reduceNegSucc]) | (with_reducible refine aA ?_) | ((first | refine ai (fun hg=>?_) (fun hg=>?_) | refine ay (fun hg=>?_) (fun hg=>?_) | refine az (fun hg=>?_) (fun hg=>?_)) <;> try simp -implicitDefEqProofs only [hg,Bool.not_true,Bool.not_false]) | ((with_reducible apply And.intro);focus (first | trivial | omega | decide | (simp -implicitDefEqProofs only [maxLen];omega) | (simp [maxLen,af,ak,an,ax,aj,av,au] <;> omega))) | fail)
  refine (hK _ _ _ _ [none,none,some m] (gL _ _) ?_).2
  rw [← fY]
  simp [gS,bV,newL,gV,gM,bg,aX,lk,bp,fV,gi,fX,iz,iy,aB,gT,bq,aK,gq,gU,iG,aM,iF,aI,gx,ga,ia,lP,kG,Pl.cells,lE,aM,aI]
theorem Aw {cs:List SV} (h:∀ y∈cs,iH y):iH (.agg cs):=.agg _ fun j y hy=>h y (List.mem_of_getElem? hy)
theorem Ef {cs:List SV} (h:∀ y∈cs,iH y):iH (.aP cs):=.aP _ fun j y hy=>h y (List.mem_of_getElem? hy)
theorem Si (p:Pl):∀ r∈p.cells,ju r:=by
 intro r hr
 simp -implicitDefEqProofs only [Pl.cells,List.mem_cons,List.not_mem_nil,or_false] at hr
 rcases hr with rfl | rfl | rfl | rfl | rfl | rfl <;> first | exact .int _ _ | exact .bool _
theorem Jt (ys:List Int):oN (lE ys):=.row _ _ _ fun i x j y hx hy=>by
 simp -implicitDefEqProofs only [aN,List.getElem?_map,Option.map_eq_some_iff,aL] at hx
 obtain ⟨a,⟨b,_,rfl⟩,rfl⟩:=hx
 cases j with
 | zero=>simp at hy;subst hy;exact .rv _ (.int _ _)
 | succ j=>simp at hy
theorem GQ (m:Nat) (o:Option (Pl×List Int)):iH (lP m o):=by
 cases o with
 | none=>
   refine Aw fun y hy=>?_
   simp -implicitDefEqProofs only [List.mem_cons,List.not_mem_nil,or_false] at hy
   rcases hy with rfl | rfl | rfl | rfl | rfl | rfl | rfl <;> exact .rv _ (by constructor)
 | some q=>
   refine Aw fun y hy=>?_
   rcases List.mem_cons.1 hy with rfl | hy
   ·exact .row _ _ _
   ·obtain ⟨r,hr,rfl⟩:=List.mem_map.1 hy
    exact .rv _ (Si _ r hr)
theorem Tx (l:List Ch) (o:Bool) (hb:l.length≤1000000) (j v m:Nat) (sy:j≠m):aG Go.Proofs.Tryz.prog 79 [.row j v l.length,.rv (.bool o)] [(j,.row 8 v (aN (gC l)))] (kG m (js l o)) (.aP [lP m (js l o),.rv (.bool (js l o).isSome)]):=by
 refine uQ (iO:=[.rv (.sl 8 (gC l)),.rv (.bool o)]) (Tw l o hb m) rfl (fun hp hpre k y r hy hr=>?_) (Ef fun y hy=>?_) (fun q hq=>?_)
 ·match k with
  | 0=>
    cases hy;cases hr
    have:=nX (h:=hp) (τ:=fun _=>none) (j:=j) (e:=8) (aq:=v) (len:=l.length) (xs:=gC l) (hpre _ (.head _)) rfl (by rw [nS];omega) (fun x hx r hr=>by
     obtain ⟨c,_,rfl⟩:=List.mem_map.1 hx
     simp -implicitDefEqProofs only [Ch.cells,List.mem_cons,List.not_mem_nil,or_false] at hr
     rcases hr with rfl | rfl | rfl | rfl | rfl | rfl | rfl | rfl <;> rfl)
    rw [List.take_of_length_le (by rw [nS];omega)] at this
    exact .fz _ _ this
  | 1=>cases hy;cases hr;exact aK.2 rfl
  | k+2=>simp at hy
 ·simp -implicitDefEqProofs only [List.mem_cons,List.not_mem_nil,or_false] at hy
  rcases hy with rfl | rfl
  ·exact GQ _ _
  ·exact .rv _ (.bool _)
 ·revert hq
  cases js l o with
  | none=>simp [kG]
  | some z=>
    simp -implicitDefEqProofs only [kG,List.mem_singleton]
    rintro rfl
    refine ⟨Jt _,fun p hp=>?_⟩
    subst hp
    exact sy
end Go.aJ

namespace Go.aJ
open Go
theorem Pe:aT Go.Proofs.Tryz.prog 68 34 (fc Go.Proofs.Tryz.prog 68 34 [(.c 4 8 true),(.t 5)]) [(.c 4 8 true),(.t 5)]:=bn (by kernel_rfl)
theorem Pf:aT Go.Proofs.Tryz.prog 73 36 (fc Go.Proofs.Tryz.prog 73 36 [(.c 2 2 true)]) [(.c 2 2 true)]:=bn (by kernel_rfl)
theorem ru (x:Ln) (b:Int) (has:Bool):aG Go.Proofs.Tryz.prog 35 [x.sv,.rv (.int .i64 b),.rv (.bool has)] [] [] (.aP [(fR x b has).sv,.rv (.bool (gQ x b has))]):=by
 refine bt Pc [x.sv,.rv (.int .i64 b),.rv (.bool has)] _ (by simp) (by simp [aO,aW,bl,aQ,aY,aC.sv,Ln.sv,Nd.sv]) (fun K hK=>?_)
 have hf:=jM x.n
 have hp:=Uf b x.n
 conv in fc _ _ _ _=>reduce
 simp -implicitDefEqProofs only [Ln.sv,Ln.cells,Sz.sv,Sz.cells,go_sem,Int.reduceNegSucc]
 have aS:=hf;have y_2:=hp;repeat' (first | (simp -implicitDefEqProofs only [go_sem,Int.reduceNegSucc]) | (with_reducible refine aA ?_) | (with_reducible first | refine ag aS ?_ | refine ah aS ?_) | (with_reducible first | refine ag y_2 ?_ | refine ah y_2 ?_) | ((first | refine ai (fun hg=>?_) (fun hg=>?_) | refine ay (fun hg=>?_) (fun hg=>?_) | refine az (fun hg=>?_) (fun hg=>?_)) <;> try simp -implicitDefEqProofs only [hg,Bool.not_true,Bool.not_false]) | ((with_reducible apply And.intro);focus (first | trivial | omega | decide | (simp -implicitDefEqProofs only [maxLen];omega) | (simp [maxLen,af,ak,an,ax,aj,av,au] <;> omega))) | fail)
 all_goals (refine (hK _ _ ?_).2;clear hK;simp -implicitDefEqProofs only [go_sem,Int.reduceNegSucc,aX,bg,bp,bq,aM,aK,aI,Sz.sv,Sz.cells,fR,gQ,lD] <;>(try simp_all [-Int.not_lt,-Int.not_le,aM,aK,aI,bG,Sz.sv,Sz.cells,fR,gQ,lD]) <;> try omega)
theorem HR (q:Q4 Ln) (b:Int):aG Go.Proofs.Tryz.prog 68 [.agg (q.pI.map .rv),.rv (.int .i64 b)] [] [] (.aP [.agg ((mz q b).ie.map .rv),.rv (.bool (oH q b))]):=by
 refine bt Pe [.agg (q.pI.map .rv),.rv (.int .i64 b)] _ (by simp) (by simp [aO,aW,bl,aQ,aY,aC.sv,Ln.sv,Nd.sv]) (fun K hK=>?_)
 have ha:=ru q.a b true
 have hb:=ru q.b b true
 have hc:=ru q.c b true
 have hd:=ru q.d b true
 conv in fc _ _ _ _=>reduce
 simp -implicitDefEqProofs only [Q4.pI,Ln.sv,Ln.cells,Sz.sv,Sz.cells,go_sem,Int.reduceNegSucc] at *
 repeat' (first | (simp -implicitDefEqProofs only [go_sem,Int.reduceNegSucc]) | (with_reducible refine aA ?_) | ((first | refine ai (fun hg=>?_) (fun hg=>?_) | refine ay (fun hg=>?_) (fun hg=>?_) | refine az (fun hg=>?_) (fun hg=>?_)) <;> try simp -implicitDefEqProofs only [hg,Bool.not_true,Bool.not_false]) | ((with_reducible apply And.intro);focus (first | trivial | omega | decide | (simp -implicitDefEqProofs only [maxLen];omega) | (simp [maxLen,af,ak,an,ax,aj,av,au] <;> omega))) | fail)
 refine jV 5 ?_
 have bA:=ha;have bF:=hb;have bJ:=hc;have bL:=hd;repeat' (first | (simp -implicitDefEqProofs only [go_sem,Int.reduceNegSucc,ke,kf,kg,ki,kj,kk,jR,Int.reduceLT,decide_true,decide_false,Int.reduceToNat,Nat.reduceMul]) | (with_reducible refine aA ?_) | (with_reducible show G _ _ (It.l _ _::_) _ _ _;refine jU ?_) | (with_reducible first | refine ag bA ?_ | refine ah bA ?_) | (with_reducible first | refine ag bF ?_ | refine ah bF ?_) | (with_reducible first | refine ag bJ ?_ | refine ah bJ ?_) | (with_reducible first | refine ag bL ?_ | refine ah bL ?_) | ((first | refine ai (fun hg=>?_) (fun hg=>?_) | refine ay (fun hg=>?_) (fun hg=>?_) | refine az (fun hg=>?_) (fun hg=>?_)) <;> try simp -implicitDefEqProofs only [hg,Bool.not_true,Bool.not_false]) | ((with_reducible apply And.intro);focus (first | trivial | omega | decide | (simp -implicitDefEqProofs only [maxLen];omega) | (simp [maxLen,af,ak,an,ax,aj,av,au] <;> omega))) | fail)
 all_goals (refine (hK _ _ ?_).2;clear hK;simp -implicitDefEqProofs only [go_sem,Int.reduceNegSucc,aX,bg,bp,bq,aM,aK,aI,mz,oH,wG,Q4.ie] <;>(try simp_all [-Int.not_lt,-Int.not_le,aM,aK,aI,bG,mz,oH,wG,Q4.ie]) <;> try omega)
theorem HQ (x y:Ln) (b:Int) (has:Bool):aG Go.Proofs.Tryz.prog 36 [x.sv,y.sv,.rv (.int .i64 b),.rv (.bool has)] [] [] (.aP [.rv (.int .i64 (bf (fR x b has) 0)),.rv (.int .i64 (bf (fR y b has) 1125899906842624)),.rv (.bool (gQ x b has && gQ y b has))]):=by
 refine bt Pb [x.sv,y.sv,.rv (.int .i64 b),.rv (.bool has)] _ (by simp) (by simp [aO,aW,bl,aQ,aY,aC.sv,Ln.sv,Nd.sv]) (fun K hK=>?_)
 have h1:=ru x b has
 have h2:=ru y b has
 have o1:=oI (fR x b has) 0
 have o2:=oI (fR y b has) 1125899906842624
 generalize fR x b has=X at *
 generalize fR y b has=Y at *
 conv in fc _ _ _ _=>reduce
 simp -implicitDefEqProofs only [Ln.sv,Ln.cells,Sz.sv,Sz.cells,go_sem,Int.reduceNegSucc] at *
 have bP:=h1;have bT:=h2;have cq:=o1;have cu:=o2;repeat' (first | (simp -implicitDefEqProofs only [go_sem,Int.reduceNegSucc]) | (with_reducible refine aA ?_) | (with_reducible first | refine ag bP ?_ | refine ah bP ?_) | (with_reducible first | refine ag bT ?_ | refine ah bT ?_) | (with_reducible first | refine ag cq ?_ | refine ah cq ?_) | (with_reducible first | refine ag cu ?_ | refine ah cu ?_) | ((first | refine ai (fun hg=>?_) (fun hg=>?_) | refine ay (fun hg=>?_) (fun hg=>?_) | refine az (fun hg=>?_) (fun hg=>?_)) <;> try simp -implicitDefEqProofs only [hg,Bool.not_true,Bool.not_false]) | ((with_reducible apply And.intro);focus (first | trivial | omega | decide | (simp -implicitDefEqProofs only [maxLen];omega) | (simp [maxLen,af,ak,an,ax,aj,av,au] <;> omega))) | fail)
 all_goals (refine (hK _ _ ?_).2;clear hK;simp -implicitDefEqProofs only [go_sem,Int.reduceNegSucc,aX,bg,bp,bq,aM,aK,aI] <;>(try simp_all [-Int.not_lt,-Int.not_le,aM,aK,aI,bG]) <;> try omega)
theorem Ur (x:Int):aG Go.Proofs.Tryz.prog 73 [.rv (.sl 1 [[.int .i64 x]])] [] [] (Su.sv ⟨max x 0,min x 0⟩):=by
 refine bt Pf [.rv (.sl 1 [[.int .i64 x]])] _ (by simp) (by simp [aO,aW,bl,aQ,aY,aC.sv,Ln.sv,Nd.sv]) (fun K hK=>?_)
 conv in fc _ _ _ _=>reduce
 simp -implicitDefEqProofs only [go_sem,Int.reduceNegSucc]
 repeat' (first | (simp -implicitDefEqProofs only [go_sem,Int.reduceNegSucc]) | (with_reducible refine aA ?_) | ((first | refine ai (fun hg=>?_) (fun hg=>?_) | refine ay (fun hg=>?_) (fun hg=>?_) | refine az (fun hg=>?_) (fun hg=>?_)) <;> try simp -implicitDefEqProofs only [hg,Bool.not_true,Bool.not_false]) | ((with_reducible apply And.intro);focus (first | trivial | omega | decide | (simp -implicitDefEqProofs only [maxLen];omega) | (simp [maxLen,af,ak,an,ax,aj,av,au] <;> omega))) | fail)
 refine jV 2 ?_
 repeat' (first | (simp -implicitDefEqProofs only [go_sem,Int.reduceNegSucc,ke,kf,kg,ki,kj,kk,jR,Int.reduceLT,decide_true,decide_false,Int.reduceToNat,Nat.reduceMul]) | (with_reducible refine aA ?_) | (with_reducible show G _ _ (It.l _ _::_) _ _ _;refine jU ?_) | ((first | refine ai (fun hg=>?_) (fun hg=>?_) | refine ay (fun hg=>?_) (fun hg=>?_) | refine az (fun hg=>?_) (fun hg=>?_)) <;> try simp -implicitDefEqProofs only [hg,Bool.not_true,Bool.not_false]) | ((with_reducible apply And.intro);focus (first | trivial | omega | decide | (simp -implicitDefEqProofs only [maxLen];omega) | (simp [maxLen,af,ak,an,ax,aj,av,au] <;> omega))) | fail)
 all_goals (refine (hK _ _ ?_).2;clear hK;simp -implicitDefEqProofs only [go_sem,Int.reduceNegSucc,aX,bg,bp,bq,aM,aK,aI,Su.sv,Su.cells] <;>(try simp_all [-Int.not_lt,-Int.not_le,aM,aK,aI,bG,Su.sv,Su.cells]) <;> try omega)
theorem HS (x:Int) (id:Nat):aG Go.Proofs.Tryz.prog 73 [.row id 0 1] [(id,.row 1 0 [[.rv (.int .i64 x)]])] [] (Su.sv ⟨max x 0,min x 0⟩):=by
 refine uQ (iO:=[.rv (.sl 1 [[.int .i64 x]])]) (Ur x) rfl (fun hp hpre k y r hy hr=>?_) (Aw fun y hy=>?_) (by simp)
 ·match k with
  | 0=>
    cases hy;cases hr
    have:=nX (h:=hp) (τ:=fun _=>none) (j:=id) (e:=1) (aq:=0) (len:=1) (xs:=[[.int .i64 x]]) (hpre _ (.head _)) rfl (by simp) (by simp;rfl)
    exact .fz _ _ this
  | k+1=>simp at hy
 ·simp -implicitDefEqProofs only [Su.cells,List.map_cons,List.map_nil,List.mem_cons,List.not_mem_nil,or_false] at hy
  rcases hy with rfl | rfl <;> exact .rv _ (.int _ _)
end Go.aJ

namespace Go.aJ
open Go
theorem Pk:aT Go.Proofs.Tryz.prog 75 24 (fc Go.Proofs.Tryz.prog 75 24 [(.t 4)]) [(.t 4)]:=bn (by kernel_rfl)
theorem Pj:aT Go.Proofs.Tryz.prog 45 145 (fc Go.Proofs.Tryz.prog 45 145 [(.c 4 7 true),(.t 5)]) [(.c 4 7 true),(.t 5)]:=bn (by kernel_rfl)
def jZ:List Ch→Nat
 | []=>0
 | c::l=>if c.through=true then jZ l+1 else 1
def gJ (l:List Ch) (o:Bool):Nat:=if o=true then jZ l else 0
theorem zB:∀ l:List Ch,jZ l≤l.length
 | []=>Nat.le_refl _
 | c::l=>by have:=zB l;simp -implicitDefEqProofs only [jZ,List.length_cons];split <;> omega
theorem Iq:∀ (l:List Ch) (i:Nat) (h:i<l.length),i+1<jZ l→l[i].through=true
 | c::l,0,h,h1=>by simp -implicitDefEqProofs only [jZ] at h1;split at h1 <;> simp_all
 | c::l,i+1,h,h1=>by
   simp -implicitDefEqProofs only [jZ] at h1
   split at h1
   ·exact Iq l i (by simpa using h) (by omega)
   ·omega
theorem Ip:∀ (l:List Ch) (h:jZ l<l.length),∃ h0:jZ l - 1<l.length,0<jZ l∧(l[jZ l - 1]'h0).through=false
 | c::l,h=>by
   simp -implicitDefEqProofs only [jZ] at h ⊢
   split
   ·rename_i hc
    rw [if_pos hc] at h
    obtain ⟨h0,h1,h2⟩:=Ip l (by simpa using h)
    refine ⟨by simp;omega,by omega,?_⟩
    have:jZ l+1 - 1=(jZ l - 1)+1:=by omega
    simp -implicitDefEqProofs only [this,List.getElem_cons_succ]
    exact h2
   ·rename_i hc
    exact ⟨by simp,by omega,by simpa using hc⟩
theorem Dw (c:Ch):(c.cells.map SV.rv)[6]?=some (.rv (.bool c.through)):=rfl
theorem KD (c:Ch):c.cells[6]?=some (.bool c.through):=rfl
theorem xM (c:Ch):(c.cells.drop 6)[0]?=some (.bool c.through):=rfl
theorem Uu (l:List Ch) (o:Bool) (hb:l.length≤1000000):aG Go.Proofs.Tryz.prog 75 [.rv (.sl 8 (gC l)),.rv (.bool o)] [] [] (.rv (.int .i64 (gJ l o))):=by
 refine bt Pk [.rv (.sl 8 (gC l)),.rv (.bool o)] _ (by simp) (by simp [aO,aW,bl,aQ,aY,aC.sv,Ln.sv,Nd.sv]) (fun K hK=>?_)
 have hl:=nS l
 conv in fc _ _ _ _=>reduce
 simp -implicitDefEqProofs only [go_sem,Int.reduceNegSucc]
 cases o with
 | false=>
   repeat' (first | (simp -implicitDefEqProofs only [go_sem,Int.reduceNegSucc]) | (with_reducible refine aA ?_) | ((first | refine ai (fun hg=>?_) (fun hg=>?_) | refine ay (fun hg=>?_) (fun hg=>?_) | refine az (fun hg=>?_) (fun hg=>?_)) <;> try simp -implicitDefEqProofs only [hg,Bool.not_true,Bool.not_false]) | ((with_reducible apply And.intro);focus (first | trivial | omega | decide | (simp -implicitDefEqProofs only [maxLen];omega) | (simp [maxLen,af,ak,an,ax,aj,av,au] <;> omega))) | fail)
   exact (hK _ _ (bO rfl)).2
 | true=>
   simp -implicitDefEqProofs only [gJ,if_true] at hK
   repeat' (first | (simp -implicitDefEqProofs only [go_sem,Int.reduceNegSucc,hl]) | (with_reducible refine aA ?_) | ((first | refine ai (fun hg=>?_) (fun hg=>?_) | refine ay (fun hg=>?_) (fun hg=>?_) | refine az (fun hg=>?_) (fun hg=>?_)) <;> try simp -implicitDefEqProofs only [hg,Bool.not_true,Bool.not_false]) | ((with_reducible apply And.intro);focus (first | trivial | omega | decide | (simp -implicitDefEqProofs only [maxLen];omega) | (simp [maxLen,af,ak,an,ax,aj,av,au] <;> omega))) | fail)
   refine fG (ι:=Nat) (fun k=>[(10,.rv (.int .i64 k)),(9,.rv (.int .i64 l.length)),(0,.rv (.sl 8 (gC l)))]) (fun _=>[]) (fun k=>k≤l.length∧jZ l=k+jZ (l.drop k)) (fun k=>l.length - k) 0 ⟨Nat.zero_le _,by simp⟩ (aZ (by simp [lk])) (fun k hk K' hN hX hR=>?_)
   obtain ⟨fI,hk2⟩:=hk
   simp -implicitDefEqProofs only [go_sem,Int.reduceNegSucc]
   refine ai (fun hg=>?_) (fun hg=>?_)
   ·have aE:k<l.length:=by simp at hg;omega
    have wu:=fy (k:=k) (by omega)
    have hx:=uS aE
    rw [List.drop_eq_getElem_cons aE,jZ] at hk2
    generalize l[k]=c at *
    have q1:=Dw c
    have q3:=xM c
    have q2:c.cells.length=8:=rfl
    cases hc:c.through with
    | true=>
      rw [hc] at q1 hk2 q3
      simp -implicitDefEqProofs only [if_true] at hk2
      repeat' (first | (simp -implicitDefEqProofs only [go_sem,Int.reduceNegSucc,hl,hx,q1,q2,q3,wu,List.length_drop]) | (with_reducible refine aA ?_) | ((first | refine ai (fun hg=>?_) (fun hg=>?_) | refine ay (fun hg=>?_) (fun hg=>?_) | refine az (fun hg=>?_) (fun hg=>?_)) <;> try simp -implicitDefEqProofs only [hg,Bool.not_true,Bool.not_false]) | ((with_reducible apply And.intro);focus (first | trivial | omega | decide | (simp -implicitDefEqProofs only [maxLen];omega) | (simp [maxLen,af,ak,an,ax,aj,av,au] <;> omega))) | fail)
      exact hN (k+1) _ _ ⟨by omega,by omega⟩ (by omega) (aZ (by simp [lk]))
    | false=>
      rw [hc] at q1 hk2 q3
      simp -implicitDefEqProofs only [Bool.false_eq_true,if_false] at hk2
      repeat' (first | (simp -implicitDefEqProofs only [go_sem,Int.reduceNegSucc,hl,hx,q1,q2,q3,wu,List.length_drop]) | (with_reducible refine aA ?_) | ((first | refine ai (fun hg=>?_) (fun hg=>?_) | refine ay (fun hg=>?_) (fun hg=>?_) | refine az (fun hg=>?_) (fun hg=>?_)) <;> try simp -implicitDefEqProofs only [hg,Bool.not_true,Bool.not_false]) | ((with_reducible apply And.intro);focus (first | trivial | omega | decide | (simp -implicitDefEqProofs only [maxLen];omega) | (simp [maxLen,af,ak,an,ax,aj,av,au] <;> omega))) | fail)
      exact hR _ _ (hK _ _ (bO (by simp [lk,hk2]))).2
   ·have aE:k=l.length:=by simp at hg;omega
    subst aE
    simp -implicitDefEqProofs only [go_sem,Int.reduceNegSucc]
    refine hX _ _ _ ?_
    repeat' (first | (simp -implicitDefEqProofs only [go_sem,Int.reduceNegSucc,hl]) | (with_reducible refine aA ?_) | ((first | refine ai (fun hg=>?_) (fun hg=>?_) | refine ay (fun hg=>?_) (fun hg=>?_) | refine az (fun hg=>?_) (fun hg=>?_)) <;> try simp -implicitDefEqProofs only [hg,Bool.not_true,Bool.not_false]) | ((with_reducible apply And.intro);focus (first | trivial | omega | decide | (simp -implicitDefEqProofs only [maxLen];omega) | (simp [maxLen,af,ak,an,ax,aj,av,au] <;> omega))) | fail)
    exact (hK _ _ (bO (by simp [lk,hk2,jZ]))).2
def lf (l:List Ch) (o:Bool):Bool:=o && (gJ l o == 0 || ((l[gJ l o - 1]?).map (·.through)).getD false)
theorem CY {l:List Ch} {o:Bool} (h:lf l o=true):o=true∧gJ l o=l.length:=by
 simp -implicitDefEqProofs only [lf,Bool.and_eq_true,Bool.or_eq_true,beq_iff_eq] at h
 obtain ⟨rfl,h⟩:=h
 refine ⟨rfl,?_⟩
 simp -implicitDefEqProofs only [gJ,if_true] at h ⊢
 rcases Nat.lt_or_ge (jZ l) l.length with hc | hc
 ·obtain ⟨h0,h1,h2⟩:=Ip l hc
  rcases h with h | h
  ·omega
  ·simp [h0,h2] at h
 ·have:=zB l;omega
def T1 (l:List Ch) (o:Bool) (k:Nat) (e:Int) (t c:Su):Prop:=
 (if bN e=true then nJ (l.drop k) ⟨e,t,c,if k<gJ l o then true else lf l o⟩ (List.replicate k 0) else none)=js l o∧(k<gJ l o→e=0∧c=⟨0,0⟩)
theorem Jx (l:List Ch) (o:Bool):T1 l o 0 0 ⟨0,0⟩ ⟨0,0⟩:=by
 refine ⟨?_,fun _=>⟨rfl,rfl⟩⟩
 rw [if_pos (by rfl)]
 have:(if 0<gJ l o then true else lf l o)=o:=by
  split
  ·rename_i h
   cases o
   ·simp [gJ] at h
   ·rfl
  ·rename_i h
   have:gJ l o=0:=by omega
   simp [lf,this]
 rw [this];rfl
theorem Jy {l:List Ch} {o:Bool} {k:Nat} {e:Int} {t c:Su} (h:T1 l o k e t c) (hk:k<gJ l o) (gF:k<l.length) :
 T1 l o (k+1) (if l[k].through=true then e else l[k].high) (fL t l[k].top) (if l[k].through=true then c else l[k].bottom):=by
 obtain ⟨h1,h2⟩:=h
 obtain ⟨rfl,rfl⟩:=h2 hk
 have ho:o=true:=by cases o <;> simp [gJ] at hk ⊢
 subst ho
 rw [if_pos (by rfl),if_pos hk,List.drop_eq_getElem_cons gF,nJ] at h1
 cases lu:l[k].through with
 | true=>
   simp -implicitDefEqProofs only [if_true]
   refine ⟨?_,fun _=>⟨rfl,rfl⟩⟩
   simp -implicitDefEqProofs only [sP,qo,nG,lu,if_true] at h1
   rw [if_pos (by rfl)] at h1 ⊢
   rw [← h1,List.replicate_succ']
   have:(if k+1<gJ l true then true else lf l true)=true:=by
    split
    ·rfl
    ·have e1:gJ l true - 1=k:=by omega
     simp [lf,e1,gF,lu]
   rw [this]
 | false=>
   have e1:gJ l true=k+1:=by
    rcases Nat.lt_or_ge (k+1) (gJ l true) with hc | hc
    ·have:=Iq l k gF (by simpa [gJ] using hc)
     rw [this] at lu;cases lu
    ·omega
   simp -implicitDefEqProofs only [Bool.false_eq_true,if_false]
   refine ⟨?_,fun h=>by omega⟩
   simp -implicitDefEqProofs only [sP,qo,nG,lu,if_true,Bool.false_eq_true,if_false] at h1
   rw [← h1,List.replicate_succ']
   have:(if k+1<gJ l true then true else lf l true)=false:=by
    rw [if_neg (by omega)]
    simp [lf,e1,gF,lu]
   rw [this]
def T2 (l:List Ch) (o:Bool) (k:Nat) (p:Pl) (ys:List Int):Prop:=k≤l.length∧ys.length=k∧nJ (l.drop k) p ys=js l o∧(p.lV=true→k=l.length)
theorem Jz {l:List Ch} {o:Bool} {e:Int} {t c:Su} (h:T1 l o (gJ l o) e t c) (hf:bN e=true):T2 l o (gJ l o) ⟨e,t,c,lf l o⟩ (List.replicate (gJ l o) 0):=by
 obtain ⟨h1,_⟩:=h
 rw [if_pos hf,if_neg (Nat.lt_irrefl _)] at h1
 refine ⟨?_,by simp,h1,fun h=>(CY h).2⟩
 unfold gJ
 split
 ·exact zB l
 ·exact Nat.zero_le _
end Go.aJ

namespace Go.aJ
open Go
def qu:List SV:=[.rv .cm,.rv (.int .i64 0),.rv (.int .i64 0),.rv (.int .i64 0),.rv (.int .i64 0),.rv (.int .i64 0),.rv (.bool false)]
theorem zI {N:Nat}:mE N qu:=kC (rs:=[.cm,.int .i64 0,.int .i64 0,.int .i64 0,.int .i64 0,.int .i64 0,.bool false])
theorem Kv (c:Ch):((c.cells.map SV.rv).drop 2).take 2=[.rv (.int .i64 c.bottom.p),.rv (.int .i64 c.bottom.n)]:=rfl
theorem Kw (c:Ch):((c.cells.map SV.rv).drop 4).take 2=[.rv (.int .i64 c.inner.p),.rv (.int .i64 c.inner.n)]:=rfl
theorem Kx (c:Ch):(c.cells.map SV.rv)[7]?=some (.rv (.int .i64 c.high)):=rfl
theorem Dr (c:Ch):(c.cells.drop 0).take 2=[.int .i64 c.top.p,.int .i64 c.top.n]:=rfl
theorem Ds (c:Ch):(c.cells.drop 2).take 2=[.int .i64 c.bottom.p,.int .i64 c.bottom.n]:=rfl
theorem KA (c:Ch):(c.cells.map SV.rv).take 2=[.rv (.int .i64 c.top.p),.rv (.int .i64 c.top.n)]:=rfl
theorem Dv (c:Ch):c.cells.take 2=[.int .i64 c.top.p,.int .i64 c.top.n]:=rfl
theorem KB (c:Ch):(c.cells.map SV.rv).take 8=c.cells.map SV.rv:=rfl
theorem KC (c:Ch):c.cells.take 8=c.cells:=rfl
theorem Kz (c:Ch):(c.cells.map SV.rv).drop 8=[]:=rfl
theorem Du (c:Ch):(c.cells.drop 7)[0]?=some (.int .i64 c.high):=rfl
theorem zY (c:Ch):c.cells.length=8:=rfl
theorem via {p X:Prop} (h1:X→p) (h2:X):p:=h1 h2
def qX (m k:Nat) (p:Pl):HB:=.var (.row m k k::p.cells.map .rv)
def rJ (k:Nat) (ys:List Int):HB:=.row 1 k (aN (aL ys))
def qq (l:List Ch) (n:Nat) (q:Nat×Int×Su×Su×List Int):List (Nat×SV):=[(34,.rv (.int .i64 q.1)),(33,.rv (.int .i64 n)),(7,.ptr 1 0),(0,.rv (.sl 8 (gC l))),(6,.rv (.int .i64 n)),(4,.ptr 0 0)]
def zq (A:Bool) (q:Nat×Int×Su×Su×List Int):List (Option HB):=[some (.var qu),some (qX 2 q.1 ⟨q.2.1,q.2.2.1,q.2.2.2.1,A⟩),some (rJ q.1 q.2.2.2.2)]
def Co (l:List Ch) (o:Bool) (n:Nat) (q:Nat×Int×Su×Su×List Int):Prop:=q.1≤n∧q.2.2.2.2=List.replicate q.1 0∧T1 l o q.1 q.2.1 q.2.2.1 q.2.2.2.1
theorem Us (l:List Ch) (o:Bool) (hb:l.length≤1000000) (m:Nat):aG Go.Proofs.Tryz.prog 45 [.rv (.sl 8 (gC l)),.rv (.bool o)] [] (kG m (js l o)) (.aP [lP m (js l o),.rv (.bool (js l o).isSome)]):=by
 refine mJ Pj [] [] [] [.rv (.sl 8 (gC l)),.rv (.bool o)] [.rv (.sl 8 (gC l)),.rv (.bool o)] _ _ (by simp) (by simp [aO,aQ]) rfl (by simp [bV]) (by simp [gZ]) (fun K hK=>?_)
 have hl:=nS l
 have ht:=Uu l o hb
 have VJ:gJ l o≤l.length:=by
  unfold gJ;split
  ·exact zB l
  ·exact Nat.zero_le _
 have yg:=Jx l o
 have hT:=@Jz l o
 have VD:=@CY l o
 have Ev:(o=false∧gJ l o=0∧lf l o=false)∨(o=true∧gJ l o=0∧lf l o=true)∨(o=true∧gJ l o≠0∧∃ h:gJ l o - 1<l.length,lf l o=(l[gJ l o - 1]'h).through):=by
  cases o with
  | false=>exact .inl ⟨rfl,rfl,rfl⟩
  | true=>
    by_cases h0:gJ l true=0
    ·exact .inr (.inl ⟨rfl,h0,by simp [lf,h0]⟩)
    ·have hh:gJ l true - 1<l.length:=by omega
     exact .inr (.inr ⟨rfl,h0,hh,by simp [lf,h0,hh]⟩)
 generalize hA:lf l o=A at *
 generalize hn:gJ l o=n at *
 conv in fc _ _ _ _=>reduce
 simp -implicitDefEqProofs only [go_sem,Int.reduceNegSucc]
 apply via
 ·intro main
  rcases Ev with ⟨ho,h0,tI⟩ | ⟨ho,h0,tI⟩ | ⟨ho,h0,hh,tI⟩
  ·rw [ho] at ht
   have aS:=ht;repeat' (first | (simp -implicitDefEqProofs only [go_sem,Int.reduceNegSucc,hl,ho]) | (with_reducible refine aA ?_) | (with_reducible first | refine ag aS ?_ | refine ah aS ?_) | ((first | refine ai (fun hg=>?_) (fun hg=>?_) | refine ay (fun hg=>?_) (fun hg=>?_) | refine az (fun hg=>?_) (fun hg=>?_)) <;> try simp -implicitDefEqProofs only [hg,Bool.not_true,Bool.not_false]) | ((with_reducible apply And.intro);focus (first | trivial | omega | decide | (simp -implicitDefEqProofs only [maxLen];omega) | (simp [maxLen,af,ak,an,ax,aj,av,au] <;> omega))) | fail)
   refine fG (qq l n) (zq A) (Co l o n) (fun q=>n - q.1) (0,0,⟨0,0⟩,⟨0,0⟩,[]) ⟨Nat.zero_le _,rfl,yg⟩ ?_ main
   subst tI
   refine (tw 1 1 0 rfl rfl).trans (aZ ?_)
   simp [lk,aR,qq]
  ·have e0:((n:Int) == 0)=true:=by rw [h0];rfl
   rw [ho] at ht
   have y_2:=ht;repeat' (first | (simp -implicitDefEqProofs only [go_sem,Int.reduceNegSucc,hl,e0,ho]) | (with_reducible refine aA ?_) | (with_reducible first | refine ag y_2 ?_ | refine ah y_2 ?_) | ((first | refine ai (fun hg=>?_) (fun hg=>?_) | refine ay (fun hg=>?_) (fun hg=>?_) | refine az (fun hg=>?_) (fun hg=>?_)) <;> try simp -implicitDefEqProofs only [hg,Bool.not_true,Bool.not_false]) | ((with_reducible apply And.intro);focus (first | trivial | omega | decide | (simp -implicitDefEqProofs only [maxLen];omega) | (simp [maxLen,af,ak,an,ax,aj,av,au] <;> omega))) | fail)
   refine fG (qq l n) (zq A) (Co l o n) (fun q=>n - q.1) (0,0,⟨0,0⟩,⟨0,0⟩,[]) ⟨Nat.zero_le _,rfl,yg⟩ ?_ main
   subst tI
   refine (tw 1 1 0 rfl rfl).trans (aZ ?_)
   simp [lk,aR,qq]
  ·rw [ho] at ht
   have e1:((n:Int) == 0)=false:=by rw [Bool.eq_false_iff];simp;omega
   have w1:IntKind.i64.wrap ((n:Int) - 1)=((n - 1:Nat):Int):=by rw [wrap_i64 (by omega) (by omega)];omega
   have hx:=uS hh
   have q6:=KD (l[n - 1]'hh)
   have q5:=xM (l[n - 1]'hh)
   have q4:=zY (l[n - 1]'hh)
   rw [← tI] at q5 q6
   generalize l[n - 1]'hh=cc at *
   have bA:=ht;repeat' (first | (simp -implicitDefEqProofs only [go_sem,Int.reduceNegSucc,hl,e1,w1,hx,q6,q5,q4,ho,List.length_drop]) | (with_reducible refine aA ?_) | (with_reducible first | refine ag bA ?_ | refine ah bA ?_) | ((first | refine ai (fun hg=>?_) (fun hg=>?_) | refine ay (fun hg=>?_) (fun hg=>?_) | refine az (fun hg=>?_) (fun hg=>?_)) <;> try simp -implicitDefEqProofs only [hg,Bool.not_true,Bool.not_false]) | ((with_reducible apply And.intro);focus (first | trivial | omega | decide | (simp -implicitDefEqProofs only [maxLen];omega) | (simp [maxLen,af,ak,an,ax,aj,av,au] <;> omega) | (omega;done))) | fail)
   refine fG (qq l n) (zq A) (Co l o n) (fun q=>n - q.1) (0,0,⟨0,0⟩,⟨0,0⟩,[]) ⟨Nat.zero_le _,rfl,yg⟩ ?_ main
   subst tI
   refine (tw 1 1 0 rfl rfl).trans (aZ ?_)
   simp [lk,aR,qq]
 ·clear Ev ht
  intro q hq K' hN hX hR
  obtain ⟨k,e,t,c,ys⟩:=q
  obtain ⟨fI,hk2,fY⟩:=hq
  unfold qq zq
  dsimp only at fI hk2 fY ⊢
  have lI:ys.length=k:=by rw [hk2];simp
  simp -implicitDefEqProofs only [qX,rJ,Pl.cells,qu,go_sem,Int.reduceNegSucc]
  refine ai (fun hg=>?_) (fun hg=>?_)
  ·have aE:k<n:=by simp at hg;omega
   have gF:k<l.length:=by omega
   have wu:=fy (k:=k) (by omega)
   have hx:=uS gF
   have hs:=Jy fY (by rw [hn];exact aE) gF
   have fF:=aj ys
   have jd:(aL ys).take k=aL ys:=List.take_of_length_le (by omega)
   have j1:=uy t l[k].top
   generalize l[k]=x at *
   have r1:=Dr x
   have r2:=Ds x
   have r3:=Dv x
   have r4:=Du x
   have r5:=xM x
   have r6:=zY x
   have vq:(ys++[(0:Int)]).length=ys.length+1:=by simp
   simp -implicitDefEqProofs only [Su.sv,Su.cells,List.map_cons,List.map_nil] at j1
   cases lu:x.through with
   | true=>
     rw [lu] at r5
     simp -implicitDefEqProofs only [lu,if_true] at hs
     have bF:=j1;repeat' (first | (simp -implicitDefEqProofs only [go_sem,Int.reduceNegSucc,hl,hx,r1,r2,r3,r4,r5,r6,lI,fF,jd,mw,List.length_drop,wu]) | (with_reducible refine aA ?_) | (with_reducible first | refine ag bF ?_ | refine ah bF ?_) | ((first | refine ai (fun hg=>?_) (fun hg=>?_) | refine ay (fun hg=>?_) (fun hg=>?_) | refine az (fun hg=>?_) (fun hg=>?_)) <;> try simp -implicitDefEqProofs only [hg,Bool.not_true,Bool.not_false]) | ((with_reducible apply And.intro);focus (first | trivial | omega | decide | (simp -implicitDefEqProofs only [maxLen];omega) | (simp [maxLen,af,ak,an,ax,aj,av,au] <;> omega) | (omega;done))) | fail)
     exact hN (k+1,e,fL t x.top,c,ys++[0]) _ _ ⟨by dsimp only;omega,by simp [hk2,List.replicate_succ'],hs⟩ (by dsimp only;omega) (nU (h':=[some (.var qu),some (qX 2 (k+1) ⟨e,fL t x.top,c,A⟩),some (rJ (k+1) (ys++[0]))]) (Nat.zero_le _) ⟨zI,⟨jx.2 (by simp),kC⟩,iP,trivial⟩ (by simp [qq,iw,lk,jT,lY]))
   | false=>
     rw [lu] at r5
     simp -implicitDefEqProofs only [lu,Bool.false_eq_true,if_false] at hs
     have bJ:=j1;repeat' (first | (simp -implicitDefEqProofs only [go_sem,Int.reduceNegSucc,hl,hx,r1,r2,r3,r4,r5,r6,lI,fF,jd,mw,List.length_drop,wu]) | (with_reducible refine aA ?_) | (with_reducible first | refine ag bJ ?_ | refine ah bJ ?_) | ((first | refine ai (fun hg=>?_) (fun hg=>?_) | refine ay (fun hg=>?_) (fun hg=>?_) | refine az (fun hg=>?_) (fun hg=>?_)) <;> try simp -implicitDefEqProofs only [hg,Bool.not_true,Bool.not_false]) | ((with_reducible apply And.intro);focus (first | trivial | omega | decide | (simp -implicitDefEqProofs only [maxLen];omega) | (simp [maxLen,af,ak,an,ax,aj,av,au] <;> omega) | (omega;done))) | fail)
     exact hN (k+1,x.high,fL t x.top,x.bottom,ys++[0]) _ _ ⟨by dsimp only;omega,by simp [hk2,List.replicate_succ'],hs⟩ (by dsimp only;omega) (nU (h':=[some (.var qu),some (qX 2 (k+1) ⟨x.high,fL t x.top,x.bottom,A⟩),some (rJ (k+1) (ys++[0]))]) (Nat.zero_le _) ⟨zI,⟨jx.2 (by simp),kC⟩,iP,trivial⟩ (by simp [qq,iw,lk,jT,lY]))
  ·have aE:k=n:=by simp at hg;omega
   subst aE
   simp -implicitDefEqProofs only [go_sem,Int.reduceNegSucc]
   refine hX _ _ _ ?_
   clear hN hX hR
   have hf:=jM e
   cases hfe:bN e with
   | false=>
     rw [hfe] at hf
     have hnone:js l o=none:=by rw [← fY.1,if_neg (by rw [hfe];simp)]
     rw [hnone] at hK
     have bL:=hf;repeat' (first | (simp -implicitDefEqProofs only [go_sem,Int.reduceNegSucc]) | (with_reducible refine aA ?_) | (with_reducible first | refine ag bL ?_ | refine ah bL ?_) | ((first | refine ai (fun hg=>?_) (fun hg=>?_) | refine ay (fun hg=>?_) (fun hg=>?_) | refine az (fun hg=>?_) (fun hg=>?_)) <;> try simp -implicitDefEqProofs only [hg,Bool.not_true,Bool.not_false]) | ((with_reducible apply And.intro);focus (first | trivial | omega | decide | (simp -implicitDefEqProofs only [maxLen];omega) | (simp [maxLen,af,ak,an,ax,aj,av,au] <;> omega))) | fail)
     refine (hK _ _ _ _ [] (gL _ _) ?_).2
     simp [gS,bV,newL,gV,gM,bg,aX,lk,bp,fV,gi,fX,iz,iy,aB,gT,bq,aK,gq,gU,iG,aM,iF,aI,gx,ga,ia,lP,kG,Pl.cells,aM,aI]
   | true=>
     rw [hfe] at hf
     have h2:=hT fY hfe
     rw [← hk2] at h2
     clear fY hk2 yg hT
     have bP:=hf;repeat' (first | (simp -implicitDefEqProofs only [go_sem,Int.reduceNegSucc]) | (with_reducible refine aA ?_) | (with_reducible first | refine ag bP ?_ | refine ah bP ?_) | ((first | refine ai (fun hg=>?_) (fun hg=>?_) | refine ay (fun hg=>?_) (fun hg=>?_) | refine az (fun hg=>?_) (fun hg=>?_)) <;> try simp -implicitDefEqProofs only [hg,Bool.not_true,Bool.not_false]) | ((with_reducible apply And.intro);focus (first | trivial | omega | decide | (simp -implicitDefEqProofs only [maxLen];omega) | (simp [maxLen,af,ak,an,ax,aj,av,au] <;> omega))) | fail)
     refine fG (ι:=Nat×Pl×List Int) (fun q=>[(9,.rv (.int .i64 q.1)),(7,.ptr 1 0),(0,.rv (.sl 8 (gC l))),(4,.ptr 0 0)]) (fun q=>[some (.var qu),some (qX 2 q.1 q.2.1),some (rJ q.1 q.2.2)])
      (fun q=>T2 l o q.1 q.2.1 q.2.2) (fun q=>l.length - q.1) (k,⟨e,t,c,A⟩,ys) h2 (aZ (by simp [lk])) (fun q hq K' hN hX hR=>?_)
     clear h2
     obtain ⟨i,p,zs⟩:=q
     obtain ⟨hi1,hi2,jI,hi4⟩:=hq
     dsimp only at hi1 hi2 jI hi4 ⊢
     simp -implicitDefEqProofs only [qX,rJ,Pl.cells,qu,go_sem,Int.reduceNegSucc]
     refine ai (fun hg=>?_) (fun hg=>?_)
     ·have gF:i<l.length:=by simp at hg;omega
      have wu:=fy (k:=i) (by omega)
      have hx:=uS gF
      have vD:p.lV=false:=by
       cases hp:p.lV
       ·rfl
       ·have:=hi4 hp;omega
      have fF:=aj zs
      have jd:(aL zs).take i=aL zs:=List.take_of_length_le (by omega)
      rw [List.drop_eq_getElem_cons gF,nJ] at jI
      generalize l[i]=x at *
      have r0:=KC x
      have r1:=Dr x
      have r2:=Ds x
      have r3:=Dv x
      have r4:=Du x
      have r5:=xM x
      have r6:=zY x
      have r7:=KB x
      have r8:=Kz x
      have s0:=KA x
      have s1:=Kv x
      have s2:=Kw x
      have s3:=Dw x
      have s4:=Kx x
      have j1:=uy p.cur (lW x)
      have j2:=uy p.cur x.top
      have v1:=Cv (fL p.cur (lW x))
      have u1:=fun id=>ux id [p.iB,iN (fL p.cur (lW x))] (by simp)
      have u2:=fun id=>ux id [ct [p.iB,iN (fL p.cur (lW x))],x.high] (by simp)
      simp -implicitDefEqProofs only [sP,qo,nG,vD,Bool.false_eq_true,if_false] at jI
      simp -implicitDefEqProofs only [lK,Su.sv,Su.cells,List.map_cons,List.map_nil,List.length_cons,List.length_nil,Nat.reduceAdd] at j1 j2 v1 u1 u2
      cases lu:x.through with
      | true=>
        rw [lu] at s3 jI r5
        simp -implicitDefEqProofs only [lW,lu,if_true] at j1 j2 v1 u1 u2 jI
        cases vv:nL (fL p.cur x.inner) <;> cases vw:fT [p.iB,iN (fL p.cur x.inner)] <;> rw [vv] at v1 jI <;> rw [vw] at u1 jI <;> simp -implicitDefEqProofs only [Bool.and_self,Bool.false_and,Bool.and_false,Bool.true_and,Bool.true_or,Bool.and_true,Bool.false_eq_true,if_false,if_true] at jI
        case true.true=>
         have bT:=j1;have cq:=v1;have cu:=u1;have gf:=j2;repeat' (first | (simp -implicitDefEqProofs only [go_sem,Int.reduceNegSucc,vD,hl,hx,r0,r1,r2,r3,r4,r5,r6,r7,r8,s0,s1,s2,s3,s4,fF,jd,mw,List.length_drop,List.length_map,List.append_nil,wu]) | (with_reducible refine aA ?_) | (with_reducible first | refine ag bT ?_ | refine ah bT ?_) | (with_reducible first | refine ag cq ?_ | refine ah cq ?_) | ((first | refine bR (cu _) ?_ ?_ ?_ | refine cg (cu _) ?_ ?_ ?_ | fail);(focus (simp [aU,aB] <;> fail));(focus (simp [bh,aR] <;> fail))) | (with_reducible first | refine ag gf ?_ | refine ah gf ?_) | ((first | refine ai (fun hg=>?_) (fun hg=>?_) | refine ay (fun hg=>?_) (fun hg=>?_) | refine az (fun hg=>?_) (fun hg=>?_)) <;> try simp -implicitDefEqProofs only [hg,Bool.not_true,Bool.not_false]) | ((with_reducible apply And.intro);focus (first | trivial | omega | decide | (simp -implicitDefEqProofs only [maxLen];omega) | (simp [maxLen,af,ak,an,ax,aj,av,au] <;> omega) | (omega;done))) | fail)
         exact hN (i+1,⟨p.iB,p.top,fL p.cur x.top,false⟩,zs++[ct [p.iB,iN (fL p.cur x.inner)]]) _ _ ⟨gF,by simp [hi2],jI,fun h=>by cases h⟩ (by dsimp only;omega) (nU (h':=[some (.var qu),some (qX 2 (i+1) ⟨p.iB,p.top,fL p.cur x.top,false⟩),some (rJ (i+1) (zs++[ct [p.iB,iN (fL p.cur x.inner)]]))]) (Nat.zero_le _) ⟨zI,⟨jx.2 (by simp),kC⟩,iP,trivial⟩ (by simp [iw,lk,jT,lY]))
        all_goals
         have gN:=j1;have ig:=v1;have ij:=u1;have iq:=j2;repeat' (first | (simp -implicitDefEqProofs only [go_sem,Int.reduceNegSucc,vD,hl,hx,r0,r1,r2,r3,r4,r5,r6,r7,r8,s0,s1,s2,s3,s4,fF,jd,mw,List.length_drop,List.length_map,List.append_nil,wu]) | (with_reducible refine aA ?_) | (with_reducible first | refine ag gN ?_ | refine ah gN ?_) | (with_reducible first | refine ag ig ?_ | refine ah ig ?_) | ((first | refine bR (ij _) ?_ ?_ ?_ | refine cg (ij _) ?_ ?_ ?_ | fail);(focus (simp [aU,aB] <;> fail));(focus (simp [bh,aR] <;> fail))) | (with_reducible first | refine ag iq ?_ | refine ah iq ?_) | ((first | refine ai (fun hg=>?_) (fun hg=>?_) | refine ay (fun hg=>?_) (fun hg=>?_) | refine az (fun hg=>?_) (fun hg=>?_)) <;> try simp -implicitDefEqProofs only [hg,Bool.not_true,Bool.not_false]) | ((with_reducible apply And.intro);focus (first | trivial | omega | decide | (simp -implicitDefEqProofs only [maxLen];omega) | (simp [maxLen,af,ak,an,ax,aj,av,au] <;> omega) | (omega;done))) | fail)
         refine hR _ _ (hK _ _ _ _ [] (gL _ _) ?_).2
         rw [← jI]
         simp [gS,bV,newL,gV,gM,bg,aX,lk,bp,fV,gi,fX,iz,iy,aB,gT,bq,aK,gq,gU,iG,aM,iF,aI,gx,ga,ia,lP,kG,Pl.cells,aM,aI]
      | false=>
        rw [lu] at s3 jI r5
        simp -implicitDefEqProofs only [lW,lu,Bool.false_eq_true,if_false] at j1 j2 v1 u1 u2 jI
        cases vv:nL (fL p.cur x.top) <;> cases vw:fT [p.iB,iN (fL p.cur x.top)] <;> cases vz:fT [ct [p.iB,iN (fL p.cur x.top)],x.high] <;> rw [vv] at v1 jI <;> rw [vw] at u1 jI <;> rw [vz] at u2 jI <;> simp -implicitDefEqProofs only [Bool.and_self,Bool.false_and,Bool.and_false,Bool.true_and,Bool.true_or,Bool.and_true,Bool.false_or,Bool.false_eq_true,if_false,if_true] at jI
        case true.true.true=>
         have ir:=j1;have iu:=v1;have iJ:=u1;have jN:=u2;repeat' (first | (simp -implicitDefEqProofs only [go_sem,Int.reduceNegSucc,vD,hl,hx,r0,r1,r2,r3,r4,r5,r6,r7,r8,s0,s1,s2,s3,s4,fF,jd,mw,List.length_drop,List.length_map,List.append_nil,wu]) | (with_reducible refine aA ?_) | (with_reducible first | refine ag ir ?_ | refine ah ir ?_) | (with_reducible first | refine ag iu ?_ | refine ah iu ?_) | ((first | refine bR (iJ _) ?_ ?_ ?_ | refine cg (iJ _) ?_ ?_ ?_ | fail);(focus (simp [aU,aB] <;> fail));(focus (simp [bh,aR] <;> fail))) | ((first | refine bR (jN _) ?_ ?_ ?_ | refine cg (jN _) ?_ ?_ ?_ | fail);(focus (simp [aU,aB] <;> fail));(focus (simp [bh,aR] <;> fail))) | ((first | refine ai (fun hg=>?_) (fun hg=>?_) | refine ay (fun hg=>?_) (fun hg=>?_) | refine az (fun hg=>?_) (fun hg=>?_)) <;> try simp -implicitDefEqProofs only [hg,Bool.not_true,Bool.not_false]) | ((with_reducible apply And.intro);focus (first | trivial | omega | decide | (simp -implicitDefEqProofs only [maxLen];omega) | (simp [maxLen,af,ak,an,ax,aj,av,au] <;> omega) | (omega;done))) | fail)
         exact hN (i+1,⟨ct [ct [p.iB,iN (fL p.cur x.top)],x.high],p.top,x.bottom,false⟩,zs++[ct [p.iB,iN (fL p.cur x.top)]]) _ _ ⟨gF,by simp [hi2],jI,fun h=>by cases h⟩ (by dsimp only;omega) (nU (h':=[some (.var qu),some (qX 2 (i+1) ⟨ct [ct [p.iB,iN (fL p.cur x.top)],x.high],p.top,x.bottom,false⟩),some (rJ (i+1) (zs++[ct [p.iB,iN (fL p.cur x.top)]]))]) (Nat.zero_le _) ⟨zI,⟨jx.2 (by simp),kC⟩,iP,trivial⟩ (by simp [iw,lk,jT,lY]))
        all_goals
         have jO:=j1;have kW:=v1;have oK:=u1;have oL:=u2;repeat' (first | (simp -implicitDefEqProofs only [go_sem,Int.reduceNegSucc,vD,hl,hx,r0,r1,r2,r3,r4,r5,r6,r7,r8,s0,s1,s2,s3,s4,fF,jd,mw,List.length_drop,List.length_map,List.append_nil,wu]) | (with_reducible refine aA ?_) | (with_reducible first | refine ag jO ?_ | refine ah jO ?_) | (with_reducible first | refine ag kW ?_ | refine ah kW ?_) | ((first | refine bR (oK _) ?_ ?_ ?_ | refine cg (oK _) ?_ ?_ ?_ | fail);(focus (simp [aU,aB] <;> fail));(focus (simp [bh,aR] <;> fail))) | ((first | refine bR (oL _) ?_ ?_ ?_ | refine cg (oL _) ?_ ?_ ?_ | fail);(focus (simp [aU,aB] <;> fail));(focus (simp [bh,aR] <;> fail))) | ((first | refine ai (fun hg=>?_) (fun hg=>?_) | refine ay (fun hg=>?_) (fun hg=>?_) | refine az (fun hg=>?_) (fun hg=>?_)) <;> try simp -implicitDefEqProofs only [hg,Bool.not_true,Bool.not_false]) | ((with_reducible apply And.intro);focus (first | trivial | omega | decide | (simp -implicitDefEqProofs only [maxLen];omega) | (simp [maxLen,af,ak,an,ax,aj,av,au] <;> omega) | (omega;done))) | fail)
         refine hR _ _ (hK _ _ _ _ [] (gL _ _) ?_).2
         rw [← jI]
         simp [gS,bV,newL,gV,gM,bg,aX,lk,bp,fV,gi,fX,iz,iy,aB,gT,bq,aK,gq,gU,iG,aM,iF,aI,gx,ga,ia,lP,kG,Pl.cells,aM,aI]
     ·have aE:i=l.length:=by simp at hg;omega
      subst aE
      simp -implicitDefEqProofs only [go_sem,Int.reduceNegSucc]
      refine hX _ _ _ ?_
      rw [List.drop_length,nJ] at jI
      repeat' (first | (simp -implicitDefEqProofs only [go_sem,Int.reduceNegSucc]) | (with_reducible refine aA ?_) | ((first | refine ai (fun hg=>?_) (fun hg=>?_) | refine ay (fun hg=>?_) (fun hg=>?_) | refine az (fun hg=>?_) (fun hg=>?_)) <;> try simp -implicitDefEqProofs only [hg,Bool.not_true,Bool.not_false]) | ((with_reducible apply And.intro);focus (first | trivial | omega | decide | (simp -implicitDefEqProofs only [maxLen];omega) | (simp [maxLen,af,ak,an,ax,aj,av,au] <;> omega))) | fail)
      refine (hK _ _ _ _ [none,none,some m] (gL _ _) ?_).2
      rw [← jI]
      simp [gS,bV,newL,gV,gM,bg,aX,lk,bp,fV,gi,fX,iz,iy,aB,gT,bq,aK,gq,gU,iG,aM,iF,aI,gx,ga,ia,lP,kG,Pl.cells,lE,aM,aI,hi2]
end Go.aJ

namespace Go.aJ
open Go
theorem PD:aT Go.Proofs.Tryz.prog 117 28 (fc Go.Proofs.Tryz.prog 117 28 [(.t 6)]) [(.t 6)]:=bn (by kernel_rfl)
theorem PC:aT Go.Proofs.Tryz.prog 96 59 (fc Go.Proofs.Tryz.prog 96 59 [(.c 8 8 true)]) [(.c 8 8 true)]:=bn (by kernel_rfl)
abbrev Ed.sv (e:Ed):SV:=.agg (e.cells.map .rv)
def nc (e:Ed):List Int:=[e.bw.d,e.pad.d.n,e.pad.b.n,e.bw.b]
def jC (e:Ed):List Int:=[e.bw.a,e.pad.a.n,e.pad.c.n,e.bw.c]
theorem TA (e:Ed):aG Go.Proofs.Tryz.prog 62 [e.sv,.rv (.int .i64 3),.rv (.int .i64 1)] [] [] (.aP [.rv (.int .i64 (ct (nc e))),.rv (.bool (fT (nc e)))]):=by
 refine bt FJ [e.sv,.rv (.int .i64 3),.rv (.int .i64 1)] _ (by simp) (by simp [aO,aW,bl,aQ,aY,aC.sv,Ln.sv,Nd.sv]) (fun K hK=>?_)
 have h:=fun id=>uw id (nc e) (by simp [nc])
 simp -implicitDefEqProofs only [lK,nc,List.map_cons,List.map_nil,List.length_cons,List.length_nil,Nat.reduceAdd] at h hK
 conv in fc _ _ _ _=>reduce
 simp -implicitDefEqProofs only [Ed.sv,Ed.cells,Q4.ie,Q4.ints,go_sem,Int.reduceNegSucc]
 have aS:=h;repeat' (first | (simp -implicitDefEqProofs only [go_sem,Int.reduceNegSucc]) | (with_reducible refine aA ?_) | ((first | refine bR (aS _) ?_ ?_ ?_ | refine cg (aS _) ?_ ?_ ?_ | fail);(focus (simp [aU,aB] <;> fail));(focus (simp [bh,aR] <;> fail))) | ((first | refine ai (fun hg=>?_) (fun hg=>?_) | refine ay (fun hg=>?_) (fun hg=>?_) | refine az (fun hg=>?_) (fun hg=>?_)) <;> try simp -implicitDefEqProofs only [hg,Bool.not_true,Bool.not_false]) | ((with_reducible apply And.intro);focus (first | trivial | omega | decide | (simp -implicitDefEqProofs only [maxLen];omega) | (simp [maxLen,af,ak,an,ax,aj,av,au] <;> omega))) | fail)
 exact (hK _ _ (gI rfl rfl)).2
theorem Tz (e:Ed):aG Go.Proofs.Tryz.prog 62 [e.sv,.rv (.int .i64 0),.rv (.int .i64 2)] [] [] (.aP [.rv (.int .i64 (ct (jC e))),.rv (.bool (fT (jC e)))]):=by
 refine bt FJ [e.sv,.rv (.int .i64 0),.rv (.int .i64 2)] _ (by simp) (by simp [aO,aW,bl,aQ,aY,aC.sv,Ln.sv,Nd.sv]) (fun K hK=>?_)
 have h:=fun id=>uw id (jC e) (by simp [jC])
 simp -implicitDefEqProofs only [lK,jC,List.map_cons,List.map_nil,List.length_cons,List.length_nil,Nat.reduceAdd] at h hK
 conv in fc _ _ _ _=>reduce
 simp -implicitDefEqProofs only [Ed.sv,Ed.cells,Q4.ie,Q4.ints,go_sem,Int.reduceNegSucc]
 have y_2:=h;repeat' (first | (simp -implicitDefEqProofs only [go_sem,Int.reduceNegSucc]) | (with_reducible refine aA ?_) | ((first | refine bR (y_2 _) ?_ ?_ ?_ | refine cg (y_2 _) ?_ ?_ ?_ | fail);(focus (simp [aU,aB] <;> fail));(focus (simp [bh,aR] <;> fail))) | ((first | refine ai (fun hg=>?_) (fun hg=>?_) | refine ay (fun hg=>?_) (fun hg=>?_) | refine az (fun hg=>?_) (fun hg=>?_)) <;> try simp -implicitDefEqProofs only [hg,Bool.not_true,Bool.not_false]) | ((with_reducible apply And.intro);focus (first | trivial | omega | decide | (simp -implicitDefEqProofs only [maxLen];omega) | (simp [maxLen,af,ak,an,ax,aj,av,au] <;> omega))) | fail)
 exact (hK _ _ (gI rfl rfl)).2
def wL (e:Ed) (kids:Nat) (p:Pl):Bool:=e.flat && if kids=0 then e.high.auto || (e.high.n == 0) else e.high.auto && p.lV
def gY (y:RV) (p:Pl):List RV:=y::p.cells
theorem UE (e:Ed) (kids:Nat) (y:RV) (p:Pl):aG Go.Proofs.Tryz.prog 117 [e.sv,.rv (.int .i64 kids),.agg ((gY y p).map .rv)] [] [] (.rv (.bool (wL e kids p))):=by
 refine bt PD [e.sv,.rv (.int .i64 kids),.agg ((gY y p).map .rv)] _ (by simp) (by simp [aO,aW,bl,aQ,aY,aC.sv,Ln.sv,Nd.sv]) (fun K hK=>?_)
 have hk:((kids:Int) == 0)=decide (kids=0):=by rw [Bool.eq_iff_iff];simp
 simp -implicitDefEqProofs only [wL] at hK
 conv in fc _ _ _ _=>reduce
 simp -implicitDefEqProofs only [Ed.sv,Ed.cells,gY,Pl.cells,Q4.ie,Q4.ints,go_sem,Int.reduceNegSucc]
 by_cases h0:kids=0 <;> simp -implicitDefEqProofs only [h0,decide_true,decide_false] at hk
 all_goals ((repeat' (first | (simp -implicitDefEqProofs only [go_sem,Int.reduceNegSucc,hk]) | (with_reducible refine aA ?_) | ((first | refine ai (fun hg=>?_) (fun hg=>?_) | refine ay (fun hg=>?_) (fun hg=>?_) | refine az (fun hg=>?_) (fun hg=>?_)) <;> try simp -implicitDefEqProofs only [hg,Bool.not_true,Bool.not_false]) | ((with_reducible apply And.intro);focus (first | trivial | omega | decide | (simp -implicitDefEqProofs only [maxLen];omega) | (simp [maxLen,af,ak,an,ax,aj,av,au] <;> omega))) | fail)))
 all_goals (refine (hK _ _ (bO ?_)).2;clear hK;simp_all [lk])
def pR (e:Ed) (kids:Nat) (p:Pl) (high:Int):Ch:=
 let b:Su:=⟨max (bf e.bB.c 0) 0,min (bf e.bB.c 0) 0⟩
 let i:=fL ⟨max (bf e.bB.a 0) 0,min (bf e.bB.a 0) 0⟩ p.top
 if wL e kids p=true then ⟨fL i b,fL i b,i,true,high⟩
 else ⟨i,if e.lC=true∧0<kids then fL b p.cur else b,i,false,high⟩
theorem TD (e:Ed) (kids:Nat) (y:RV) (p:Pl) (high:Int):aG Go.Proofs.Tryz.prog 96 [e.sv,.rv (.int .i64 kids),.agg ((gY y p).map .rv),.rv (.int .i64 high)] [] [] (.agg ((pR e kids p high).cells.map .rv)):=by
 refine bt PC [e.sv,.rv (.int .i64 kids),.agg ((gY y p).map .rv),.rv (.int .i64 high)] _ (by simp) (by simp [aO,aW,bl,aQ,aY,aC.sv,Ln.sv,Nd.sv]) (fun K hK=>?_)
 have o1:=mU e.bB.a 0
 have o2:=mU e.bB.c 0
 have s1:=HY (bf e.bB.a 0)
 have s2:=HY (bf e.bB.c 0)
 have ht:=UE e kids y p
 simp -implicitDefEqProofs only [pR] at hK
 generalize (⟨max (bf e.bB.a 0) 0,min (bf e.bB.a 0) 0⟩:Su)=A at *
 generalize (⟨max (bf e.bB.c 0) 0,min (bf e.bB.c 0) 0⟩:Su)=B at *
 have j1:=uz A p.top
 have j2:=uz (fL A p.top) B
 have j3:=uz B p.cur
 have hk:decide ((kids:Int)>0)=decide (0<kids):=by simp
 generalize wL e kids p=T at *
 generalize fL A p.top=I at *
 simp -implicitDefEqProofs only [Ed.sv,Ed.cells,gY,Pl.cells,Q4.ie,Q4.ints,Su.sv,Su.cells,Sz.sv,Sz.cells,List.map_cons,List.map_nil,List.cons_append,List.nil_append] at o1 o2 s1 s2 ht j1 j2 j3
 conv in fc _ _ _ _=>reduce
 simp -implicitDefEqProofs only [Ed.sv,Ed.cells,gY,Pl.cells,Q4.ie,Q4.ints,go_sem,Int.reduceNegSucc]
 cases T <;> simp -implicitDefEqProofs only [Bool.false_eq_true,if_true,if_false] at hK ⊢
 all_goals ((have bA:=o1;have bF:=o2;have bJ:=s1;have bL:=s2;have bP:=ht;have bT:=j1;have cq:=j2;have cu:=j3;repeat' (first | (simp -implicitDefEqProofs only [go_sem,Int.reduceNegSucc,hk]) | (with_reducible refine aA ?_) | (with_reducible first | refine ag bA ?_ | refine ah bA ?_) | (with_reducible first | refine ag bF ?_ | refine ah bF ?_) | (with_reducible first | refine ag bJ ?_ | refine ah bJ ?_) | (with_reducible first | refine ag bL ?_ | refine ah bL ?_) | (with_reducible first | refine ag bP ?_ | refine ah bP ?_) | (with_reducible first | refine ag bT ?_ | refine ah bT ?_) | (with_reducible first | refine ag cq ?_ | refine ah cq ?_) | (with_reducible first | refine ag cu ?_ | refine ah cu ?_) | ((first | refine ai (fun hg=>?_) (fun hg=>?_) | refine ay (fun hg=>?_) (fun hg=>?_) | refine az (fun hg=>?_) (fun hg=>?_)) <;> try simp -implicitDefEqProofs only [hg,Bool.not_true,Bool.not_false]) | ((with_reducible apply And.intro);focus (first | trivial | omega | decide | (simp -implicitDefEqProofs only [maxLen];omega) | (simp [maxLen,af,ak,an,ax,aj,av,au] <;> omega))) | fail)))
 all_goals (refine (hK _ _ ?_).2;clear hK;simp -implicitDefEqProofs only [go_sem,Int.reduceNegSucc,aX,bg,bp,bq,aM,aK,aI,Ch.cells] <;>(try simp_all [-Int.not_lt,-Int.not_le,aM,aK,aI,bG,Ch.cells]) <;> try omega)
end Go.aJ

namespace Go.aJ
open Go
theorem PE:aT Go.Proofs.Tryz.prog 67 130 (fc Go.Proofs.Tryz.prog 67 130 [(.c 8 25 true),(.c 9 9 true),(.t 10)]) [(.c 8 25 true),(.c 9 9 true),(.t 10)]:=bn (by kernel_rfl)
theorem PA:aT Go.Proofs.Tryz.prog 30 116 (fc Go.Proofs.Tryz.prog 30 116 [(.c 10 25 true),(.c 11 9 true),(.t 12)]) [(.c 10 25 true),(.c 11 9 true),(.t 12)]:=bn (by kernel_rfl)
structure Fm where
 x:Int
 y:Int
 w:Int
 h:Int
 bB:Q4 Int
 pad:Q4 Int
 bw:Q4 Int
 known:Bool
 child:Ch
 deriving DecidableEq,Inhabited
def Fm.cells (f:Fm):List RV:=[.int .i64 f.x,.int .i64 f.y,.int .i64 f.w,.int .i64 f.h]++f.bB.ints++f.pad.ints++f.bw.ints++(.bool f.known::f.child.cells)
structure La where
 L:List (Nat×Fm)
 p:Pl
 ys:List Int
 high:Int
 deriving DecidableEq,Inhabited
def nF (q:Nat×Fm):List RV:=.int .i64 q.1::q.2.cells
def gX (L:List (Nat×Fm)):List (List RV):=L.map nF
def bz:Option La→List RV
 | some t=>.sl 26 (gX t.L) :: .sl 1 (aL t.ys)::(t.p.cells++[.int .i64 t.high])
 | none=>[.cm,.cm,.int .i64 0,.int .i64 0,.int .i64 0,.int .i64 0,.int .i64 0,.bool false,.int .i64 0]
def fN:Option Fm→List RV
 | some f=>f.cells
 | none=>[.int .i64 0,.int .i64 0,.int .i64 0,.int .i64 0,.int .i64 0,.int .i64 0,.int .i64 0,.int .i64 0,.int .i64 0,.int .i64 0,.int .i64 0,.int .i64 0,.int .i64 0,.int .i64 0,.int .i64 0,.int .i64 0,.bool false,.int .i64 0,.int .i64 0,.int .i64 0,.int .i64 0,.int .i64 0,.int .i64 0,.bool false,.int .i64 0]
abbrev jD (r:Option (Fm×La)):SV:=.aP [.agg ((fN (r.map (·.1))).map .rv),.agg ((bz (r.map (·.2))).map .rv),.rv (.bool r.isSome)]
def mm (e:Ed):Sz:=if e.high.auto=true then e.high else ⟨false,jE e.high.n e.least e.most⟩
def pg (e:Ed) (t:La):Int:=if e.high.auto=true then jE t.high e.least e.most else jE e.high.n e.least e.most
def tG (e:Ed) (x:Ao) (kids:Nat) (t:La):Fm:=
 ⟨x.l,0,x.w,pg e t,⟨bf e.bB.a 0,x.r,bf e.bB.c 0,x.l⟩,⟨e.pad.a.n,e.pad.b.n,e.pad.c.n,e.pad.d.n⟩,e.bw,!e.high.auto,pR e kids t.p (ct [ct (jC e),pg e t])⟩
def oU (e:Ed) (x:Ao) (kids:Nat) (r:Option La×Bool):Option (Fm×La):=if r.2=true then r.1.bind fun t=>if fT (jC e)=true∧fT [ct (jC e),pg e t]=true then some (tG e x kids t,t) else none else none
theorem TH (l:List Nd) (hb:l.length≤8589934592) (n:Int) (e:Ed) (x:Ao) (r:Option La×Bool) (hr:r.2=true→r.1.isSome=true)
 (hI:aG Go.Proofs.Tryz.prog 49 [.rv (fD l),.rv (.int .i64 n),.rv (.int .i64 x.w),(mm e).sv,e.sv,.rv (.int .i64 (-1))] [] [] (.aP [.agg ((bz r.1).map .rv),.rv (.bool r.2)])) :
 aG Go.Proofs.Tryz.prog 67 [.rv (fD l),.rv (.int .i64 n),e.sv,.agg (x.cells.map .rv)] [] [] (jD (oU e x (bK l n).length r)):=by
 refine bt PE [.rv (fD l),.rv (.int .i64 n),e.sv,.agg (x.cells.map .rv)] _ (by simp) (by simp [aO,aW,bl,aQ,aY,aC.sv,Ln.sv,Nd.sv]) (fun K hK=>?_)
 obtain ⟨o,ok⟩:=r
 have hc:=HK e.high.n e.least e.most
 have hf:=HG l n hb
 have hfl:=yV (bK l n)
 have o1:=mU e.bB.a 0
 have o2:=mU e.bB.c 0
 have ha:=Tz e
 cases ok with
 | false=>
   have e1:oU e x (bK l n).length (o,false)=none:=rfl
   rw [e1] at hK
   obtain ⟨u,hu,nt⟩:∃ u,bz o=u∧u.length=9:=⟨_,rfl,by cases o <;> rfl⟩
   rw [hu] at hI
   have q1:(u.map SV.rv).length=9:=by simp [nt]
   have q2:(u.map SV.rv).drop 9=[]:=List.drop_of_length_le (by omega)
   have q3:(u.map SV.rv).take 9=u.map SV.rv:=List.take_of_length_le (by omega)
   simp -implicitDefEqProofs only [mm] at hI
   simp -implicitDefEqProofs only [Ed.sv,Ed.cells,Q4.ie,Q4.ints,Sz.sv,Sz.cells,List.map_cons,List.map_nil,List.cons_append,List.nil_append] at hI
   conv in fc _ _ _ _=>reduce
   simp -implicitDefEqProofs only [Ed.sv,Ed.cells,Q4.ie,Q4.ints,Ao.cells,go_sem,Int.reduceNegSucc]
   cases hh:e.high.auto <;> simp -implicitDefEqProofs only [hh,Bool.false_eq_true,if_true,if_false] at hI ⊢
   all_goals ((have aS:=hc;have y_2:=hI;repeat' (first | (simp -implicitDefEqProofs only [go_sem,Int.reduceNegSucc,nt,q2,q3,List.length_map,List.append_nil]) | (with_reducible refine aA ?_) | (with_reducible first | refine ag aS ?_ | refine ah aS ?_) | (with_reducible first | refine ag y_2 ?_ | refine ah y_2 ?_) | ((first | refine ai (fun hg=>?_) (fun hg=>?_) | refine ay (fun hg=>?_) (fun hg=>?_) | refine az (fun hg=>?_) (fun hg=>?_)) <;> try simp -implicitDefEqProofs only [hg,Bool.not_true,Bool.not_false]) | ((with_reducible apply And.intro);focus (first | trivial | omega | decide | (simp -implicitDefEqProofs only [maxLen];omega) | (simp [maxLen,af,ak,an,ax,aj,av,au] <;> omega))) | fail)))
   all_goals (refine (hK _ _ ?_).2;simp -implicitDefEqProofs only [go_sem,Int.reduceNegSucc,aX,bg,bp,bq,aM,aK,aI,fN,bz,Option.map,Option.isSome])
 | true=>
   obtain ⟨t,rfl⟩:=Option.isSome_iff_exists.1 (hr rfl)
   have e1:oU e x (bK l n).length (some t,true)=if fT (jC e)=true∧fT [ct (jC e),pg e t]=true then some (tG e x (bK l n).length t,t) else none:=rfl
   rw [e1] at hK
   have s1:=fun id=>uw id [ct (jC e),pg e t] (by simp)
   have lH:=HK t.high e.least e.most
   have qb:=TD e (bK l n).length (.sl 1 (aL t.ys)) t.p (ct [ct (jC e),pg e t])
   simp -implicitDefEqProofs only [tG] at hK
   generalize pR e (bK l n).length t.p (ct [ct (jC e),pg e t])=C at *
   generalize bf e.bB.a 0=O1 at *
   generalize bf e.bB.c 0=O2 at *
   generalize jC e=A at *
   simp -implicitDefEqProofs only [mm,pg] at hI s1 qb hK
   simp -implicitDefEqProofs only [lK,bz,gY,Pl.cells,Ed.sv,Ed.cells,Q4.ie,Q4.ints,Sz.sv,Sz.cells,Ch.cells,List.map_cons,List.map_nil,List.cons_append,List.nil_append,List.length_cons,List.length_nil,Nat.reduceAdd] at hI qb ha o1 o2 s1
   conv in fc _ _ _ _=>reduce
   simp -implicitDefEqProofs only [Ed.sv,Ed.cells,Q4.ie,Q4.ints,Ao.cells,go_sem,Int.reduceNegSucc]
   cases hh:e.high.auto <;> simp -implicitDefEqProofs only [hh,Bool.false_eq_true,if_true,if_false] at hI ha s1 qb hK ⊢
   all_goals ((have bA:=hc;have bF:=lH;have bJ:=hI;have bL:=ha;have bP:=s1;have bT:=o1;have cq:=o2;repeat' (first | (simp -implicitDefEqProofs only [go_sem,Int.reduceNegSucc]) | (with_reducible refine aA ?_) | (with_reducible first | refine ag bA ?_ | refine ah bA ?_) | (with_reducible first | refine ag bF ?_ | refine ah bF ?_) | (with_reducible first | refine ag bJ ?_ | refine ah bJ ?_) | (with_reducible first | refine ag bL ?_ | refine ah bL ?_) | ((first | refine bR (bP _) ?_ ?_ ?_ | refine cg (bP _) ?_ ?_ ?_ | fail);(focus (simp [aU,aB] <;> fail));(focus (simp [bh,aR] <;> fail))) | (with_reducible first | refine ag bT ?_ | refine ah bT ?_) | (with_reducible first | refine ag cq ?_ | refine ah cq ?_) | ((first | refine ai (fun hg=>?_) (fun hg=>?_) | refine ay (fun hg=>?_) (fun hg=>?_) | refine az (fun hg=>?_) (fun hg=>?_)) <;> try simp -implicitDefEqProofs only [hg,Bool.not_true,Bool.not_false]) | ((with_reducible apply And.intro);focus (first | trivial | omega | decide | (simp -implicitDefEqProofs only [maxLen];omega) | (simp [maxLen,af,ak,an,ax,aj,av,au] <;> omega))) | fail)))
   all_goals first | (refine jV 5 ?_;(have cu:=hf;have gf:=qb;repeat' (first | (simp -implicitDefEqProofs only [go_sem,Int.reduceNegSucc,ke,kf,kg,ki,kj,kk,jR,Int.reduceLT,decide_true,decide_false,Int.reduceToNat,Nat.reduceMul,hfl]) | (with_reducible refine aA ?_) | (with_reducible show G _ _ (It.l _ _::_) _ _ _;refine jU ?_) | (with_reducible first | refine ag cu ?_ | refine ah cu ?_) | (with_reducible first | refine ag gf ?_ | refine ah gf ?_) | ((first | refine ai (fun hg=>?_) (fun hg=>?_) | refine ay (fun hg=>?_) (fun hg=>?_) | refine az (fun hg=>?_) (fun hg=>?_)) <;> try simp -implicitDefEqProofs only [hg,Bool.not_true,Bool.not_false]) | ((with_reducible apply And.intro);focus (first | trivial | omega | decide | (simp -implicitDefEqProofs only [maxLen];omega) | (simp [maxLen,af,ak,an,ax,aj,av,au] <;> omega))) | fail))) | skip
   all_goals (refine (hK _ _ ?_).2;clear hK;simp -implicitDefEqProofs only [go_sem,Int.reduceNegSucc,aX,bg,bp,bq,aM,aK,aI,fN,bz,Fm.cells,Q4.ints,Ch.cells,Pl.cells,Option.map,Option.isSome] <;>(try simp_all [-Int.not_lt,-Int.not_le,aM,aK,aI,bG,fN,bz,Fm.cells,Q4.ints,Ch.cells,Pl.cells,Option.map,Option.isSome]) <;> try omega)
end Go.aJ

namespace Go.aJ
open Go
def ck (l:List Nd) (n:Int) (w:Int) (h:Sz):Ed:=uW (bS l n) w h (decide (n=0) || (bS l n).clip)
def okB (l:List Nd) (n:Int) (w:Int) (h:Sz):Bool:=rV (bS l n) w h && fT (nc (ck l n w h)) && gQ (bS l n).width w true && gQ (bS l n).jo w true && gQ (bS l n).jm w true
def qy (l:List Nd) (n:Int) (w:Int) (h:Sz) (bH:Bool):Ai:=⟨w,(ck l n w h).bB.d,fR (bS l n).width w true,(ck l n w h).bB.b,ct (nc (ck l n w h)),bH,bf (fR (bS l n).jo w true) 0,bf (fR (bS l n).jm w true) 1125899906842624⟩
def qC (l:List Nd) (ins:Ed→Ao→Option La×Bool) (n:Int) (w:Int) (h:Sz) (bH:Bool):Option (Fm×La):=
 if okB l n w h=true then (mY (qy l n w h bH)).bind fun x=>oU (ck l n w h) x (bK l n).length (ins (ck l n w h) x) else none
theorem Gw {x:Ln} {b d:Int} {has:Bool} (h:gQ x b has=true) (hd:bN d=true):bN (bf (fR x b has) d)=true:=by
 unfold fR
 split
 ·simpa [bf] using hd
 ·split
  ·rename_i h1;simpa [bf] using h1.2
  ·split
   ·rename_i h1 h2 h3
    simp [h3] at h1
    simp [gQ,h3,h1] at h
    simp -implicitDefEqProofs only [bf,Bool.false_eq_true,if_false,lD,h,if_true]
    unfold kS at h;simp at h;exact h.2
   ·rfl
theorem TC (l:List Nd) (hb:l.length≤8589934592) (n:Int) (w:Int) (h:Sz) (bH:Bool) (ins:Ed→Ao→Option La×Bool) (hr:∀ e x,(ins e x).2=true→(ins e x).1.isSome=true)
 (hI:∀ x:Ao,aG Go.Proofs.Tryz.prog 49 [.rv (fD l),.rv (.int .i64 n),.rv (.int .i64 x.w),(mm (ck l n w h)).sv,(ck l n w h).sv,.rv (.int .i64 (-1))] [] [] (.aP [.agg ((bz (ins (ck l n w h) x).1).map .rv),.rv (.bool (ins (ck l n w h) x).2)])) :
 aG Go.Proofs.Tryz.prog 30 [.rv (fD l),.rv (.int .i64 n),.rv (.int .i64 w),h.sv,.rv (.bool bH)] [] [] (jD (qC l ins n w h bH)):=by
 refine bt PA [.rv (fD l),.rv (.int .i64 n),.rv (.int .i64 w),h.sv,.rv (.bool bH)] _ (by simp) (by simp [aO,aW,bl,aQ,aY,aC.sv,Ln.sv,Nd.sv]) (fun K hK=>?_)
 have hst:=HI l n
 have h0:((n == 0):Bool)=decide (n=0):=by rw [Bool.eq_iff_iff];simp
 have he:=TG (bS l n) w h (decide (n=0) || (bS l n).clip)
 have ha:=TA (ck l n w h)
 have h1:=ry (bS l n).width w true
 have h2:=HV (bS l n).jo w true
 have h3:=HW (bS l n).jm w true
 have qN:=fun x=>TH l hb n (ck l n w h) x (ins (ck l n w h) x) (hr _ _) (hI x)
 have hac:=fun a b=>Ty (qy l n w h bH) a b
 have f1:=fun hq=>Gw (x:=(bS l n).jo) (b:=w) (has:=true) hq (d:=0) rfl
 have f2:=fun hq=>Gw (x:=(bS l n).jm) (b:=w) (has:=true) hq (d:=1125899906842624) rfl
 clear hI
 rw [show uW (bS l n) w h (decide (n=0) || (bS l n).clip)=ck l n w h from rfl] at he
 unfold qy at hac
 unfold qC qy okB at hK
 generalize hee:ck l n w h=e at *
 generalize fR (bS l n).width w true=W at *
 generalize bf (fR (bS l n).jo w true) 0=L at *
 generalize bf (fR (bS l n).jm w true) 1125899906842624=X at *
 generalize bS l n=s at *
 have q1:(s.cells.map SV.rv).length=48:=rfl
 generalize hA:ct (nc e)=A at *
 generalize VA:fT (nc e)=Jw at *
 generalize rV s w h=b1 at *
 generalize gQ s.width w true=b2 at *
 generalize gQ s.jo w true=b3 at *
 generalize gQ s.jm w true=b4 at *
 simp -implicitDefEqProofs only [Ed.sv,Ed.cells,Q4.ie,Q4.ints,Sz.sv,Sz.cells,Ai.sv,Ai.cells,List.map_cons,List.map_nil,List.cons_append,List.nil_append] at he ha h1 h2 h3 qN hac
 conv in fc _ _ _ _=>reduce
 simp -implicitDefEqProofs only [Sz.sv,Sz.cells,go_sem,Int.reduceNegSucc]
 cases hall:(b1 && Jw && b2 && b3 && b4) with
 | true=>
   simp -implicitDefEqProofs only [Bool.and_eq_true] at hall
   obtain ⟨⟨⟨⟨rfl,rfl⟩,rfl⟩,rfl⟩,rfl⟩:=hall
   have hx:=hac (f1 rfl) (f2 rfl)
   simp -implicitDefEqProofs only [Bool.and_self,if_true] at hK
   generalize mY ⟨w,e.bB.d,W,e.bB.b,A,bH,L,X⟩=o at *
   cases o with
   | none=>
     simp -implicitDefEqProofs only [ic,Option.isSome,Ao.cells,List.map_cons,List.map_nil,Option.bind] at hx hK
     cases hn0:decide (n=0) <;> rw [hn0] at he h0 <;> simp -implicitDefEqProofs only [Bool.true_or,Bool.false_or] at he
     all_goals ((have aS:=hst;have y_2:=he;have bA:=ha;have bF:=h1;have bJ:=h2;have bL:=h3;have bP:=hx;repeat' (first | (simp -implicitDefEqProofs only [go_sem,Int.reduceNegSucc,q1,cA,dV,cB,dW,cM,ew,cX,eJ,dr,eV,dF,fk,dG,fm,dH,fo,dI,fq,dJ,fu,cC,dX,cD,dY,cE,dZ,cF,ec,cG,ee,cH,eg,cI,ek,cJ,ep,cK,er,cL,eu,cN,ey,cO,ez,cP,eA,cQ,eC,cR,eD,cS,eE,cT,eF,cU,eG,cV,eH,cW,eI,cY,eK,cZ,eL,dc,eM,de,eN,dg,eO,dh,eP,di,eR,dj,eS,dm,eT,dn,eU,dw,eW,dx,eX,cw,eY,dy,eZ,dz,fe,dA,ff,dB,fh,dD,fj,dP,dK,dL,dM,dN,dO,dQ,dR,dS,dU,cz,cv,af,h0]) | (with_reducible refine aA ?_) | (with_reducible first | refine ag aS ?_ | refine ah aS ?_) | (with_reducible first | refine ag y_2 ?_ | refine ah y_2 ?_) | (with_reducible first | refine ag bA ?_ | refine ah bA ?_) | (with_reducible first | refine ag bF ?_ | refine ah bF ?_) | (with_reducible first | refine ag bJ ?_ | refine ah bJ ?_) | (with_reducible first | refine ag bL ?_ | refine ah bL ?_) | (with_reducible first | refine ag bP ?_ | refine ah bP ?_) | ((first | refine ai (fun hg=>?_) (fun hg=>?_) | refine ay (fun hg=>?_) (fun hg=>?_) | refine az (fun hg=>?_) (fun hg=>?_)) <;> try simp -implicitDefEqProofs only [hg,Bool.not_true,Bool.not_false]) | ((with_reducible apply And.intro);focus (first | trivial | omega | decide | (simp -implicitDefEqProofs only [maxLen];omega) | (simp [maxLen,af,ak,an,ax,aj,av,au] <;> omega))) | fail)))
     all_goals (refine (hK _ _ ?_).2;clear hK;simp -implicitDefEqProofs only [go_sem,Int.reduceNegSucc,aX,bg,bp,bq,aM,aK,aI,fN,bz,Option.map,Option.isSome] <;>(try simp_all [-Int.not_lt,-Int.not_le,aM,aK,aI,bG,fN,bz,Option.map,Option.isSome]) <;> try omega)
   | some x=>
     have hfl:=qN x
     simp -implicitDefEqProofs only [ic,Option.isSome,Ao.cells,List.map_cons,List.map_nil,Option.bind] at hx hK hfl
     generalize oU e x (bK l n).length (ins e x)=r at *
     obtain ⟨u,hu,nt⟩:∃ u,fN (r.map (·.1))=u∧u.length=25:=⟨_,rfl,by cases r <;> rfl⟩
     obtain ⟨v,hv,hvl⟩:∃ v,bz (r.map (·.2))=v∧v.length=9:=⟨_,rfl,by cases r <;> rfl⟩
     simp -implicitDefEqProofs only [jD] at hfl hK
     rw [hu,hv] at hfl hK
     have u1:(u.map SV.rv).drop 25=[]:=List.drop_of_length_le (by simp [nt])
     have u2:(u.map SV.rv).take 25=u.map SV.rv:=List.take_of_length_le (by simp [nt])
     have v1:(v.map SV.rv).drop 9=[]:=List.drop_of_length_le (by simp [hvl])
     have v2:(v.map SV.rv).take 9=v.map SV.rv:=List.take_of_length_le (by simp [hvl])
     cases hn0:decide (n=0) <;> rw [hn0] at he h0 <;> simp -implicitDefEqProofs only [Bool.true_or,Bool.false_or] at he
     all_goals ((have bT:=hst;have cq:=he;have cu:=ha;have gf:=h1;have gN:=h2;have ig:=h3;have ij:=hx;have iq:=hfl;repeat' (first | (simp -implicitDefEqProofs only [go_sem,Int.reduceNegSucc,q1,cA,dV,cB,dW,cM,ew,cX,eJ,dr,eV,dF,fk,dG,fm,dH,fo,dI,fq,dJ,fu,cC,dX,cD,dY,cE,dZ,cF,ec,cG,ee,cH,eg,cI,ek,cJ,ep,cK,er,cL,eu,cN,ey,cO,ez,cP,eA,cQ,eC,cR,eD,cS,eE,cT,eF,cU,eG,cV,eH,cW,eI,cY,eK,cZ,eL,dc,eM,de,eN,dg,eO,dh,eP,di,eR,dj,eS,dm,eT,dn,eU,dw,eW,dx,eX,cw,eY,dy,eZ,dz,fe,dA,ff,dB,fh,dD,fj,dP,dK,dL,dM,dN,dO,dQ,dR,dS,dU,cz,cv,af,h0,nt,hvl,u1,u2,v1,v2,List.length_map,List.append_nil]) | (with_reducible refine aA ?_) | (with_reducible first | refine ag bT ?_ | refine ah bT ?_) | (with_reducible first | refine ag cq ?_ | refine ah cq ?_) | (with_reducible first | refine ag cu ?_ | refine ah cu ?_) | (with_reducible first | refine ag gf ?_ | refine ah gf ?_) | (with_reducible first | refine ag gN ?_ | refine ah gN ?_) | (with_reducible first | refine ag ig ?_ | refine ah ig ?_) | (with_reducible first | refine ag ij ?_ | refine ah ij ?_) | (with_reducible first | refine ag iq ?_ | refine ah iq ?_) | ((first | refine ai (fun hg=>?_) (fun hg=>?_) | refine ay (fun hg=>?_) (fun hg=>?_) | refine az (fun hg=>?_) (fun hg=>?_)) <;> try simp -implicitDefEqProofs only [hg,Bool.not_true,Bool.not_false]) | ((with_reducible apply And.intro);focus (first | trivial | omega | decide | (simp -implicitDefEqProofs only [maxLen];omega) | (simp [maxLen,af,ak,an,ax,aj,av,au] <;> omega))) | fail)))
     all_goals (refine (hK _ _ ?_).2;simp -implicitDefEqProofs only [go_sem,Int.reduceNegSucc,aX,bg,bp,bq,aM,aK,aI,ga,nt,hvl,u2,v2,List.length_map,List.drop_zero])
 | false=>
   simp -implicitDefEqProofs only [hall,Bool.false_eq_true,if_false] at hK
   cases hn0:decide (n=0) <;> rw [hn0] at he h0 <;> simp -implicitDefEqProofs only [Bool.true_or,Bool.false_or] at he
   all_goals ((have ir:=hst;have iu:=he;have iJ:=ha;have jN:=h1;have jO:=h2;have kW:=h3;repeat' (first | (simp -implicitDefEqProofs only [go_sem,Int.reduceNegSucc,q1,cA,dV,cB,dW,cM,ew,cX,eJ,dr,eV,dF,fk,dG,fm,dH,fo,dI,fq,dJ,fu,cC,dX,cD,dY,cE,dZ,cF,ec,cG,ee,cH,eg,cI,ek,cJ,ep,cK,er,cL,eu,cN,ey,cO,ez,cP,eA,cQ,eC,cR,eD,cS,eE,cT,eF,cU,eG,cV,eH,cW,eI,cY,eK,cZ,eL,dc,eM,de,eN,dg,eO,dh,eP,di,eR,dj,eS,dm,eT,dn,eU,dw,eW,dx,eX,cw,eY,dy,eZ,dz,fe,dA,ff,dB,fh,dD,fj,dP,dK,dL,dM,dN,dO,dQ,dR,dS,dU,cz,cv,af,h0]) | (with_reducible refine aA ?_) | (with_reducible first | refine ag ir ?_ | refine ah ir ?_) | (with_reducible first | refine ag iu ?_ | refine ah iu ?_) | (with_reducible first | refine ag iJ ?_ | refine ah iJ ?_) | (with_reducible first | refine ag jN ?_ | refine ah jN ?_) | (with_reducible first | refine ag jO ?_ | refine ah jO ?_) | (with_reducible first | refine ag kW ?_ | refine ah kW ?_) | ((first | refine ai (fun hg=>?_) (fun hg=>?_) | refine ay (fun hg=>?_) (fun hg=>?_) | refine az (fun hg=>?_) (fun hg=>?_)) <;> try simp -implicitDefEqProofs only [hg,Bool.not_true,Bool.not_false]) | ((with_reducible apply And.intro);focus (first | trivial | omega | decide | (simp -implicitDefEqProofs only [maxLen];omega) | (simp [maxLen,af,ak,an,ax,aj,av,au] <;> omega))) | fail)))
   all_goals first | (exfalso;simp_all;done) | skip
   all_goals (refine (hK _ _ ?_).2;clear hK;simp -implicitDefEqProofs only [go_sem,Int.reduceNegSucc,aX,bg,bp,bq,aM,aK,aI,fN,bz,Option.map,Option.isSome] <;>(try simp_all [-Int.not_lt,-Int.not_le,aM,aK,aI,bG,fN,bz,Option.map,Option.isSome]) <;> try omega)
end Go.aJ

namespace Go.aJ
open Go
theorem Pq:aT Go.Proofs.Tryz.prog 33 115 (fc Go.Proofs.Tryz.prog 33 115 [(.c 8 24 true),(.t 9)]) [(.c 8 24 true),(.t 9)]:=bn (by kernel_rfl)
theorem Ut (l:List Ch) (o:Bool) (hb:l.length≤1000000) (j v m:Nat) (sy:j≠m):aG Go.Proofs.Tryz.prog 45 [.row j v l.length,.rv (.bool o)] [(j,.row 8 v (aN (gC l)))] (kG m (js l o)) (.aP [lP m (js l o),.rv (.bool (js l o).isSome)]):=by
 refine uQ (iO:=[.rv (.sl 8 (gC l)),.rv (.bool o)]) (Us l o hb m) rfl (fun hp hpre k y r hy hr=>?_) (Ef fun y hy=>?_) (fun q hq=>?_)
 ·match k with
  | 0=>
    cases hy;cases hr
    have:=nX (h:=hp) (τ:=fun _=>none) (j:=j) (e:=8) (aq:=v) (len:=l.length) (xs:=gC l) (hpre _ (.head _)) rfl (by rw [nS];omega) (fun x hx r hr=>by
     obtain ⟨c,_,rfl⟩:=List.mem_map.1 hx
     simp -implicitDefEqProofs only [Ch.cells,List.mem_cons,List.not_mem_nil,or_false] at hr
     rcases hr with rfl | rfl | rfl | rfl | rfl | rfl | rfl | rfl <;> rfl)
    rw [List.take_of_length_le (by rw [nS];omega)] at this
    exact .fz _ _ this
  | 1=>cases hy;cases hr;exact aK.2 rfl
  | k+2=>simp at hy
 ·simp -implicitDefEqProofs only [List.mem_cons,List.not_mem_nil,or_false] at hy
  rcases hy with rfl | rfl
  ·exact GQ _ _
  ·exact .rv _ (.bool _)
 ·revert hq
  cases js l o with
  | none=>simp [kG]
  | some z=>
    simp -implicitDefEqProofs only [kG,List.mem_singleton]
    rintro rfl
    refine ⟨Jt _,fun p hp=>?_⟩
    subst hp
    exact sy
structure Kn where
 bB:Q4 Sz
 pad:Q4 Sz
 high:Sz
 least:Int
 most:Int
 top:Bool
 bottom:Bool
 alone:Bool
 empty:Bool
def Kn.cells (e:Kn):List RV:=e.bB.ie++e.pad.ie++[.bool e.high.auto,.int .i64 e.high.n,.int .i64 e.least,.int .i64 e.most,.bool e.top,.bool e.bottom,.bool e.alone,.bool e.empty]
abbrev Kn.sv (e:Kn):SV:=.agg (e.cells.map .rv)
def vV (l:List Nd) (n:Int) (w:Int) (h:Sz):Kn:=⟨(ck l n w h).bB,(ck l n w h).pad,(ck l n w h).high,(ck l n w h).least,(ck l n w h).most,rC (bS l n) w,qB (bS l n) w,decide (n=0) || (bS l n).clip,decide ((bK l n).length=0)⟩
theorem Ik (x:Nd):(x.cells.map SV.rv).take 48=x.s.cells.map SV.rv:=rfl
theorem TT (l:List Nd) (ht:fU l=true) (hb:l.length≤1000000) (n:Nat) (hn:n<l.length) (w:Int) (h:Sz):aG Go.Proofs.Tryz.prog 33 [.rv (.sl 49 (bu l)),.rv (.int .i64 n),.rv (.int .i64 w),h.sv] [] [] (.aP [(vV l n w h).sv,.rv (.bool (rV (bS l n) w h))]):=by
 refine bt Pq [.rv (.sl 49 (bu l)),.rv (.int .i64 n),.rv (.int .i64 w),h.sv] _ (by simp) (by simp [aO,aW,bl,aQ,aY,aC.sv,Ln.sv,Nd.sv]) (fun K hK=>?_)
 have hl:=an l
 have hx:=jf hn
 have hf:=Uq l ht (by omega) n hn
 have hfl:=yV (bK l n)
 have jc:bS l n=(l[n]'hn).s:=by simp [bS,vM hn,hn]
 rw [jc] at hK
 have h0:(((n:Int) == 0):Bool)=decide ((n:Int)=0):=by rw [Bool.eq_iff_iff];simp
 have hk:((((bK l n).length:Nat):Int) == 0)=decide ((bK l n).length=0):=by rw [Bool.eq_iff_iff];simp
 simp -implicitDefEqProofs only [vV,ck,uW,jc,rC,qB,vY,rV] at hK
 generalize l[n]'hn=x at *
 have x1:=Gt x
 have x2:=ak x
 have x3:=Ik x
 generalize x.s=s at *
 have h1:=HR s.bB w
 have h2:=HR s.pad w
 have h3:=ru s.height h.n (!h.auto)
 have h4:=HQ s.jK s.jJ h.n (!h.auto)
 simp -implicitDefEqProofs only [Q4.ie,Sz.sv,Sz.cells,List.map_cons,List.map_nil] at h1 h2 h3 h4
 generalize mz s.bB w=M at *
 generalize mz s.pad w=D at *
 generalize fR s.height h.n (!h.auto)=H at *
 generalize bf (fR s.jK h.n (!h.auto)) 0=L at *
 generalize bf (fR s.jJ h.n (!h.auto)) 1125899906842624=X at *
 generalize bK l n=FL at *
 conv in fc _ _ _ _=>reduce
 simp -implicitDefEqProofs only [Sz.sv,Sz.cells,go_sem,Int.reduceNegSucc]
 have aS:=h1;have y_2:=h2;have bA:=h3;have bF:=h4;have bJ:=hf;repeat' (first | (simp -implicitDefEqProofs only [go_sem,Int.reduceNegSucc,hl,hx,x1,x2,x3,cA,dV,cB,dW,cM,ew,cX,eJ,dr,eV,dF,fk,dG,fm,dH,fo,dI,fq,dJ,fu,cC,dX,cD,dY,cE,dZ,cF,ec,cG,ee,cH,eg,cI,ek,cJ,ep,cK,er,cL,eu,cN,ey,cO,ez,cP,eA,cQ,eC,cR,eD,cS,eE,cT,eF,cU,eG,cV,eH,cW,eI,cY,eK,cZ,eL,dc,eM,de,eN,dg,eO,dh,eP,di,eR,dj,eS,dm,eT,dn,eU,dw,eW,dx,eX,cw,eY,dy,eZ,dz,fe,dA,ff,dB,fh,dD,fj,dP,dK,dL,dM,dN,dO,dQ,dR,dS,dU,cz,cv,af,Q4.ints,hfl,h0,hk]) | (with_reducible refine aA ?_) | (with_reducible first | refine ag aS ?_ | refine ah aS ?_) | (with_reducible first | refine ag y_2 ?_ | refine ah y_2 ?_) | (with_reducible first | refine ag bA ?_ | refine ah bA ?_) | (with_reducible first | refine ag bF ?_ | refine ah bF ?_) | (with_reducible first | refine ag bJ ?_ | refine ah bJ ?_) | ((first | refine ai (fun hg=>?_) (fun hg=>?_) | refine ay (fun hg=>?_) (fun hg=>?_) | refine az (fun hg=>?_) (fun hg=>?_)) <;> try simp -implicitDefEqProofs only [hg,Bool.not_true,Bool.not_false]) | ((with_reducible apply And.intro);focus (first | trivial | omega | decide | (simp -implicitDefEqProofs only [maxLen];omega) | (simp [maxLen,af,ak,an,ax,aj,av,au] <;> omega))) | fail)
 all_goals (refine (hK _ _ ?_).2;clear hK;simp -implicitDefEqProofs only [go_sem,Int.reduceNegSucc,aX,bg,bp,bq,aM,aK,aI,Kn.cells,Q4.ie] <;>(try simp_all [-Int.not_lt,-Int.not_le,aM,aK,aI,bG,Kn.cells,Q4.ie]) <;> try omega)
end Go.aJ

namespace Go.aJ
open Go
theorem Pp:aT Go.Proofs.Tryz.prog 40 104 (fc Go.Proofs.Tryz.prog 40 104 [(.c 10 8 true)]) [(.c 10 8 true)]:=bn (by kernel_rfl)
theorem Lt (f:Fm):(f.cells.map SV.rv)[4]?=some (.rv (.int .i64 f.bB.a)):=rfl
theorem Lu (f:Fm):(f.cells.map SV.rv)[6]?=some (.rv (.int .i64 f.bB.c)):=rfl
theorem Uy (k:Kn) (f:Fm) (y:RV) (p:Pl) (ob:Bool) (high:Int) (e:Ed) (kids:Nat) (h1:e.flat=(!k.alone && k.top && k.bottom && (k.least == 0))) (h2:k.empty=decide (kids=0)) (h3:k.high=e.high) (h4:f.bB.a=bf e.bB.a 0) (h5:f.bB.c=bf e.bB.c 0) (h6:ob=e.lC) :
 aG Go.Proofs.Tryz.prog 40 [k.sv,.agg (f.cells.map .rv),.agg ((gY y p).map .rv),.rv (.bool ob),.rv (.int .i64 high)] [] [] (.agg ((pR e kids p high).cells.map .rv)):=by
 refine bt Pp [k.sv,.agg (f.cells.map .rv),.agg ((gY y p).map .rv),.rv (.bool ob),.rv (.int .i64 high)] _ (by simp) (by simp [aO,aW,bl,aQ,aY,aC.sv,Ln.sv,Nd.sv]) (fun K hK=>?_)
 have s1:=HS f.bB.a
 have s2:=HS f.bB.c
 subst h6
 simp -implicitDefEqProofs only [pR,wL,← h3,← h4,← h5,h1] at hK
 have fl:f.cells.length=25:=rfl
 have m0:=Lt f
 have m2:=Lu f
 generalize (⟨max f.bB.a 0,min f.bB.a 0⟩:Su)=A at *
 generalize (⟨max f.bB.c 0,min f.bB.c 0⟩:Su)=B at *
 have j1:=uy A p.top
 have j2:=uy (fL A p.top) B
 have j3:=uy B p.cur
 obtain ⟨T,hT⟩:∃ T,T=(!k.alone && k.top && k.bottom && (k.least == 0)):=⟨_,rfl⟩
 rw [← hT] at hK
 generalize fL A p.top=I at *
 clear h1 h3 h4 h5
 simp -implicitDefEqProofs only [Kn.sv,Kn.cells,gY,Pl.cells,Q4.ie,Su.sv,Su.cells,List.map_cons,List.map_nil,List.cons_append,List.nil_append] at s1 s2 j1 j2 j3
 conv in fc _ _ _ _=>reduce
 simp -implicitDefEqProofs only [Kn.sv,Kn.cells,gY,Pl.cells,Q4.ie,go_sem,Int.reduceNegSucc]
 by_cases yz:kids=0
 ·have hem:k.empty=true:=by rw [h2];simp [yz]
  simp -implicitDefEqProofs only [yz,if_true,Nat.lt_irrefl,and_false,if_false] at hK
  cases nZ:k.alone <;> cases vG:k.top <;> cases mg:k.bottom <;> simp -implicitDefEqProofs only [nZ,vG,mg,Bool.not_true,Bool.not_false,Bool.false_and,Bool.true_and,Bool.and_false] at hT
  all_goals (try subst hT)
  all_goals ((have aS:=s1;have y_2:=s2;have bA:=j1;have bF:=j2;have bJ:=j3;repeat' (first | (simp -implicitDefEqProofs only [go_sem,Int.reduceNegSucc,hem,nZ,vG,mg,fl,m0,m2,List.length_map]) | (with_reducible refine aA ?_) | ((first | refine bR (aS _) ?_ ?_ ?_ | refine cg (aS _) ?_ ?_ ?_ | fail);(focus (simp [aU,aB] <;> fail));(focus (simp [bh,aR] <;> fail))) | ((first | refine bR (y_2 _) ?_ ?_ ?_ | refine cg (y_2 _) ?_ ?_ ?_ | fail);(focus (simp [aU,aB] <;> fail));(focus (simp [bh,aR] <;> fail))) | (with_reducible first | refine ag bA ?_ | refine ah bA ?_) | (with_reducible first | refine ag bF ?_ | refine ah bF ?_) | (with_reducible first | refine ag bJ ?_ | refine ah bJ ?_) | ((first | refine ai (fun hg=>?_) (fun hg=>?_) | refine ay (fun hg=>?_) (fun hg=>?_) | refine az (fun hg=>?_) (fun hg=>?_)) <;> try simp -implicitDefEqProofs only [hg,Bool.not_true,Bool.not_false]) | ((with_reducible apply And.intro);focus (first | trivial | omega | decide | (simp -implicitDefEqProofs only [maxLen];omega) | (simp [maxLen,af,ak,an,ax,aj,av,au] <;> omega))) | fail)))
  all_goals (refine (hK _ _ ?_).2;clear hK;simp -implicitDefEqProofs only [go_sem,Int.reduceNegSucc,aX,bg,bp,bq,aM,aK,aI,Ch.cells] <;>(try simp_all [-Int.not_lt,-Int.not_le,aM,aK,aI,bG,Ch.cells]) <;> try omega)
 ·have hem:k.empty=false:=by rw [h2];simp [yz]
  have hkp:0<kids:=by omega
  simp -implicitDefEqProofs only [yz,hkp,if_false,and_true] at hK
  cases nZ:k.alone <;> cases vG:k.top <;> cases mg:k.bottom <;> simp -implicitDefEqProofs only [nZ,vG,mg,Bool.not_true,Bool.not_false,Bool.false_and,Bool.true_and,Bool.and_false] at hT
  all_goals (try subst hT)
  all_goals ((have bL:=s1;have bP:=s2;have bT:=j1;have cq:=j2;have cu:=j3;repeat' (first | (simp -implicitDefEqProofs only [go_sem,Int.reduceNegSucc,hem,nZ,vG,mg,fl,m0,m2,List.length_map]) | (with_reducible refine aA ?_) | ((first | refine bR (bL _) ?_ ?_ ?_ | refine cg (bL _) ?_ ?_ ?_ | fail);(focus (simp [aU,aB] <;> fail));(focus (simp [bh,aR] <;> fail))) | ((first | refine bR (bP _) ?_ ?_ ?_ | refine cg (bP _) ?_ ?_ ?_ | fail);(focus (simp [aU,aB] <;> fail));(focus (simp [bh,aR] <;> fail))) | (with_reducible first | refine ag bT ?_ | refine ah bT ?_) | (with_reducible first | refine ag cq ?_ | refine ah cq ?_) | (with_reducible first | refine ag cu ?_ | refine ah cu ?_) | ((first | refine ai (fun hg=>?_) (fun hg=>?_) | refine ay (fun hg=>?_) (fun hg=>?_) | refine az (fun hg=>?_) (fun hg=>?_)) <;> try simp -implicitDefEqProofs only [hg,Bool.not_true,Bool.not_false]) | ((with_reducible apply And.intro);focus (first | trivial | omega | decide | (simp -implicitDefEqProofs only [maxLen];omega) | (simp [maxLen,af,ak,an,ax,aj,av,au] <;> omega))) | fail)))
  all_goals (refine (hK _ _ ?_).2;clear hK;simp -implicitDefEqProofs only [go_sem,Int.reduceNegSucc,aX,bg,bp,bq,aM,aK,aI,Ch.cells] <;>(try simp_all [-Int.not_lt,-Int.not_le,aM,aK,aI,bG,Ch.cells]) <;> try omega)
end Go.aJ

namespace Go.aJ
open Go
theorem PF:aT Go.Proofs.Tryz.prog 49 160 (fc Go.Proofs.Tryz.prog 49 160 [(.c 12 9 true),(.t 13)]) [(.c 12 9 true),(.t 13)]:=bn (by kernel_rfl)
def ng (r:Nat×Fm×La):List (Nat×Fm):=(r.1,r.2.1)::r.2.2.L
def bQ (rs:List (Nat×Fm×La)):List (Nat×Fm):=rs.flatMap ng
def jg (rs:List (Nat×Fm×La)):List Int:=(List.range rs.length).map fun i=>((bQ (rs.take i)).length:Int)
def gD (rs:List (Nat×Fm×La)):List Ch:=rs.map fun r=>r.2.1.child
def jq:List (Nat×Fm×La)→List Int→List (Nat×Fm)
 | [],_=>[]
 | r::rs,[]=>ng r++jq rs []
 | r::rs,y::ys=>(r.1,{ r.2.1 with y:=y })::(r.2.2.L++jq rs ys)
def kH (bx:Nat→Option (Fm×La)):List Nat→Option (List (Nat×Fm×La))
 | []=>some []
 | m::ms=>match bx m with
   | some q=>(kH bx ms).map ((m,q) :: ·)
   | none=>none
def ql (rs:List (Nat×Fm×La)) (q:Pl×List Int) (ob:Bool):La:=
 ⟨jq rs q.2,q.1,q.2,if q.1.lV=true then 0 else (let a:=if ob=true then q.1.iB else IntKind.i64.wrap (q.1.iB+iN q.1.cur);if 0>a then 0 else a)⟩
def lz (bx:Nat→Option (Fm×La)) (kids:List Nat) (ok ot ob:Bool):Option La×Bool:=
 if ok=true then match kH bx kids with
  | some rs=>match js (gD rs) ot with
    | some q=>if nL q.1.cur=true then (some (ql rs q ob),bN (ql rs q ob).high) else (none,false)
    | none=>(none,false)
  | none=>(none,false)
 else (none,false)
theorem Fl {bx:Nat→Option (Fm×La)} {kids:List Nat} {ok ot ob:Bool} (h:(lz bx kids ok ot ob).2=true):(lz bx kids ok ot ob).1.isSome=true:=by
 revert h
 unfold lz
 repeat' split
 all_goals simp
theorem CM {rs:List (Nat×Fm×La)} {r:Nat×Fm×La}:bQ (rs++[r])=bQ rs++ng r:=by simp [bQ]
theorem mS (a:List (Nat×Fm)):(gX a).length=a.length:=by simp [gX]
theorem ua {rs:List (Nat×Fm×La)}:(jg rs).length=rs.length:=by simp [jg]
theorem Gy {rs:List (Nat×Fm×La)} {r:Nat×Fm×La}:jg (rs++[r])=jg rs++[((bQ rs).length:Int)]:=by
 simp -implicitDefEqProofs only [jg,List.length_append,List.length_cons,List.length_nil,Nat.zero_add,List.range_succ,List.map_append,List.map_cons,List.map_nil]
 congr 1
 ·refine List.map_congr_left (fun i hi=>?_)
  rw [List.take_append_of_le_length (by simp at hi;omega)]
 ·simp
theorem Gx {rs:List (Nat×Fm×La)} {i:Nat} (h:i<rs.length):(aL (jg rs))[i]?.getD []=[.int .i64 ((bQ (rs.take i)).length:Int)]:=by simp [aL,jg,h]
theorem zj:∀ (rs:List (Nat×Fm×La)),jq rs []=bQ rs
 | []=>rfl
 | r::rs=>by rw [jq,zj rs];simp [bQ]
theorem qp:∀ (rs:List (Nat×Fm×La)) (ys:List Int),(jq rs ys).length=(bQ rs).length
 | [],_=>rfl
 | r::rs,[]=>by rw [zj]
 | r::rs,y::ys=>by rw [jq];simp [bQ,ng,qp rs ys]
theorem wD:∀ (rs:List (Nat×Fm×La)) (ys:List Int) (i:Nat) (h:i<rs.length) (h2:i<ys.length),(jq rs (ys.take i))[(bQ (rs.take i)).length]?=some ((rs[i]'h).1,(rs[i]'h).2.1)∧
 (jq rs (ys.take i)).set (bQ (rs.take i)).length ((rs[i]'h).1,{ (rs[i]'h).2.1 with y:=ys[i]'h2 })=jq rs (ys.take (i+1))
 | [],_,i,h,_=>by simp at h
 | r::rs,[],i,_,h=>by simp at h
 | r::rs,y::ys,0,_,_=>by
   refine ⟨by simp [jq,bQ,ng],?_⟩
   simp -implicitDefEqProofs only [List.take_zero,jq,bQ,List.flatMap_nil,List.length_nil,ng,List.cons_append,List.set_cons_zero,List.getElem_cons_zero,Nat.zero_add,List.take_succ_cons]
 | r::rs,y::ys,i+1,h,h2=>by
   have ih:=wD rs ys i (by simpa using h) (by simpa using h2)
   have e:(bQ ((r::rs).take (i+1))).length=(r.2.2.L.length+(bQ (rs.take i)).length)+1:=by simp [bQ,ng]
   rw [e]
   simp -implicitDefEqProofs only [List.take_succ_cons,jq,List.getElem?_cons_succ,List.set_cons_succ,List.getElem_cons_succ]
   refine ⟨?_,?_⟩
   ·rw [List.getElem?_append_right (by omega),Nat.add_sub_cancel_left];exact ih.1
   ·rw [List.set_append_right _ _ (by omega),Nat.add_sub_cancel_left,ih.2]
theorem GO {rs:List (Nat×Fm×La)} {ys:List Int} {i:Nat} (h:i<rs.length) (h2:i<ys.length):(aN (gX (jq rs (ys.take i))))[(bQ (rs.take i)).length]?.getD []=(nF ((rs[i]'h).1,(rs[i]'h).2.1)).map SV.rv:=by
 have:=(wD rs ys i h h2).1
 simp [aN,gX,this]
theorem GP {rs:List (Nat×Fm×La)} {ys:List Int} {i:Nat} (h:i<rs.length) (h2:i<ys.length):(aN (gX (jq rs (ys.take i)))).set (bQ (rs.take i)).length ((nF ((rs[i]'h).1,{ (rs[i]'h).2.1 with y:=ys[i]'h2 })).map SV.rv)=aN (gX (jq rs (ys.take (i+1)))):=by
 rw [← (wD rs ys i h h2).2]
 simp [aN,gX,List.map_set]
theorem Ie (q:Nat×Fm) (y:Int):splice ((nF q).map SV.rv) 2 [.rv (.int .i64 y)]=(nF (q.1,{ q.2 with y:=y })).map SV.rv:=rfl
theorem GN (q:Nat×Fm):(nF q).length=26:=rfl
theorem Az (f:Fm):f.cells.length=25:=rfl
theorem ze (L:List (Nat×Fm)):∀ x∈gX L,∀ r∈x,r.one=true:=by
 intro x hx r hr
 obtain ⟨q,_,rfl⟩:=List.mem_map.1 hx
 simp -implicitDefEqProofs only [nF,Fm.cells,Q4.ints,Ch.cells,List.cons_append,List.nil_append,List.mem_cons,List.not_mem_nil,or_false] at hr
 rcases hr with h | h | h | h | h | h | h | h | h | h | h | h | h | h | h | h | h | h | h | h | h | h | h | h | h | h <;> rw [h] <;> rfl
theorem Dq {rs:List (Nat×Fm×La)} {r:Nat×Fm×La}:gD (rs++[r])=gD rs++[r.2.1.child]:=by simp [gD]
theorem zy:∀ {l:List Ch} {p:Pl} {ys:List Int} {q:Pl×List Int},nJ l p ys=some q→q.2.length=ys.length+l.length
 | [],p,ys,q,h=>by cases h;rfl
 | c::l,p,ys,q,h=>by
   rw [nJ] at h
   split at h
   ·have:=zy h;simp at this ⊢;omega
   ·cases h
end Go.aJ

namespace Go.aJ
open Go Go.Proofs Go.Shelf
theorem tL {b:Nat} {t:TypeId}:∀ (vs:List Value) (o:Nat) (w:World) (cur:Array Value),w.heap[b]?=some (.cells cur t (0,0))→o+vs.length≤cur.size→
 ∃ cur':Array Value,(w.setCells b o vs).heap[b]?=some (.cells cur' t (0,0))∧cur'.size=cur.size∧(∀ k,k<o∨o+vs.length≤k→cur'[k]?=cur[k]?)∧∀ (j:Nat) (u:Value),vs[j]?=some u→cur'[o+j]?=some u
 | [],o,w,cur,h,hl=>⟨cur,h,rfl,fun _ _=>rfl,fun j u hu=>by simp at hu⟩
 | v::r,o,w,cur,h,hl=>by
   have h1:(w.setCell ⟨b,o,none⟩ v).heap[b]?=some (.cells (cur.setIfInBounds o v) t (0,0)):=heap_setCell_same _ _ _ _ _ _ h
   obtain ⟨cur',g1,g2,g3,g4⟩:=tL r (o+1) _ _ h1 (by simp at hl ⊢;omega)
   refine ⟨cur',g1,by rw [g2];simp,fun k hk=>?_,fun j u hu=>?_⟩
   ·rw [g3 k (by simp at hk;omega),Array.getElem?_setIfInBounds]
    rw [if_neg (by simp at hk;omega)]
   ·cases j with
    | zero=>
      simp at hu;subst hu
      rw [Nat.add_zero,g3 o (by omega),Array.getElem?_setIfInBounds,if_pos rfl,if_pos (by simp at hl;omega)]
    | succ j=>
      simp at hu
      have:=g4 j u hu
      rwa [show o+1+j=o+(j+1) by omega] at this
theorem tM {b:Nat}:∀ (vs:List Value) (o:Nat) (w:World) (k:Nat),k≠b→(w.setCells b o vs).heap[k]?=w.heap[k]?
 | [],_,_,_,_=>rfl
 | v::r,o,w,k,h=>by rw [World.setCells,tM r (o+1) _ k h,heap_setCell_other _ _ _ _ h]
theorem uv {b:Nat}:∀ (vs:List Value) (o:Nat) (w:World),(w.setCells b o vs).os=w.os∧(w.setCells b o vs).tape=w.tape∧(w.setCells b o vs).output=w.output∧(w.setCells b o vs).heap.size=w.heap.size
 | [],_,_=>⟨rfl,rfl,rfl,rfl⟩
 | v::r,o,w=>by
   obtain ⟨h1,h2,h3,h4⟩:=uv r (o+1) (w.setCell ⟨b,o,none⟩ v)
   exact ⟨h1,h2,h3,by rw [World.setCells,h4,World.size_setCell]⟩
def sX (w w':World) (ob:Option Nat) (tg:List Value) (v:Value):Prop:=
 ∃ b cur t cap,v = .slice (some ⟨b,0,none⟩) tg.length cap∧w'.heap[b]?=some (.cells cur t (0,0))∧(∀ k,k<w.heap.size→k≠b→w'.heap[k]?=w.heap[k]?)∧w'.os=w.os∧w'.tape=w.tape∧w'.output=w.output∧w.heap.size≤w'.heap.size∧
  (∀ (j:Nat) (u:Value),tg[j]?=some u→cur[j]?=some u)∧tg.length≤cap∧cap≤maxLen∧cap≤cur.size∧(ob=some b∨w.heap.size≤b)
section
variable {P:Program} {ρ:Ren} (L:Lays2.n21 P ρ) {w:World} {ys:List Int} {i:Nat} {x:Int} {vb vc:Nat} {kV:Array Value} {vt:TypeId}
abbrev vI (l:List Int):List Value:=l.map fun y=>Value.int .i64 y
theorem IA {l:List Int}:∀ v∈vI l,v.oneCell'=true:=by
 intro v hv
 obtain ⟨y,_,rfl⟩:=List.mem_map.1 hv
 rfl
theorem th {b:Nat} {cur:Array Value} {t:TypeId} (h:w.heap[b]?=some (.cells cur t (0,0))) (o:Nat):w.cell? ⟨b,o,none⟩=cur[o]?:=pQ h o
theorem CH (n:Nat):(Builtin.zeroCells (Value.int .i64 0).cells n).size=n:=by
 rw [size_zeroCells];show n*1=n;omega
theorem uE {l:List Int} {j:Nat} {u:Value} (h:(vI l)[j]?=some u):∃ y,l[j]?=some y∧u = .int .i64 y:=by
 rw [List.getElem?_map,Option.map_eq_some_iff] at h
 obtain ⟨y,h1,rfl⟩:=h
 exact ⟨y,h1,rfl⟩
theorem wQ (hv:w.heap[vb]?=some (.cells kV vt (0,0))) (h0:kV[0]?=some (.int .i64 x)) (j:Nat) (v:Value) (hj:[Value.int .i64 x][j]?=some v):w.cell? ⟨vb,0+j,none⟩=some v:=by
 match j with
 | 0=>cases hj;rw [th hv];simpa using h0
 | j+1=>simp at hj
theorem CX {A B:List Value} {Z:Array Value} {j:Nat} {u:Value} (h:(A++B)[j]?=some u):((A++B).toArray++Z)[j]?=some u:=by
 rw [Array.getElem?_append_left (by have:=(List.getElem?_eq_some_iff.1 h).1;simpa using this)]
 simpa using h
include L in
theorem NM (hv:w.heap[vb]?=some (.cells kV vt (0,0))) (h0:kV[0]?=some (.int .i64 x)) :
 Calls P (ρ.f 21) #[.slice none 0 0,.int .i64 (0:Nat),.slice (some ⟨vb,0,none⟩) 1 vc] w fun e w'=>∃ v,e = .returned v∧sX w w' none (vI [x]) v:=by
 refine (Any2.slices_Insert_int_end_grow L none 0 0 vb 0 1 vc [] [.int .i64 x] w (by omega) (by omega) (by omega) (by omega) rfl rfl (fun _=>rfl) (fun a ha=>by cases ha) (wQ hv h0) (by simp;rfl)).mono ?_
 rintro e w' ⟨rfl,rfl⟩
 have hg:=grownCap_ge w (0+1) 0 (ρ.t 3)
 have hm:=grownCap_le_maxLen w (0+1) 0 (ρ.t 3) (by decide)
 refine ⟨_,rfl,w.heap.size,_,ρ.t 3,_,rfl,heap_alloc_new w.drew _,fun k hk _=>heap_alloc_old w.drew _ hk,rfl,rfl,rfl,by simp,fun j u hu=>CX (by simpa using hu),by simpa using hg,hm,?_,.inr (Nat.le_refl _)⟩
 simp only [Array.size_append,CH,List.size_toArray,List.length_append,List.length_nil,List.length_cons]
 omega
include L in
theorem NJ {b c:Nat} {cur:Array Value} {t:TypeId} (hb:w.heap[b]?=some (.cells cur t (0,0))) (hys:∀ (j:Nat) (y:Int),ys[j]?=some y→cur[j]?=some (.int .i64 y)) (hnc:ys.length≤c) (hc:c<ys.length+1) (hbig:ys.length≤1000000)
 (hv:w.heap[vb]?=some (.cells kV vt (0,0))) (h0:kV[0]?=some (.int .i64 x)) :
 Calls P (ρ.f 21) #[.slice (some ⟨b,0,none⟩) ys.length c,.int .i64 ys.length,.slice (some ⟨vb,0,none⟩) 1 vc] w fun e w'=>∃ v,e = .returned v∧sX w w' (some b) (vI (ys++[x])) v:=by
 refine (Any2.slices_Insert_int_end_grow L (some ⟨b,0,none⟩) ys.length c vb 0 1 vc (vI ys) [.int .i64 x] w (by omega) hnc hc (by omega) (by simp) rfl (fun h=>by cases h) (fun a ha j v hj=>by
  cases ha
  obtain ⟨y,hy,rfl⟩:=uE hj
  rw [add_lit,Nat.zero_add,th hb];exact hys j y hy) (wQ hv h0) (by simp;rfl)).mono ?_
 rintro e w' ⟨rfl,rfl⟩
 have hg:=grownCap_ge w (ys.length+1) c (ρ.t 3)
 have hm:=grownCap_le_maxLen w (ys.length+1) c (ρ.t 3) (by simp only [maxLen];omega)
 refine ⟨_,rfl,w.heap.size,_,ρ.t 3,_,by simp,heap_alloc_new w.drew _,fun k hk _=>heap_alloc_old w.drew _ hk,rfl,rfl,rfl,by simp,fun j u hu=>CX (by simpa using hu),by simpa using hg,hm,?_,.inr (Nat.le_refl _)⟩
 simp only [Array.size_append,CH,List.size_toArray,List.length_append,List.length_map,List.length_nil,List.length_cons]
 omega
include L in
theorem NK {b c:Nat} {cur:Array Value} {t:TypeId} (hb:w.heap[b]?=some (.cells cur t (0,0))) (hys:∀ (j:Nat) (y:Int),ys[j]?=some y→cur[j]?=some (.int .i64 y)) (hc:ys.length+1≤c) (mL:c≤maxLen) (hcs:c≤cur.size)
 (hv:w.heap[vb]?=some (.cells kV vt (0,0))) (h0:kV[0]?=some (.int .i64 x)) :
 Calls P (ρ.f 21) #[.slice (some ⟨b,0,none⟩) ys.length c,.int .i64 ys.length,.slice (some ⟨vb,0,none⟩) 1 vc] w fun e w'=>∃ v,e = .returned v∧sX w w' (some b) (vI (ys++[x])) v:=by
 refine (Any2.slices_Insert_int_end_room L b 0 ys.length c vb 0 1 vc [.int .i64 x] w (by omega) hc (by simp only [maxLen] at mL;omega) rfl (fun j hj=>?_) (fun j hj=>frozen_of_row _ _ _ _ _ hb) (wQ hv h0) (by simp;rfl)).mono ?_
 ·rw [th hb]
  rw [Array.getElem?_eq_getElem (by omega)];rfl
 rintro e w' ⟨rfl,rfl⟩
 obtain ⟨cur',g1,g2,g3,g4⟩:=tL [.int .i64 x] (0+ys.length) w cur hb (by simp;omega)
 obtain ⟨r1,r2,r3,r4⟩:=uv (b:=b) [.int .i64 x] (0+ys.length) w
 refine ⟨_,rfl,b,cur',t,c,by simp,g1,fun k hk hne=>tM _ _ _ k hne,r1,r2,r3,by rw [r4];exact Nat.le_refl _,fun j u hu=>?_,by simpa using hc,mL,by omega,.inl rfl⟩
 obtain ⟨y,hy,rfl⟩:=uE hu
 rcases Nat.lt_or_ge j ys.length with hj | hj
 ·rw [g3 j (by omega)]
  rw [List.getElem?_append_left hj] at hy
  exact hys j y hy
 ·rw [List.getElem?_append_right hj] at hy
  have Bb:j - ys.length=0:=by have:=(List.getElem?_eq_some_iff.1 hy).1;simpa using this
  rw [Bb] at hy
  simp at hy;subst hy
  have:=g4 0 _ rfl
  rw [show 0+ys.length+0=j by omega] at this
  exact this
abbrev kE (ys:List Int) (i:Nat) (x:Int):List Int:=ys.take i++x::ys.drop i
theorem Fj {ys:List Int} {i:Nat} {x:Int} (hi:i≤ys.length) {j:Nat} {y:Int} (h:(kE ys i x)[j]?=some y):(j<i∧ys[j]?=some y)∨(j=i∧y=x)∨(i<j∧ys[j - 1]?=some y):=by
 have hl:(ys.take i).length=i:=by simp;omega
 rcases Nat.lt_trichotomy j i with hj | hj | hj
 ·rw [List.getElem?_append_left (by omega),List.getElem?_take_of_lt hj] at h
  exact .inl ⟨hj,h⟩
 ·rw [List.getElem?_append_right (by omega),hl,hj,Nat.sub_self] at h
  simp at h
  exact .inr (.inl ⟨hj,h.symm⟩)
 ·rw [List.getElem?_append_right (by omega),hl,show j - i=(j - i - 1)+1 by omega,List.getElem?_cons_succ,List.getElem?_drop,show i+(j - i - 1)=j - 1 by omega] at h
  exact .inr (.inr ⟨hj,h⟩)
theorem vO (ys:List Int) (i:Nat) (x:Int) (hi:i≤ys.length):(kE ys i x).length=ys.length+1:=by simp;omega
include L in
theorem NN {b c:Nat} {cur:Array Value} {t:TypeId} (hi:i<ys.length) (hb:w.heap[b]?=some (.cells cur t (0,0))) (hys:∀ (j:Nat) (y:Int),ys[j]?=some y→cur[j]?=some (.int .i64 y)) (hc:ys.length+1≤c) (mL:c≤maxLen) (hcs:c≤cur.size)
 (hv:w.heap[vb]?=some (.cells kV vt (0,0))) (h0:kV[0]?=some (.int .i64 x)) (hne:vb≠b) :
 Calls P (ρ.f 21) #[.slice (some ⟨b,0,none⟩) ys.length c,.int .i64 i,.slice (some ⟨vb,0,none⟩) 1 vc] w fun e w'=>∃ v,e = .returned v∧sX w w' (some b) (vI (kE ys i x)) v:=by
 refine (Any2.slices_Insert_int_shift L b 0 ys.length c i vb 0 1 vc (vI ys) [.int .i64 x] w hi (by omega) hc (by simp only [maxLen] at mL;omega) hne (by simp) rfl (fun j v hj=>by
  obtain ⟨y,hy,rfl⟩:=uE hj
  rw [Nat.zero_add,th hb];exact hys j y hy) (fun j hj=>?_) (fun j hj=>frozen_of_row _ _ _ _ _ hb) (wQ hv h0) IA (by simp;rfl) vt t kV.size cur.size ?_ ?_ (by omega) (frozen_of_row _ _ _ _ _ hv) (frozen_of_row _ _ _ _ _ hv)).mono ?_
 ·rw [th hb]
  rw [Array.getElem?_eq_getElem (by omega)];rfl
 ·simp [World.shape?,hv]
 ·simp [World.shape?,hb]
 rintro e w' ⟨rfl,rfl⟩
 have hb':w.drew.heap[b]?=some (.cells cur t (0,0)):=hb
 have hdl:((vI ys).drop i).length=ys.length - i:=by simp
 obtain ⟨xT,g1,g2,g3,g4⟩:=tL ((vI ys).drop i) (0+(i+1)) w.drew cur hb' (by rw [hdl];omega)
 obtain ⟨r1,r2,r3,r4⟩:=uv (b:=b) ((vI ys).drop i) (0+(i+1)) w.drew
 obtain ⟨Ad,k1,k2,k3,k4⟩:=tL [.int .i64 x] (0+i) _ xT g1 (by simp;omega)
 obtain ⟨s1,s2,s3,s4⟩:=uv (b:=b) [.int .i64 x] (0+i) (w.drew.setCells b (0+(i+1)) ((vI ys).drop i))
 refine ⟨_,rfl,b,Ad,t,c,by rw [List.length_map,vO _ _ _ (by omega)],k1,fun k hk hne=>by rw [tM _ _ _ k hne,tM _ _ _ k hne];rfl,s1.trans r1,s2.trans r2,s3.trans r3,by rw [s4,r4];exact Nat.le_refl _,fun j u hu=>?_,by rw [List.length_map,vO _ _ _ (by omega)];exact hc,mL,by omega,.inl rfl⟩
 obtain ⟨y,hy,rfl⟩:=uE hu
 rcases Fj (by omega) hy with ⟨hj,fK⟩ | ⟨rfl,rfl⟩ | ⟨hj,fK⟩
 ·rw [k3 j (by simp;omega),g3 j (by omega)]
  exact hys j y fK
 ·have:=k4 0 _ rfl
  rwa [show 0+j+0=j by omega] at this
 ·rw [k3 j (by simp;omega)]
  have:=g4 (j - 1 - i) (.int .i64 y) (by rw [List.getElem?_drop,List.getElem?_map,show i+(j - 1 - i)=j - 1 by omega,fK];rfl)
  rwa [show 0+(i+1)+(j - 1 - i)=j by omega] at this
include L in
theorem NL {b c:Nat} {cur:Array Value} {t:TypeId} (hi:i<ys.length) (hb:w.heap[b]?=some (.cells cur t (0,0))) (hys:∀ (j:Nat) (y:Int),ys[j]?=some y→cur[j]?=some (.int .i64 y)) (hnc:ys.length≤c) (hc:c<ys.length+1) (hbig:ys.length≤1000000)
 (hv:w.heap[vb]?=some (.cells kV vt (0,0))) (h0:kV[0]?=some (.int .i64 x)) :
 Calls P (ρ.f 21) #[.slice (some ⟨b,0,none⟩) ys.length c,.int .i64 i,.slice (some ⟨vb,0,none⟩) 1 vc] w fun e w'=>∃ v,e = .returned v∧sX w w' (some b) (vI (kE ys i x)) v:=by
 refine (Any2.slices_Insert_int_grow L b 0 ys.length c i vb 0 1 vc (vI ys) [.int .i64 x] w hi (by omega) hnc hc (by omega) (by simp) rfl (fun j v hj=>by
  obtain ⟨y,hy,rfl⟩:=uE hj
  rw [Nat.zero_add,th hb];exact hys j y hy) (wQ hv h0) IA (by simp;rfl)).mono ?_
 rintro e w' ⟨rfl,rfl⟩
 have hg:=grownCap_ge w (ys.length+1) c (ρ.t 3)
 have hm:=grownCap_le_maxLen w (ys.length+1) c (ρ.t 3) (by simp only [maxLen];omega)
 generalize hG:grownCap w (ys.length+1) c (ρ.t 3)=G at *
 generalize hA:((vI ys).take i).toArray++Builtin.zeroCells (Value.int .i64 0).cells (ys.length+1 - i)++Builtin.zeroCells (Value.int .i64 0).cells (G - (ys.length+1))=A at *
 have VB:A.size=G:=by
  rw [← hA]
  simp only [Array.size_append,CH,List.size_toArray,List.length_take,List.length_map]
  omega
 have Mv:∀ (j:Nat) (y:Int),j<i→ys[j]?=some y→A[j]?=some (.int .i64 y):=fun j y hj hy=>by
  have hjl:j<ys.length:=by omega
  rw [← hA,Array.getElem?_append_left (by simp;omega),Array.getElem?_append_left (by simp;omega)]
  simp [List.getElem?_take_of_lt hj,hy]
 have hb1:(w.alloc (.cells A (ρ.t 3))).drew.heap[w.heap.size]?=some (.cells A (ρ.t 3) (0,0)):=heap_alloc_new w _
 obtain ⟨xT,g1,g2,g3,g4⟩:=tL [.int .i64 x] i _ A hb1 (by simp;omega)
 obtain ⟨r1,r2,r3,r4⟩:=uv (b:=w.heap.size) [.int .i64 x] i (w.alloc (.cells A (ρ.t 3))).drew
 have hb2:(((w.alloc (.cells A (ρ.t 3))).drew.setCells w.heap.size i [.int .i64 x]).drew).heap[w.heap.size]?=some (.cells xT (ρ.t 3) (0,0)):=g1
 have hdl:((vI ys).drop i).length=ys.length - i:=by simp
 obtain ⟨Ad,k1,k2,k3,k4⟩:=tL ((vI ys).drop i) (i+1) _ xT hb2 (by rw [hdl];omega)
 obtain ⟨s1,s2,s3,s4⟩:=uv (b:=w.heap.size) ((vI ys).drop i) (i+1) ((w.alloc (.cells A (ρ.t 3))).drew.setCells w.heap.size i [.int .i64 x]).drew
 refine ⟨_,rfl,w.heap.size,Ad,ρ.t 3,G,by rw [List.length_map,vO _ _ _ (by omega)],k1,fun k hk hne=>?_,s1.trans r1,s2.trans r2,s3.trans r3,?_,fun j u hu=>?_,by rw [List.length_map,vO _ _ _ (by omega)];exact hg,hm,by omega,.inr (Nat.le_refl _)⟩
 ·rw [tM _ _ _ k hne]
  show (((w.alloc (.cells A (ρ.t 3))).drew.setCells w.heap.size i [.int .i64 x])).heap[k]?=_
  rw [tM _ _ _ k hne]
  exact heap_alloc_old w _ hk
 ·rw [s4]
  show w.heap.size≤(((w.alloc (.cells A (ρ.t 3))).drew.setCells w.heap.size i [.int .i64 x])).heap.size
  rw [r4]
  simp
 obtain ⟨y,hy,rfl⟩:=uE hu
 rcases Fj (by omega) hy with ⟨hj,fK⟩ | ⟨rfl,rfl⟩ | ⟨hj,fK⟩
 ·rw [k3 j (by omega),g3 j (by omega)]
  exact Mv j y hj fK
 ·rw [k3 j (by omega)]
  have:=g4 0 _ rfl
  rwa [Nat.add_zero] at this
 ·have:=k4 (j - 1 - i) (.int .i64 y) (by rw [List.getElem?_drop,List.getElem?_map,show i+(j - 1 - i)=j - 1 by omega,fK];rfl)
  rwa [show i+1+(j - 1 - i)=j by omega] at this
end
abbrev ou (l:List Int):List (List SV):=l.map fun y=>[SV.rv (.int .i64 y)]
theorem He {w:World} {ok:Nat→Prop} {aa:Nat→Option Nat} {hp:Hp} {cur:Array Value} {v:Nat} {l:List Int} (h:jP w ok aa hp cur (.row 1 v (ou l))):∀ (j:Nat) (y:Int),l[j]?=some y→cur[j]?=some (.int .i64 y):=by
 intro j y hy
 obtain ⟨_,_,h3⟩:=h
 obtain ⟨u,h4,_,h5⟩:=h3 j [.rv (.int .i64 y)] (by simp [hy]) 0 (.rv (.int .i64 y)) rfl
 rw [show j*1+0=j by omega] at h4
 cases h5 with
 | rv _ _ h6=>cases h6;exact h4
theorem Km {P:Program} {ρ:Ren} (L:Lays2.n21 P ρ) (hcb:td P (ρ.f 21)=true) (j j2 v v2 i n:Nat) (x:Int) (xs:List Int) (hj:j≠j2) (hn:n≤xs.length) (hi:i≤n) (hbig:n≤1000000) :
 aG P (ρ.f 21) [.row j v n,.rv (.int .i64 i),.row j2 v2 1] [(j,.row 1 v (ou xs)),(j2,.row 1 v2 (ou [x]))] [(j,.row 1 (v+1) (ou (kE (xs.take n) i x)))] (.row j (v+1) (n+1)):=by
 refine ⟨hcb,fun C hp w aa vs hpre hnew R hl hvs=>?_⟩
 have jb:=hpre (j,.row 1 v (ou xs)) (.head _)
 have hpk:=hpre (j2,.row 1 v2 (ou [x])) (.tail _ (.head _))
 obtain ⟨a0,a1,a2,rfl⟩:∃ a b c,vs=[a,b,c]:=by
  match vs,hl with
  | [a,b,c],_=>exact ⟨a,b,c,rfl⟩
 have h0:=hvs 0 _ rfl
 have h1:=hvs 1 _ rfl
 have h2:=hvs 2 _ rfl
 simp only [List.getD_cons_zero,List.getD_cons_succ] at h0 h1 h2
 obtain rfl:a1 = .int .i64 i:=by
  cases h1 with
  | rv _ _ h=>cases h;rfl
 obtain ⟨vb,vc,kV,vt,rfl,hv,vH,Nn⟩:∃ vb vc kV vt,a2 = .slice (some ⟨vb,0,none⟩) 1 vc∧w.heap[vb]?=some (.cells kV vt (0,0))∧kV[0]?=some (.int .i64 x)∧aa j2=some vb:=by
  cases h2 with
  | row _ _ _ _ g1 g0 gv gh=>
    rcases gh 1 _ hpk with ⟨_,_,h⟩ | ⟨b,cap,cur,t,e1,e2,e3,_⟩
    ·cases h
    ·rcases R.heap j2 _ hpk with ⟨hn,_⟩ | ⟨b',cur',t',f1,f2,f3⟩
     ·rw [hn] at e1;cases e1
     ·rw [e1] at f1;cases f1
      rw [e3] at f2;cases f2
      exact ⟨b,cap,cur,t,e2,e3,He f3 0 x rfl,e1⟩
 have hys:∀ (k:Nat) (y:Int),(xs.take n)[k]?=some y→xs[k]?=some y:=fun k y hy=>by
  rw [List.getElem?_take] at hy
  split at hy
  ·exact hy
  ·cases hy
 have lI:(xs.take n).length=n:=by simp;omega
 have vm:∀ (ob:Option Nat) (tg:List Int) (w':World) (u:Value),tg=kE (xs.take n) i x→sX w w' ob (vI tg) u→(∀ b,ob=some b→aa j=some b)→∃ v' aH,Ending.returned u=Ending.returned v'∧Step C hp (bM hp [(j,.row 1 (v+1) (ou (kE (xs.take n) i x)))]) w w' aa aH∧Rp w' (aF C aH (bM hp [(j,.row 1 (v+1) (ou (kE (xs.take n) i x)))])) aH (bM hp [(j,.row 1 (v+1) (ou (kE (xs.take n) i x)))]) (.row j (v+1) (n+1)) v':=by
  rintro ob tg w' u rfl ⟨b,cur,t,cap,rfl,e1,e2,e3,e4,e5,e6,e7,e8,e9,Vw,KN⟩ mO
  have hlen:(kE (xs.take n) i x).length=n+1:=by rw [vO _ _ _ (by omega),lI]
  have htl:(vI (kE (xs.take n) i x)).length=n+1:=by rw [List.length_map,hlen]
  rw [htl] at e8
  have S:Step C hp (up hp j (some (.row 1 (v+1) (ou (kE (xs.take n) i x))))) w w' aa (up aa j (some b)):=by
   refine R.replace j _ b cur t e3 e4 e5 e6 e1 e2 ?_ (fun hb hq=>?_) (fun hq=>?_) ⟨fun z hz=>?_,?_,fun k z hz=>?_⟩
   ·rcases KN with h | h
    ·exact .inl ⟨by rw [jb];rfl,mO _ h⟩
    ·exact .inr h
   ·rw [jb] at hq;cases hq
    exact ⟨by omega,fun h=>by omega⟩
   ·rw [jb] at hq;cases hq
   ·obtain ⟨y,_,rfl⟩:=List.mem_map.1 hz;rfl
   ·rw [List.length_map,hlen];omega
   ·rw [List.getElem?_map,Option.map_eq_some_iff] at hz
    obtain ⟨y,hy,rfl⟩:=hz
    intro q z hq
    match q with
    | 0=>
      cases hq
      refine ⟨.int .i64 y,?_,rfl,.rv _ _ (.int _ _)⟩
      have:=e7 k (.int .i64 y) (by rw [List.getElem?_map,hy];rfl)
      rwa [show k*1+0=k by omega]
    | q+1=>simp at hq
  refine ⟨_,up aa j (some b),rfl,S,.row j (v+1) (n+1) _ rfl (by simp [bM]) (fun e fW gz h=>?_) (fun e gz h=>.inr ⟨b,cap,cur,t,cn _ _ _,by rw [htl],e1,e8,e9,?_⟩)⟩
  ·simp only [bM,cn] at h;cases h;exact Nat.le_refl _
  ·simp only [bM,cn] at h;cases h;omega
 cases h0 with
 | row _ _ _ _ g1 g0 gv gh=>
   rcases gh 1 _ jb with ⟨_,rfl,hn0⟩ | ⟨b,cap,cur,t,e1,rfl,e3,e4,e5,e6⟩
   ·subst hn0
    obtain rfl:i=0:=by omega
    refine (NM L hv vH).mono ?_
    rintro e w' ⟨u,rfl,hu⟩
    exact vm none [x] w' u rfl hu (fun b h=>by cases h)
   ·have hf:∀ (k:Nat) (y:Int),(xs.take n)[k]?=some y→cur[k]?=some (.int .i64 y):=by
     rcases R.heap j _ jb with ⟨hn,_⟩ | ⟨b',cur',t',f1,f2,f3⟩
     ·rw [hn] at e1;cases e1
     ·rw [e1] at f1;cases f1
      rw [e3] at f2;cases f2
      exact fun k y hy=>He f3 k y (hys k y hy)
    have hne:vb≠b:=fun h=>by
     subst h
     exact hj (R.inj j j2 vb (by rw [jb];rfl) (by rw [hpk];rfl) e1 Nn)
    have mO:∀ b',some b=some b'→aa j=some b':=fun b' h=>by cases h;exact e1
    rw [Nat.mul_one] at e6
    have yp:=fun tg w' u=>vm (some b) tg w' u
    rcases Nat.lt_or_ge i n with hin | hin
    ·rcases Nat.lt_or_ge cap (n+1) with hc | hc
     ·have:=NL L (ys:=xs.take n) (i:=i) (x:=x) (vc:=vc) (c:=cap) (by omega) e3 hf (by omega) (by omega) (by omega) hv vH
      rw [lI] at this
      refine this.mono ?_
      rintro e w' ⟨u,rfl,hu⟩
      exact yp _ w' u rfl hu mO
     ·have:=NN L (ys:=xs.take n) (i:=i) (x:=x) (vc:=vc) (c:=cap) (by omega) e3 hf (by omega) e5 e6 hv vH hne
      rw [lI] at this
      refine this.mono ?_
      rintro e w' ⟨u,rfl,hu⟩
      exact yp _ w' u rfl hu mO
    ·obtain rfl:i=n:=by omega
     have vo:kE (xs.take i) i x=xs.take i++[x]:=by
      unfold kE
      rw [List.take_of_length_le (by omega),List.drop_of_length_le (by omega)]
     rcases Nat.lt_or_ge cap (i+1) with hc | hc
     ·have:=NJ L (ys:=xs.take i) (x:=x) (vc:=vc) (c:=cap) e3 hf (by omega) (by omega) (by omega) hv vH
      rw [lI] at this
      refine this.mono ?_
      rintro e w' ⟨u,rfl,hu⟩
      exact yp _ w' u vo.symm hu mO
     ·have:=NK L (ys:=xs.take i) (x:=x) (vc:=vc) (c:=cap) e3 hf (by omega) e5 e6 hv vH
      rw [lI] at this
      refine this.mono ?_
      rintro e w' ⟨u,rfl,hu⟩
      exact yp _ w' u vo.symm hu mO
theorem Vg {p X:Prop} (h1:X→p) (h2:X):p:=h1 h2
theorem KS {n0:Nat} {env env':List (Nat×SV)} {h' C:List (Option HB)} {n j e aq len:Nat} {xs:List (List RV)} (hn:n0≤h'.length) (hC:kX (mF h'.length) h') (hr:lk env n = .row j aq len) (hj:h'.length≤j)
 (hg:aB (h'++C) j=some (.row e aq (aN xs))) (hl:len≤xs.length) (h1:∀ x∈xs,∀ r∈x,r.one=true) (he:iw h'.length env env'):fS n0 ⟨env,h'++C⟩ ⟨(n,.rv (.sl e (xs.take len)))::env',h'⟩:=by
 refine Ar (gA h'.length) hn (fun j i hj=>?_) (fun j hj=>?_) (fun j=>?_) (we (fun x=>.dead x) (fun p hp=>?_))
 ·unfold gA at hj;split at hj <;> cases hj;rfl
 ·unfold gA at hj;split at hj
  ·cases hj
  ·omega
 ·by_cases hj:j<h'.length
  ·obtain ⟨hb,g1,g2⟩:=hC.get j hj
   exact .inl ⟨hb,hb,by simp [gA,hj],oZ.2 (by rw [List.getElem?_append_left hj];exact g1),oZ.2 g1,g2.rn⟩
  ·refine .inr ⟨?_,.inl (by simp [gA,hj])⟩
   unfold aB
   rw [List.getElem?_eq_none (by omega)]
 ·rcases List.mem_cons.1 hp with rfl | hp
  ·dsimp only
   rw [hr]
   exact .fz _ _ (nX hg (by simp [gA];omega) hl h1)
  ·rcases he.get p hp with h | ⟨h1,h2⟩
   ·rw [h];exact .dead _
   ·rw [h1];exact h2.rn
theorem KT {n0:Nat} {env env':List (Nat×SV)} {h' C:List (Option HB)} {n j e aq len:Nat} {xs ys:List (List RV)} (hys:xs.take len=ys) (hn:n0≤h'.length) (hC:kX (mF h'.length) h') (hr:lk env n = .row j aq len) (hj:h'.length≤j)
 (hg:aB (h'++C) j=some (.row e aq (aN xs))) (hl:len≤xs.length) (h1:∀ x∈xs,∀ r∈x,r.one=true) (he:iw h'.length env env'):fS n0 ⟨env,h'++C⟩ ⟨(n,.rv (.sl e ys))::env',h'⟩:=by
 rw [← hys];exact KS hn hC hr hj hg hl h1 he
end Go.aJ

namespace Go.aJ
open Go Go.Proofs Go.Shelf
theorem OE:aT Go.Proofs.Tryz.prog 121 6 (fc Go.Proofs.Tryz.prog 121 6 [(.t 2)]) [(.t 2)]:=bn (by kernel_rfl)
theorem OD:aT Go.Proofs.Tryz.prog 103 17 (fc Go.Proofs.Tryz.prog 103 17 [(.t 4)]) [(.t 4)]:=bn (by kernel_rfl)
theorem Ql:aT Go.Proofs.Tryz.prog 104 6 (fc Go.Proofs.Tryz.prog 104 6 [(.t 2)]) [(.t 2)]:=bn (by kernel_rfl)
theorem Qd:aT Go.Proofs.Tryz.prog 77 54 (fc Go.Proofs.Tryz.prog 77 54 [(.t 4),(.t 5)]) [(.t 4),(.t 5)]:=bn (by kernel_rfl)
def Sv:Ren:=⟨fun x=>if x=21 then 78 else if x=27 then 105 else if x=28 then 106 else if x=35 then 122 else if x=39 then 125 else x,
 fun t=>if t=3 then 3 else if t=4 then 4 else if t=22 then 90 else t,fun x=>x⟩
theorem QK:Lays2.n21 Go.Proofs.Tryz.prog Sv where
 mixed:=by kernel_rfl
 f21:=by kernel_rfl
 f27:=by kernel_rfl
 f28:=by kernel_rfl
 f35:=by kernel_rfl
 f39:=by kernel_rfl
 t0:=Tryz.underlying0
 a0:=Tryz.isAgg0
 z0:=fun w=>by rw [jr (n:=1) (by kernel_rfl)]
 v0:=Tryz.zeroValue0
 t3:=Tryz.underlying3
 a3:=Tryz.isAgg3
 z3:=Tryz.sizeOf3
 v3:=Tryz.zeroValue3
 t4:=Tryz.underlying4
 a4:=Tryz.isAgg4
 z4:=Tryz.sizeOf4
 v4:=Tryz.zeroValue4
 t22:=Tryz.underlying90
 a22:=Tryz.isAgg90
 z22:=Tryz.sizeOf90
 v22:=Tryz.zeroValue90
 i3:=by kernel_rfl
theorem Fi (xs:List Int):ou xs=aN (aL xs):=by simp [aN,aL]
theorem Tn (j j2 v v2 i n:Nat) (x:Int) (xs:List Int) (hj:j≠j2) (hn:n≤xs.length) (hi:i≤n) (hbig:n≤1000000) :
 aG Go.Proofs.Tryz.prog 78 [.row j v n,.rv (.int .i64 i),.row j2 v2 1] [(j,.row 1 v (aN (aL xs))),(j2,.row 1 v2 [[.rv (.int .i64 x)]])] [(j,.row 1 (v+1) (aN (aL (kE (xs.take n) i x))))] (.row j (v+1) (n+1)):=by
 have:=Km (P:=Go.Proofs.Tryz.prog) QK (by kernel_rfl) j j2 v v2 i n x xs hj hn hi hbig
 rw [Fi xs,Fi (kE (xs.take n) i x)] at this
 exact this
theorem TO (a:Int):aG Go.Proofs.Tryz.prog 121 [.rv (.int .i64 a)] [] [] (.rv (.bool false)):=by
 refine bt OE [.rv (.int .i64 a)] _ (by simp) (by simp [aO,aW,bl,aQ,aY,aC.sv,Ln.sv,Nd.sv]) (fun K hK=>?_)
 have h:(a != a)=false:=by simp
 conv in fc _ _ _ _=>reduce
 simp -implicitDefEqProofs only [go_sem,Int.reduceNegSucc]
 repeat' (first | (simp -implicitDefEqProofs only [go_sem,Int.reduceNegSucc,h]) | (with_reducible refine aA ?_) | ((first | refine ai (fun hg=>?_) (fun hg=>?_) | refine ay (fun hg=>?_) (fun hg=>?_) | refine az (fun hg=>?_) (fun hg=>?_)) <;> try simp -implicitDefEqProofs only [hg,Bool.not_true,Bool.not_false]) | ((with_reducible apply And.intro);focus (first | trivial | omega | decide | (simp -implicitDefEqProofs only [maxLen];omega) | (simp [maxLen,af,ak,an,ax,aj,av,au] <;> omega))) | fail)
 exact (hK _ _ (bO rfl)).2
theorem TF (a b:Int):aG Go.Proofs.Tryz.prog 103 [.rv (.int .i64 a),.rv (.int .i64 b)] [] [] (.rv (.bool (decide (a<b)))):=by
 refine bt OD [.rv (.int .i64 a),.rv (.int .i64 b)] _ (by simp) (by simp [aO,aW,bl,aQ,aY,aC.sv,Ln.sv,Nd.sv]) (fun K hK=>?_)
 conv in fc _ _ _ _=>reduce
 simp -implicitDefEqProofs only [go_sem,Int.reduceNegSucc]
 have aS:=TO a;repeat' (first | (simp -implicitDefEqProofs only [go_sem,Int.reduceNegSucc]) | (with_reducible refine aA ?_) | (with_reducible first | refine ag aS ?_ | refine ah aS ?_) | ((first | refine ai (fun hg=>?_) (fun hg=>?_) | refine ay (fun hg=>?_) (fun hg=>?_) | refine az (fun hg=>?_) (fun hg=>?_)) <;> try simp -implicitDefEqProofs only [hg,Bool.not_true,Bool.not_false]) | ((with_reducible apply And.intro);focus (first | trivial | omega | decide | (simp -implicitDefEqProofs only [maxLen];omega) | (simp [maxLen,af,ak,an,ax,aj,av,au] <;> omega))) | fail)
 exact (hK _ _ (bO rfl)).2
theorem TQ (a:Int):aG Go.Proofs.Tryz.prog 104 [.rv (.int .i64 a)] [] [] (.rv (.bool false)):=by
 refine bt Ql [.rv (.int .i64 a)] _ (by simp) (by simp [aO,aW,bl,aQ,aY,aC.sv,Ln.sv,Nd.sv]) (fun K hK=>?_)
 have h:(a != a)=false:=by simp
 conv in fc _ _ _ _=>reduce
 simp -implicitDefEqProofs only [go_sem,Int.reduceNegSucc]
 repeat' (first | (simp -implicitDefEqProofs only [go_sem,Int.reduceNegSucc,h]) | (with_reducible refine aA ?_) | ((first | refine ai (fun hg=>?_) (fun hg=>?_) | refine ay (fun hg=>?_) (fun hg=>?_) | refine az (fun hg=>?_) (fun hg=>?_)) <;> try simp -implicitDefEqProofs only [hg,Bool.not_true,Bool.not_false]) | ((with_reducible apply And.intro);focus (first | trivial | omega | decide | (simp -implicitDefEqProofs only [maxLen];omega) | (simp [maxLen,af,ak,an,ax,aj,av,au] <;> omega))) | fail)
 exact (hK _ _ (bO rfl)).2
def nT (ks:List Nat) (x:Nat):Nat:=(ks.filter fun y=>decide (y<x)).length
def yf (ks:List Nat) (x:Nat):Bool:=if h:nT ks x<ks.length then ((ks[nT ks x]'h:Nat):Int) ==(x:Int) else false
theorem DA (ks:List Nat) (x:Nat):nT ks x≤ks.length:=List.length_filter_le _ _
theorem KH {ks:List Nat} {x i:Nat} (hi:i≤ks.length) (h1:∀ j (h:j<ks.length),j<i→ks[j]<x) (h2:∀ j (h:j<ks.length),i≤j→x≤ks[j]):nT ks x=i:=by
 unfold nT
 have e1:(ks.take i).filter (fun y=>decide (y<x))=ks.take i:=List.filter_eq_self.2 fun a ha=>by
  obtain ⟨j,hj,rfl⟩:=List.getElem_of_mem ha
  simp -implicitDefEqProofs only [List.length_take] at hj
  rw [List.getElem_take]
  exact decide_eq_true (h1 j (by omega) (by omega))
 have e2:(ks.drop i).filter (fun y=>decide (y<x))=[]:=List.filter_eq_nil_iff.2 fun a ha=>by
  obtain ⟨j,hj,rfl⟩:=List.getElem_of_mem ha
  simp -implicitDefEqProofs only [List.length_drop] at hj
  rw [List.getElem_drop]
  have:=h2 (i+j) (by omega) (by omega)
  simp;omega
 have e3:=List.take_append_drop i ks
 rw [← e3,List.filter_append,e1,e2,List.append_nil,List.length_take]
 omega
theorem Es (a:Int):a.fdiv (2 ^ min 1 64)=a / 2:=by
 rw [Int.fdiv_eq_ediv_of_nonneg _ (by decide)];rfl
theorem Vj {n:Int} (h1:0≤n) (h2:n<18446744073709551616):IntKind.u64.wrap n=n:=by
 have:IntKind.u64.wrap n=n % 18446744073709551616:=by rfl
 rw [this];omega
theorem Ta (ks:List Nat) (x:Nat) (hb:ks.length≤1000000) (hp:ks.Pairwise (·< ·)):aG Go.Proofs.Tryz.prog 77 [.rv (.sl 1 (aL (bk ks))),.rv (.int .i64 x)] [] [] (.aP [.rv (.int .i64 (nT ks x)),.rv (.bool (yf ks x))]):=by
 refine bt Qd [.rv (.sl 1 (aL (bk ks))),.rv (.int .i64 x)] _ (by simp) (by simp [aO,aW,bl,aQ,aY,aC.sv,Ln.sv,Nd.sv]) (fun K hK=>?_)
 have hl:=yV ks
 conv in fc _ _ _ _=>reduce
 simp -implicitDefEqProofs only [go_sem,Int.reduceNegSucc]
 repeat' (first | (simp -implicitDefEqProofs only [go_sem,Int.reduceNegSucc,hl]) | (with_reducible refine aA ?_) | ((first | refine ai (fun hg=>?_) (fun hg=>?_) | refine ay (fun hg=>?_) (fun hg=>?_) | refine az (fun hg=>?_) (fun hg=>?_)) <;> try simp -implicitDefEqProofs only [hg,Bool.not_true,Bool.not_false]) | ((with_reducible apply And.intro);focus (first | trivial | omega | decide | (simp -implicitDefEqProofs only [maxLen];omega) | (simp [maxLen,af,ak,an,ax,aj,av,au] <;> omega))) | fail)
 refine fG (ι:=Nat×Nat) (fun q=>[(7,.rv (.int .i64 q.1)),(8,.rv (.int .i64 q.2)),(6,.rv (.int .i64 ks.length)),(0,.rv (.sl 1 (aL (bk ks)))),(1,.rv (.int .i64 x))]) (fun _=>[])
  (fun q=>q.1≤q.2∧q.2≤ks.length∧(∀ j (h:j<ks.length),j<q.1→ks[j]<x)∧∀ j (h:j<ks.length),q.2≤j→x≤ks[j]) (fun q=>q.2 - q.1) (0,ks.length) ⟨Nat.zero_le _,Nat.le_refl _,fun j h h2=>absurd h2 (by simp),fun j h h2=>absurd h2 (by simp;omega)⟩ (aZ (by simp [lk])) (fun q hq K' hN hX hR=>?_)
 obtain ⟨i,j⟩:=q
 obtain ⟨h1,h2,h3,h4⟩:=hq
 dsimp at h1 h2 h3 h4 ⊢
 simp -implicitDefEqProofs only [go_sem,Int.reduceNegSucc]
 refine ai (fun hg=>?_) (fun hg=>?_)
 ·have hij:i<j:=by simp at hg;omega
  have w1:IntKind.i64.wrap ((i:Int)+j)=(i:Int)+j:=wrap_i64 (by omega) (by omega)
  have w2:IntKind.u64.wrap ((i:Int)+j)=(i:Int)+j:=Vj (by omega) (by omega)
  obtain ⟨m,hm⟩:∃ m:Nat,m=(i+j) / 2:=⟨_,rfl⟩
  have w3:((i:Int)+j) / 2=(m:Int):=by omega
  have w4:IntKind.i64.wrap (m:Int)=m:=wrap_i64 (by omega) (by omega)
  have w5:=fy (k:=m) (by omega)
  have hml:m<ks.length:=by omega
  have hx:(aL (bk ks))[m]?.getD []=[.int .i64 (ks[m]:Nat)]:=by simp [aL,bk,hml]
  have hc:=TF (ks[m]:Nat) x
  have hlt:∀ a b (ha:a<ks.length) (hb:b<ks.length),a<b→ks[a]<ks[b]:=fun a b ha hb hab=>List.pairwise_iff_getElem.1 hp a b ha hb hab
  by_cases mL:ks[m]<x
  ·have e:decide (((ks[m]:Nat):Int)<(x:Int))=true:=decide_eq_true (by omega)
   rw [e] at hc
   have y_2:=hc;repeat' (first | (simp -implicitDefEqProofs only [go_sem,Int.reduceNegSucc,hl,w1,w2,Es,w3,w4,w5,hx]) | (with_reducible refine aA ?_) | (with_reducible first | refine ag y_2 ?_ | refine ah y_2 ?_) | ((first | refine ai (fun hg=>?_) (fun hg=>?_) | refine ay (fun hg=>?_) (fun hg=>?_) | refine az (fun hg=>?_) (fun hg=>?_)) <;> try simp -implicitDefEqProofs only [hg,Bool.not_true,Bool.not_false]) | ((with_reducible apply And.intro);focus (first | trivial | omega | decide | (simp -implicitDefEqProofs only [maxLen];omega) | (simp [maxLen,af,ak,an,ax,aj,av,au] <;> omega) | (omega;done))) | fail)
   refine hN (m+1,j) _ _ ⟨by dsimp;omega,h2,fun a ha Bf=>?_,h4⟩ (by dsimp;omega) (aZ (by simp [lk]))
   dsimp at Bf
   rcases Nat.lt_or_ge a m with h | h
   ·have:=hlt a m ha hml h;omega
   ·obtain rfl:a=m:=by omega
    exact mL
  ·have e:decide (((ks[m]:Nat):Int)<(x:Int))=false:=decide_eq_false (by omega)
   rw [e] at hc
   have bA:=hc;repeat' (first | (simp -implicitDefEqProofs only [go_sem,Int.reduceNegSucc,hl,w1,w2,Es,w3,w4,w5,hx]) | (with_reducible refine aA ?_) | (with_reducible first | refine ag bA ?_ | refine ah bA ?_) | ((first | refine ai (fun hg=>?_) (fun hg=>?_) | refine ay (fun hg=>?_) (fun hg=>?_) | refine az (fun hg=>?_) (fun hg=>?_)) <;> try simp -implicitDefEqProofs only [hg,Bool.not_true,Bool.not_false]) | ((with_reducible apply And.intro);focus (first | trivial | omega | decide | (simp -implicitDefEqProofs only [maxLen];omega) | (simp [maxLen,af,ak,an,ax,aj,av,au] <;> omega) | (omega;done))) | fail)
   refine hN (i,m) _ _ ⟨by dsimp;omega,by dsimp;omega,h3,fun a ha Bf=>?_⟩ (by dsimp;omega) (aZ (by simp [lk]))
   dsimp at Bf
   rcases Nat.lt_or_ge m a with h | h
   ·have:=hlt m a hml ha h;omega
   ·obtain rfl:a=m:=by omega
    omega
 ·have hij:i=j:=by simp at hg;omega
  subst hij
  simp -implicitDefEqProofs only [go_sem,Int.reduceNegSucc]
  refine hX _ _ _ ?_
  clear hN hX hR
  have vi:=KH h2 h3 h4
  have MR:yf ks x=if h:i<ks.length then ((ks[i]'h:Nat):Int) ==(x:Int) else false:=by unfold yf;simp -implicitDefEqProofs only [vi]
  rw [vi,MR] at hK
  by_cases fF:i<ks.length
  ·have e:decide ((i:Int)<(ks.length:Int))=true:=decide_eq_true (by omega)
   have hx:(aL (bk ks))[i]?.getD []=[.int .i64 (ks[i]:Nat)]:=by simp [aL,bk,fF]
   rw [dif_pos fF] at hK
   have hn:=TQ (ks[i]:Nat)
   cases hq:(((ks[i]:Nat):Int) ==(x:Int)) with
   | true=>
     rw [hq] at hK
     have bF:=hn;repeat' (first | (simp -implicitDefEqProofs only [go_sem,Int.reduceNegSucc,hl,e,hx,hq]) | (with_reducible refine aA ?_) | (with_reducible first | refine ag bF ?_ | refine ah bF ?_) | ((first | refine ai (fun hg=>?_) (fun hg=>?_) | refine ay (fun hg=>?_) (fun hg=>?_) | refine az (fun hg=>?_) (fun hg=>?_)) <;> try simp -implicitDefEqProofs only [hg,Bool.not_true,Bool.not_false]) | ((with_reducible apply And.intro);focus (first | trivial | omega | decide | (simp -implicitDefEqProofs only [maxLen];omega) | (simp [maxLen,af,ak,an,ax,aj,av,au] <;> omega))) | fail)
     refine (hK _ _ (gI ?_ ?_)).2 <;> rfl
   | false=>
     rw [hq] at hK
     have bJ:=hn;repeat' (first | (simp -implicitDefEqProofs only [go_sem,Int.reduceNegSucc,hl,e,hx,hq]) | (with_reducible refine aA ?_) | (with_reducible first | refine ag bJ ?_ | refine ah bJ ?_) | ((first | refine ai (fun hg=>?_) (fun hg=>?_) | refine ay (fun hg=>?_) (fun hg=>?_) | refine az (fun hg=>?_) (fun hg=>?_)) <;> try simp -implicitDefEqProofs only [hg,Bool.not_true,Bool.not_false]) | ((with_reducible apply And.intro);focus (first | trivial | omega | decide | (simp -implicitDefEqProofs only [maxLen];omega) | (simp [maxLen,af,ak,an,ax,aj,av,au] <;> omega))) | fail)
     refine (hK _ _ (gI ?_ ?_)).2 <;> rfl
  ·have e:decide ((i:Int)<(ks.length:Int))=false:=decide_eq_false (by omega)
   rw [dif_neg fF] at hK
   repeat' (first | (simp -implicitDefEqProofs only [go_sem,Int.reduceNegSucc,hl,e]) | (with_reducible refine aA ?_) | ((first | refine ai (fun hg=>?_) (fun hg=>?_) | refine ay (fun hg=>?_) (fun hg=>?_) | refine az (fun hg=>?_) (fun hg=>?_)) <;> try simp -implicitDefEqProofs only [hg,Bool.not_true,Bool.not_false]) | ((with_reducible apply And.intro);focus (first | trivial | omega | decide | (simp -implicitDefEqProofs only [maxLen];omega) | (simp [maxLen,af,ak,an,ax,aj,av,au] <;> omega))) | fail)
   refine (hK _ _ (gI ?_ ?_)).2 <;> rfl
def vN (ks:List Nat) (x:Nat):List Nat:=ks.take (nT ks x)++x::ks.drop (nT ks x)
theorem NI (ks:List Nat) (x:Nat):(vN ks x).length=ks.length+1:=by
 have:=DA ks x
 simp [vN];omega
theorem NH (ks:List Nat) (x:Nat):kE (bk ks) (nT ks x) x=bk (vN ks x):=by simp [kE,bk,vN]
theorem KE (ks:List Int) (p:Int→Bool):(lZ ks p).take (hU ks p).length=hU ks p:=by
 unfold lZ;rw [List.take_left]
section
variable (l:List Nd) (n:Int)
def qE:List Int:=lZ (bk (iE l n)) fun m=>!iI l m
theorem Aa:(qE l n).take (bK l n).length=bk (bK l n):=by
 have hfl:(hU (bk (iE l n)) fun m=>!iI l m)=bk (bK l n):=by
  unfold hU bK bk
  rw [List.filter_map]
  simp [Function.comp_def]
 have pq:(bK l n).length=(hU (bk (iE l n)) fun m=>!iI l m).length:=by rw [hfl];simp [bk]
 rw [pq,qE,KE,hfl]
theorem Dz:(bK l n).length≤(qE l n).length:=by
 have:=congrArg List.length (Aa l n)
 rw [Gs,List.length_take] at this
 omega
theorem Tb (hb:(bK l n).length≤1000000) (hp:(bK l n).Pairwise (·< ·)) (j v x:Nat):aG Go.Proofs.Tryz.prog 77 [.row j v (bK l n).length,.rv (.int .i64 x)] [(j,.row 1 v (aN (aL (qE l n))))] [] (.aP [.rv (.int .i64 (nT (bK l n) x)),.rv (.bool (yf (bK l n) x))]):=by
 refine uQ (iO:=[.rv (.sl 1 (aL (bk (bK l n)))),.rv (.int .i64 x)]) (Ta (bK l n) x hb hp) rfl (fun hp hpre k y r hy hr=>?_) (.aP _ fun k y hy=>?_) (by simp)
 ·match k with
  | 0=>
    cases hy;cases hr
    have:=nX (h:=hp) (τ:=fun _=>none) (j:=j) (e:=1) (aq:=v) (len:=(bK l n).length) (xs:=aL (qE l n)) (hpre _ (.head _)) rfl (by rw [aj];exact Dz l n) (kF _)
    rw [show (aL (qE l n)).take (bK l n).length=aL (bk (bK l n)) by rw [← Aa];simp [aL,List.map_take]] at this
    exact .fz _ _ this
  | 1=>cases hy;cases hr;exact aK.2 rfl
  | k+2=>simp at hy
 ·match k with
  | 0=>cases hy;exact .rv _ (.int _ _)
  | 1=>cases hy;exact .rv _ (.bool _)
  | k+2=>simp at hy
end
end Go.aJ

namespace Go.aJ
open Go
theorem Eg (l:List Nd) (n:Int):(bK l n).length≤l.length:=by
 have h1:=List.length_filter_le (fun (m:Nat)=>iI l m) (iE l n)
 have h2:=FR l n
 unfold bK;omega
theorem Al (e:Ed):(e.cells.map SV.rv)[26]?=some (.rv (.bool e.nE)):=rfl
theorem KO (e:Ed):(e.cells.map SV.rv)[27]?=some (.rv (.bool e.lC)):=rfl
theorem rW (e:Ed):e.cells.length=28:=rfl
theorem AA (f:Fm):(f.cells.map SV.rv).take 25=f.cells.map SV.rv:=rfl
theorem Ej (f:Fm):f.cells.take 25=f.cells:=rfl
theorem Ay (f:Fm):(f.cells.map SV.rv).drop 25=[]:=rfl
theorem Ei (f:Fm):((f.cells.map SV.rv).drop 17).take 8=f.child.cells.map SV.rv:=rfl
theorem Dt (c:Ch):c.cells.length=8:=rfl
theorem CU {X:List (Nat×Fm)} {m:Nat} {f:Fm}:aN (gX X)++[SV.rv (.int .i64 m)::f.cells.map SV.rv]=aN (gX (X++[(m,f)])):=by simp [aN,gX,nF]
theorem CV {X Y:List (Nat×Fm)}:aN (gX X)++aN (gX Y)=aN (gX (X++Y)):=by simp [aN,gX]
theorem CT {X:List Ch} {c:Ch}:aN (gC X)++[c.cells.map SV.rv]=aN (gC (X++[c])):=by simp [aN,gC]
theorem Im {X:List (Nat×Fm)}:(gX X).take X.length=gX X:=List.take_of_length_le (by rw [mS];omega)
theorem Io {X:List (Nat×Fm)} {y:Nat×Fm}:(gX (X++[y])).take (X.length+1)=gX (X++[y]):=List.take_of_length_le (by rw [mS];simp)
def xe:List SV:=[.rv .cm,.rv .cm,.rv (.int .i64 0),.rv (.int .i64 0),.rv (.int .i64 0),.rv (.int .i64 0),.rv (.int .i64 0),.rv (.bool false),.rv (.int .i64 0)]
def qR (h:Sz) (e:Ed) (k n:Nat) (o:List Int) (c:List Ch) (L:List (Nat×Fm)):List (Option HB):=
 [some (.var (h.cells.map .rv)),some (.var (e.cells.map .rv)),some (.var xe),some (.var [.row 6 (2*k) n,.rv .cm,.rv (.int .i64 0),.rv (.int .i64 0),.rv (.int .i64 0),.rv (.int .i64 0),.rv (.int .i64 0),.rv (.bool false),.rv (.int .i64 0)]),
  some (.row 1 k (aN (aL o))),some (.row 8 k (aN (gC c))),some (.row 26 (2*k) (aN (gX L)))]
def yK (h:Sz) (e:Ed) (rs:List (Nat×Fm×La)):List (Option HB):=qR h e rs.length (bQ rs).length (jg rs) (gD rs) (bQ rs)
theorem ND (h:Sz) (e:Ed) (k n:Nat) (o:List Int) (c:List Ch) (L:List (Nat×Fm)):kX (mF 7) (qR h e k n o c L):=
 ⟨kC,kC,kC (rs:=bz none),⟨jx.2 (by decide),kC (rs:=[.cm,.int .i64 0,.int .i64 0,.int .i64 0,.int .i64 0,.int .i64 0,.bool false,.int .i64 0])⟩,iP,iP,iP,trivial⟩
theorem Lb (l:List Nd) (n:Int):(bK l n).Pairwise (·< ·):=by
 unfold bK iE
 split
 ·unfold hJ bC
  exact (List.pairwise_lt_range.filter _).filter _
 ·exact .nil
theorem NG (h:Sz) (e:Ed):kX (mF 3) [some (.var (h.cells.map .rv)),some (.var (e.cells.map .rv)),some (.var xe)]:=⟨kC,kC,kC (rs:=bz none),trivial⟩
theorem TN (l:List Nd) (hb:l.length≤1000) (n:Int) (w:Int) (h:Sz) (e:Ed) (bx:Nat→Option (Fm×La)) (more:Int) (ks:List Nat) (hks:(more<0∧ks=bK l n)∨∃ x:Nat,more=x∧ks=vN (bK l n) x) (Vx:ks.length≤1000)
 (hlen:∀ m∈ks,∀ q,bx m=some q→q.2.L.length≤1000)
 (hB:jn w h=true→∀ m∈ks,aG Go.Proofs.Tryz.prog 30 [.rv (fD l),.rv (.int .i64 m),.rv (.int .i64 w),h.sv,.rv (.bool (bS l n).bH)] [] [] (jD (bx m))) :
 aG Go.Proofs.Tryz.prog 49 [.rv (fD l),.rv (.int .i64 n),.rv (.int .i64 w),h.sv,e.sv,.rv (.int .i64 more)] [] [] (.aP [.agg ((bz (lz bx ks (jn w h) e.nE e.lC).1).map .rv),.rv (.bool (lz bx ks (jn w h) e.nE e.lC).2)]):=by
 refine bt PF [.rv (fD l),.rv (.int .i64 n),.rv (.int .i64 w),h.sv,e.sv,.rv (.int .i64 more)] _ (by simp) (by simp [aO,aW,bl,aQ,aY,aC.sv,Ln.sv,Nd.sv]) (fun K hK=>?_)
 have hm:=HM w h
 have hfl:=yV ks
 have hst:=HI l n
 unfold lz at hK
 cases hmay:jn w h with
 | false=>
   rw [hmay] at hm
   simp -implicitDefEqProofs only [hmay,Bool.false_eq_true,if_false] at hK
   conv in fc _ _ _ _=>reduce
   simp -implicitDefEqProofs only [Sz.sv,Sz.cells,Ed.sv,go_sem,Int.reduceNegSucc] at hm ⊢
   have aS:=hm;repeat' (first | (simp -implicitDefEqProofs only [go_sem,Int.reduceNegSucc,rW]) | (with_reducible refine aA ?_) | (with_reducible first | refine ag aS ?_ | refine ah aS ?_) | ((first | refine ai (fun hg=>?_) (fun hg=>?_) | refine ay (fun hg=>?_) (fun hg=>?_) | refine az (fun hg=>?_) (fun hg=>?_)) <;> try simp -implicitDefEqProofs only [hg,Bool.not_true,Bool.not_false]) | ((with_reducible apply And.intro);focus (first | trivial | omega | decide | (simp -implicitDefEqProofs only [maxLen];omega) | (simp [maxLen,af,ak,an,ax,aj,av,au] <;> omega))) | fail)
   all_goals (refine (hK _ _ ?_).2;clear hK;simp -implicitDefEqProofs only [go_sem,Int.reduceNegSucc,aX,bg,bp,bq,aM,aK,aI,bz] <;>(try simp_all [-Int.not_lt,-Int.not_le,aM,aK,aI,bG,bz]) <;> try omega)
 | true=>
   rw [hmay] at hm
   simp -implicitDefEqProofs only [hmay,if_true] at hK
   have hB:=hB hmay
   conv in fc _ _ _ _=>reduce
   simp -implicitDefEqProofs only [Sz.sv,Sz.cells,Ed.sv,go_sem,Int.reduceNegSucc] at hm ⊢
   have flb:=Eg l n
   apply Vg
   ·intro main
    rcases hks with ⟨hm0,hk⟩ | ⟨x,rfl,hk⟩
    ·have g0:decide (more≥0)=false:=decide_eq_false (by clear main;omega)
     have hf:=HG l n (by clear main;omega)
     rw [← hk] at hf
     have y_2:=hm;have bA:=hf;repeat' (first | (simp -implicitDefEqProofs only [go_sem,Int.reduceNegSucc,g0,rW]) | (with_reducible first | refine ag y_2 ?_ | refine ah y_2 ?_) | (with_reducible first | refine ag bA ?_ | refine ah bA ?_) | ((first | refine ai (fun hg=>?_) (fun hg=>?_) | refine ay (fun hg=>?_) (fun hg=>?_) | refine az (fun hg=>?_) (fun hg=>?_)) <;> try simp -implicitDefEqProofs only [hg,Bool.not_true,Bool.not_false]) | ((with_reducible apply And.intro);focus (first | trivial | omega | decide | (simp -implicitDefEqProofs only [maxLen];omega) | (simp [maxLen,af,ak,an,ax,aj,av,au] <;> omega))) | fail)
     refine jk [(14,.rv (.sl 1 (aL (bk ks)))),(0,.rv (fD l)),(1,.rv (.int .i64 n)),(2,.rv (.int .i64 w)),(9,.ptr 0 0),(10,.ptr 1 0),(12,.ptr 2 0)] [some (.var (h.cells.map .rv)),some (.var (e.cells.map .rv)),some (.var xe)] (aZ (by simp [lk])) main
    ·have g0:decide ((x:Int)≥0)=true:=decide_eq_true (by clear main;omega)
     have hf:=HF l n (by clear main;omega) 3
     have mc:=Tb l n (by clear main;omega) (Lb l n) 3 1 x
     have hin:=Tn 3 4 1 0 (nT (bK l n) x) (bK l n).length x (qE l n) (by decide) (Dz l n) (DA _ _) (by clear main;omega)
     rw [Aa,NH,← hk] at hin
     rw [show (lZ (bk (iE l n)) fun m=>!iI l m)=qE l n from rfl] at hf
     have gF:ks.length=(bK l n).length+1:=by rw [hk,NI]
     have bF:=hm;have bJ:=hf;have bL:=mc;have bP:=hin;repeat' (first | (simp -implicitDefEqProofs only [go_sem,Int.reduceNegSucc,g0,rW]) | (with_reducible first | refine ag bF ?_ | refine ah bF ?_) | (refine bR bJ ?_ ?_ ?_;(focus (simp [aU,aB] <;> fail));(focus (simp [bh,aR] <;> fail))) | (refine cg bJ ?_ ?_ ?_;(focus (simp [aU,aB] <;> fail));(focus (simp [bh,aR] <;> fail))) | (refine bR bL ?_ ?_ ?_;(focus (simp [aU,aB] <;> fail));(focus (simp [bh,aR] <;> fail))) | (refine cg bL ?_ ?_ ?_;(focus (simp [aU,aB] <;> fail));(focus (simp [bh,aR] <;> fail))) | (refine bR bP ?_ ?_ ?_;(focus (simp [aU,aB] <;> fail));(focus (simp [bh,aR] <;> fail))) | (refine cg bP ?_ ?_ ?_;(focus (simp [aU,aB] <;> fail));(focus (simp [bh,aR] <;> fail))) | ((first | refine ai (fun hg=>?_) (fun hg=>?_) | refine ay (fun hg=>?_) (fun hg=>?_) | refine az (fun hg=>?_) (fun hg=>?_)) <;> try simp -implicitDefEqProofs only [hg,Bool.not_true,Bool.not_false]) | ((with_reducible apply And.intro);focus (first | trivial | omega | decide | (simp -implicitDefEqProofs only [maxLen];omega) | (simp [maxLen,af,ak,an,ax,aj,av,au] <;> omega))) | fail)
     have htl:(aL (bk ks)).take ((bK l n).length+1)=aL (bk ks):=List.take_of_length_le (by clear main;rw [hfl];omega)
     refine jk _ _ ?_ main
     refine KT (j:=3) (e:=1) (aq:=2) (len:=(bK l n).length+1) (xs:=aL (bk ks)) (h':=[some (.var (h.cells.map .rv)),some (.var (e.cells.map .rv)),some (.var xe)]) (C:=[some (.row 1 2 (aN (aL (bk ks)))),some (.row 1 0 [[.rv (.int .i64 x)]])]) htl (Nat.zero_le _) (NG h e) ?_ (by simp) rfl (by clear main;rw [hfl];omega) (kF _) ?_
     ·rfl
     ·simp [iw,lk,jT,lY]
   clear hks hm
   repeat' (first | (simp -implicitDefEqProofs only [go_sem,Int.reduceNegSucc,hfl]) | (with_reducible refine aA ?_) | ((first | refine ai (fun hg=>?_) (fun hg=>?_) | refine ay (fun hg=>?_) (fun hg=>?_) | refine az (fun hg=>?_) (fun hg=>?_)) <;> try simp -implicitDefEqProofs only [hg,Bool.not_true,Bool.not_false]) | ((with_reducible apply And.intro);focus (first | trivial | omega | decide | (simp -implicitDefEqProofs only [maxLen];omega) | (simp [maxLen,af,ak,an,ax,aj,av,au] <;> omega))) | fail)
   refine fG (ι:=List (Nat×Fm×La)) (fun rs=>[(54,.rv (.int .i64 rs.length)),(53,.rv (.int .i64 ks.length)),(52,.rv (.sl 1 (aL (bk ks)))),(17,.ptr 3 0),(18,.row 4 rs.length rs.length),(19,.row 5 rs.length rs.length),(12,.ptr 2 0),(9,.ptr 0 0),(10,.ptr 1 0),(0,.rv (fD l)),(1,.rv (.int .i64 n)),(2,.rv (.int .i64 w))]) (yK h e)
    (fun rs=>rs.length≤ks.length∧(bQ rs).length≤1001*rs.length∧kH bx ks=(kH bx (ks.drop rs.length)).map (rs ++ ·)) (fun rs=>ks.length - rs.length) [] ⟨Nat.zero_le _,by simp [bQ],by cases hq:kH bx ks <;> simp [hq]⟩
    ((qJ 18 1 0 rfl).trans ((qJ 19 8 0 rfl).trans ((tw 3 26 0 rfl rfl).trans (aZ (by simp [lk,aR]))))) (fun rs EZ K' hN hX hR=>?_)
   obtain ⟨EX,tO,gO⟩:=EZ
   simp -implicitDefEqProofs only [yK,qR,Sz.cells,go_sem,Int.reduceNegSucc]
   refine ai (fun hg=>?_) (fun hg=>?_)
   ·have aE:rs.length<ks.length:=by simp at hg;omega
    have wu:=fy (k:=rs.length) (by omega)
    have hx:(aL (bk ks))[rs.length]?.getD []=[.int .i64 (ks[rs.length]:Nat)]:=by simp [aL,bk,aE]
    have kD:=hB _ (List.getElem_mem aE)
    rw [List.drop_eq_getElem_cons aE,kH] at gO
    have sA:=hlen _ (List.getElem_mem aE)
    have En:=cw (bS l n)
    have q1:((bS l n).cells.map SV.rv).length=48:=rfl
    generalize ks[rs.length]=m at *
    cases oa:bx m with
    | none=>
      rw [oa] at kD gO
      simp -implicitDefEqProofs only [Option.map] at gO
      rw [gO] at hK
      simp -implicitDefEqProofs only [jD,fN,bz,Option.map,Option.isSome,List.map_cons,List.map_nil,Sz.sv,Sz.cells] at kD
      have bT:=hst;have cq:=kD;repeat' (first | (simp -implicitDefEqProofs only [go_sem,Int.reduceNegSucc,hfl,hx,En,q1,af]) | (with_reducible refine aA ?_) | (with_reducible first | refine ag bT ?_ | refine ah bT ?_) | (with_reducible first | refine ag cq ?_ | refine ah cq ?_) | ((first | refine ai (fun hg=>?_) (fun hg=>?_) | refine ay (fun hg=>?_) (fun hg=>?_) | refine az (fun hg=>?_) (fun hg=>?_)) <;> try simp -implicitDefEqProofs only [hg,Bool.not_true,Bool.not_false]) | ((with_reducible apply And.intro);focus (first | trivial | omega | decide | (simp -implicitDefEqProofs only [maxLen];omega) | (simp [maxLen,af,ak,an,ax,aj,av,au] <;> omega))) | fail)
      refine hR _ _ (hK _ _ ?_).2
      simp -implicitDefEqProofs only [go_sem,Int.reduceNegSucc,aX,bg,bp,bq,aM,aK,aI,bz]
    | some q=>
      rw [oa] at kD gO
      obtain ⟨f,t⟩:=q
      have Be:=sA _ oa
      simp -implicitDefEqProofs only [Option.map_map] at gO
      have Bd:(bQ rs).length≤1001000:=by omega
      have hrl:rs.length≤1000:=by omega
      have hv:2*rs.length+1+1=2*(rs.length+1):=by omega
      have ho:=Gy (rs:=rs) (r:=(m,f,t))
      have hc:=Dq (rs:=rs) (r:=(m,f,t))
      have hls:bQ rs++[(m,f)]++t.L=bQ (rs++[(m,f,t)]):=by rw [CM];simp [ng]
      have Bq:(aL (jg rs)).take rs.length=aL (jg rs):=List.take_of_length_le (by rw [aj,ua];omega)
      have Br:(gC (gD rs)).take rs.length=gC (gD rs):=List.take_of_length_le (by rw [nS];simp [gD])
      have l1:(aL (jg rs)).length=rs.length:=by rw [aj,ua]
      have l2:(gC (gD rs)).length=rs.length:=by rw [nS];simp [gD]
      have l3:=mS (bQ rs)
      have l4:=mS t.L
      have l5:(gX (bQ rs++[(m,f)])).length=(bQ rs).length+1:=by rw [mS];simp
      simp only at Be
      simp -implicitDefEqProofs only [jD,fN,bz,Option.map,Option.isSome,Pl.cells,List.map_cons,List.map_nil,List.cons_append,List.nil_append,Sz.sv,Sz.cells] at kD
      have cu:=hst;have gf:=kD;repeat' (first | (simp -implicitDefEqProofs only [go_sem,Int.reduceNegSucc,hfl,hx,En,q1,af,Az,AA,Ej,Ay,Ei,Dt,CU,CV,CT,mw,Im,Io,Bq,Br,l1,l2,l3,l4,l5,wu,hv]) | (with_reducible refine aA ?_) | (with_reducible first | refine ag cu ?_ | refine ah cu ?_) | (with_reducible first | refine ag gf ?_ | refine ah gf ?_) | ((first | refine ai (fun hg=>?_) (fun hg=>?_) | refine ay (fun hg=>?_) (fun hg=>?_) | refine az (fun hg=>?_) (fun hg=>?_)) <;> try simp -implicitDefEqProofs only [hg,Bool.not_true,Bool.not_false]) | ((with_reducible apply And.intro);focus (first | trivial | omega | decide | (simp -implicitDefEqProofs only [maxLen];omega) | (simp [maxLen,af,ak,an,ax,aj,av,au] <;> omega) | (omega;done))) | fail)
      have hq:yK h e (rs++[(m,f,t)])=qR h e (rs.length+1) ((bQ rs).length+1+t.L.length) (jg rs++[((bQ rs).length:Int)]) (gD rs++[f.child]) (bQ rs++[(m,f)]++t.L):=by
       unfold yK
       rw [ho,hc,← hls]
       simp -implicitDefEqProofs only [List.length_append,List.length_cons,List.length_nil,Nat.zero_add]
      refine hN (rs++[(m,f,t)]) _ _ ⟨by simp;omega,by rw [← hls];simp;omega,?_⟩ (by simp;omega) ?_
      ·rw [gO]
       simp -implicitDefEqProofs only [List.length_append,List.length_cons,List.length_nil,Nat.zero_add]
       congr 1
       funext x
       simp
      ·rw [hq]
       exact nU (h':=qR h e (rs.length+1) ((bQ rs).length+1+t.L.length) (jg rs++[((bQ rs).length:Int)]) (gD rs++[f.child]) (bQ rs++[(m,f)]++t.L)) (Nat.zero_le _) (ND _ _ _ _ _ _ _) (by simp [iw,lk,jT,jx,lY,qR])
   ·have aE:rs.length=ks.length:=by simp at hg;omega
    rw [aE,List.drop_length] at gO
    simp -implicitDefEqProofs only [kH,Option.map,List.append_nil] at gO
    rw [gO] at hK
    simp -implicitDefEqProofs only [gO] at hK
    simp -implicitDefEqProofs only [go_sem,Int.reduceNegSucc]
    refine hX _ _ _ ?_
    clear hN hX hR
    have hrl:rs.length≤1000:=by omega
    have hcl:(gD rs).length=rs.length:=by simp [gD]
    have hS:=Tx (gD rs) e.nE (by omega) 5 rs.length 7 (by decide)
    rw [hcl] at hS
    cases oo:js (gD rs) e.nE with
    | none=>
      rw [oo] at hS
      simp -implicitDefEqProofs only [oo] at hK
      have hv:=Cx ⟨0,0⟩
      simp -implicitDefEqProofs only [lP,kG,Option.isSome,Su.sv,Su.cells,List.map_cons,List.map_nil] at hS hv
      have gN:=hS;have ig:=hv;repeat' (first | (simp -implicitDefEqProofs only [go_sem,Int.reduceNegSucc,Al,rW]) | (with_reducible refine aA ?_) | (refine bR gN ?_ ?_ ?_;(focus (simp [aU,aB] <;> fail));(focus (simp [bh,aR] <;> fail))) | (refine cg gN ?_ ?_ ?_;(focus (simp [aU,aB] <;> fail));(focus (simp [bh,aR] <;> fail))) | (with_reducible first | refine ag ig ?_ | refine ah ig ?_) | ((first | refine ai (fun hg=>?_) (fun hg=>?_) | refine ay (fun hg=>?_) (fun hg=>?_) | refine az (fun hg=>?_) (fun hg=>?_)) <;> try simp -implicitDefEqProofs only [hg,Bool.not_true,Bool.not_false]) | ((with_reducible apply And.intro);focus (first | trivial | omega | decide | (simp -implicitDefEqProofs only [maxLen];omega) | (simp [maxLen,af,ak,an,ax,aj,av,au] <;> omega))) | fail)
      all_goals (refine (hK _ _ ?_).2;clear hK;simp -implicitDefEqProofs only [go_sem,Int.reduceNegSucc,aX,bg,bp,bq,aM,aK,aI,bz] <;>(try simp_all [-Int.not_lt,-Int.not_le,aM,aK,aI,bG,bz]) <;> try omega)
    | some q=>
      obtain ⟨p,ys⟩:=q
      rw [oo] at hS
      simp -implicitDefEqProofs only [oo] at hK
      have lI:=zy oo
      simp -implicitDefEqProofs only [List.length_nil,Nat.zero_add,hcl] at lI
      have hv:=Cx p.cur
      simp -implicitDefEqProofs only [lP,kG,lE,Option.isSome,Pl.cells,Su.sv,Su.cells,List.map_cons,List.map_nil] at hS hv
      cases qh:nL p.cur with
      | false=>
        rw [qh] at hv
        simp -implicitDefEqProofs only [qh,Bool.false_eq_true,if_false] at hK
        have ij:=hS;have iq:=hv;repeat' (first | (simp -implicitDefEqProofs only [go_sem,Int.reduceNegSucc,Al,rW]) | (with_reducible refine aA ?_) | (refine bR ij ?_ ?_ ?_;(focus (simp [aU,aB] <;> fail));(focus (simp [bh,aR] <;> fail))) | (refine cg ij ?_ ?_ ?_;(focus (simp [aU,aB] <;> fail));(focus (simp [bh,aR] <;> fail))) | (with_reducible first | refine ag iq ?_ | refine ah iq ?_) | ((first | refine ai (fun hg=>?_) (fun hg=>?_) | refine ay (fun hg=>?_) (fun hg=>?_) | refine az (fun hg=>?_) (fun hg=>?_)) <;> try simp -implicitDefEqProofs only [hg,Bool.not_true,Bool.not_false]) | ((with_reducible apply And.intro);focus (first | trivial | omega | decide | (simp -implicitDefEqProofs only [maxLen];omega) | (simp [maxLen,af,ak,an,ax,aj,av,au] <;> omega))) | fail)
        all_goals (refine (hK _ _ ?_).2;clear hK;simp -implicitDefEqProofs only [go_sem,Int.reduceNegSucc,aX,bg,bp,bq,aM,aK,aI,bz] <;>(try simp_all [-Int.not_lt,-Int.not_le,aM,aK,aI,bG,bz]) <;> try omega)
      | true=>
        rw [qh] at hv
        simp -implicitDefEqProofs only [qh,if_true] at hK
        have ir:=hS;have iu:=hv;repeat' (first | (simp -implicitDefEqProofs only [go_sem,Int.reduceNegSucc,Al,rW]) | (with_reducible refine aA ?_) | (refine bR ir ?_ ?_ ?_;(focus (simp [aU,aB] <;> fail));(focus (simp [bh,aR] <;> fail))) | (refine cg ir ?_ ?_ ?_;(focus (simp [aU,aB] <;> fail));(focus (simp [bh,aR] <;> fail))) | (with_reducible first | refine ag iu ?_ | refine ah iu ?_) | ((first | refine ai (fun hg=>?_) (fun hg=>?_) | refine ay (fun hg=>?_) (fun hg=>?_) | refine az (fun hg=>?_) (fun hg=>?_)) <;> try simp -implicitDefEqProofs only [hg,Bool.not_true,Bool.not_false]) | ((with_reducible apply And.intro);focus (first | trivial | omega | decide | (simp -implicitDefEqProofs only [maxLen];omega) | (simp [maxLen,af,ak,an,ax,aj,av,au] <;> omega))) | fail)
        have Bv:=aj ys
        have qg:=zj rs
        refine fG (ι:=Nat) (fun i=>[(119,.rv (.int .i64 i)),(118,.rv (.int .i64 rs.length)),(117,.row 4 rs.length rs.length),(17,.ptr 3 0),(25,.ptr 8 0),(27,.rv (.int .i64 (iN p.cur))),(10,.ptr 1 0),(12,.ptr 2 0)])
         (fun i=>qR h e rs.length (bQ rs).length (jg rs) (gD rs) (jq rs (ys.take i))++[some (.row 1 ys.length (aN (aL ys))),some (.var [.row 7 ys.length ys.length,.rv (.int .i64 p.iB),.rv (.int .i64 p.top.p),.rv (.int .i64 p.top.n),.rv (.int .i64 p.cur.p),.rv (.int .i64 p.cur.n),.rv (.bool p.lV)])])
         (fun i=>i≤rs.length) (fun i=>rs.length - i) 0 (Nat.zero_le _) (by rw [List.take_zero,qg];exact aZ (by simp [lk])) (fun i hi K' hN hX hR=>?_)
        simp -implicitDefEqProofs only [qR,Sz.cells,go_sem,Int.reduceNegSucc]
        refine ai (fun hg=>?_) (fun hg=>?_)
        ·have hi4:i<rs.length:=by simp at hg;omega
         have wu:=fy (k:=i) (by omega)
         have ho:=Gx hi4
         have Bh:=ua (rs:=rs)
         have hy:=ow (show i<ys.length by omega)
         have iR:=GO hi4 (show i<ys.length by omega)
         have jc:=GP hi4 (show i<ys.length by omega)
         have hlt:(bQ (rs.take i)).length<(bQ rs).length:=by
          have:=(wD rs ys i hi4 (by omega)).1
          have:=(List.getElem?_eq_some_iff.1 this).1
          rwa [qp] at this
         have gG:(gX (jq rs (ys.take i))).length=(bQ rs).length:=by rw [mS,qp]
         have fF:=aj (jg rs)
         have Cz:=Ie (rs[i].1,rs[i].2.1) ys[i]
         have vC:=GN (rs[i].1,rs[i].2.1)
         repeat' (first | (simp -implicitDefEqProofs only [go_sem,Int.reduceNegSucc,ho,hy,iR,jc,gG,fF,Bh,Cz,vC,wu,Bv]) | (with_reducible refine aA ?_) | ((first | refine ai (fun hg=>?_) (fun hg=>?_) | refine ay (fun hg=>?_) (fun hg=>?_) | refine az (fun hg=>?_) (fun hg=>?_)) <;> try simp -implicitDefEqProofs only [hg,Bool.not_true,Bool.not_false]) | ((with_reducible apply And.intro);focus (first | trivial | omega | decide | (simp -implicitDefEqProofs only [maxLen];omega) | (simp [maxLen,af,ak,an,ax,aj,av,au] <;> omega) | (omega;done))) | fail)
         exact hN (i+1) _ _ (by omega) (by omega) (aZ (by simp [lk]))
        ·have hi4:i=rs.length:=by simp at hg;omega
         have jd:ys.take i=ys:=List.take_of_length_le (by omega)
         rw [jd]
         clear jd hg
         simp -implicitDefEqProofs only [go_sem,Int.reduceNegSucc]
         refine hX _ _ _ ?_
         clear hN hX hR
         have hfit:=lR (ql rs (p,ys) e.lC).high
         have gG:(gX (jq rs ys)).length=(bQ rs).length:=by rw [mS,qp]
         simp -implicitDefEqProofs only [ql] at hfit hK
         cases iR:p.lV <;> cases mO:e.lC <;> simp -implicitDefEqProofs only [iR,mO,Bool.false_eq_true,if_true,if_false] at hfit hK
         all_goals ((have iJ:=hfit;repeat' (first | (simp -implicitDefEqProofs only [go_sem,Int.reduceNegSucc,KO,rW,iR,mO]) | (with_reducible refine aA ?_) | (with_reducible first | refine ag iJ ?_ | refine ah iJ ?_) | ((first | refine ai (fun hg=>?_) (fun hg=>?_) | refine ay (fun hg=>?_) (fun hg=>?_) | refine az (fun hg=>?_) (fun hg=>?_)) <;> try simp -implicitDefEqProofs only [hg,Bool.not_true,Bool.not_false]) | ((with_reducible apply And.intro);focus (first | trivial | omega | decide | (simp -implicitDefEqProofs only [maxLen];omega) | (simp [maxLen,af,ak,an,ax,aj,av,au] <;> omega))) | fail)))
         all_goals (refine (hK _ _ ?_).2;simp -implicitDefEqProofs only [go_sem,Int.reduceNegSucc,aX,bg,bp,bq,aM,aK,aI,bz,Pl.cells,iR])
         all_goals (refine ⟨pK rfl rfl (by rw [gG]) (ze _),pK rfl rfl (by rw [aj]) (kF _)⟩)
theorem TM (l:List Nd) (hb:l.length≤1000) (n:Int) (w:Int) (h:Sz) (e:Ed) (bx:Nat→Option (Fm×La)) (hlen:∀ m∈bK l n,∀ q,bx m=some q→q.2.L.length≤1000)
 (hB:∀ m∈bK l n,aG Go.Proofs.Tryz.prog 30 [.rv (fD l),.rv (.int .i64 m),.rv (.int .i64 w),h.sv,.rv (.bool (bS l n).bH)] [] [] (jD (bx m))) :
 aG Go.Proofs.Tryz.prog 49 [.rv (fD l),.rv (.int .i64 n),.rv (.int .i64 w),h.sv,e.sv,.rv (.int .i64 (-1))] [] [] (.aP [.agg ((bz (lz bx (bK l n) (jn w h) e.nE e.lC).1).map .rv),.rv (.bool (lz bx (bK l n) (jn w h) e.nE e.lC).2)]):=
 TN l hb n w h e bx (-1) (bK l n) (.inl ⟨by decide,rfl⟩) (by have:=Eg l n;omega) hlen (fun _=>hB)
end Go.aJ

namespace Go.aJ
open Go
theorem Pz:aT Go.Proofs.Tryz.prog 10 34 (fc Go.Proofs.Tryz.prog 10 34 [(.c 10 25 true),(.c 11 9 true),(.t 12)]) [(.c 10 25 true),(.c 11 9 true),(.t 12)]:=bn (by kernel_rfl)
def tQ (l:List Nd) (bd:Nat→Int→Sz→Bool→Option (Fm×La)) (n:Nat) (e:Ed) (x:Ao):Option La×Bool:=
 lz (fun m=>bd m x.w (mm e) (bS l n).bH) (bK l n) (jn x.w (mm e)) e.nE e.lC
def mI (l:List Nd):Nat→Nat→Int→Sz→Bool→Option (Fm×La)
 | 0,_,_,_,_=>none
 | d+1,n,w,h,bH=>qC l (tQ l (mI l d) n) n w h bH
def pP (l:List Nd) (n:Int) (w:Int) (h:Sz) (bH:Bool):Option (Fm×La):=if (gW l n && jn w h)=true then mI l (l.length+1) n.toNat w h bH else none
theorem Lq (l:List Nd) (n:Int):(bK l n).Pairwise (·< ·):=by
 unfold bK iE
 split
 ·unfold hJ bC
  exact (List.pairwise_lt_range.filter _).filter _
 ·exact .nil
theorem oV {l:List Nd} {n:Nat} {m:Nat} (h:m∈bK l n):0<m∧m<l.length∧bD l m=n:=by
 have h:=(List.mem_filter.1 h).1
 unfold iE at h
 split at h
 ·exact tX.1 (by simpa using h)
 ·simp at h
theorem Lr {l:List Nd} (hs:iA l) {n:Nat} (hn:n<l.length):(bK l n).Pairwise (fun x y=>hD l x≤y)∧∀ m∈bK l n,n+1≤m∧m≤hD l m∧hD l m≤hD l n:=by
 have hwf:=hs.wf
 refine ⟨?_,fun m hm=>?_⟩
 ·refine List.Pairwise.imp_of_mem (fun {x y} hx hy hlt=>?_) (Lq l n)
  obtain ⟨x1,x2,x3⟩:=oV hx
  obtain ⟨y1,y2,y3⟩:=oV hy
  have VP:=hs.up x x1 x2
  apply Classical.byContradiction
  intro hc
  have:=(hs.below x2 y2).2 ⟨by omega,by omega⟩
  rcases (sI hwf y1 y2).1 this with h | h
  ·omega
  ·rw [y3] at h
   have:=uf _ _ h
   simp at this
   omega
 ·obtain ⟨m1,m2,m3⟩:=oV hm
  have hu:=hs.up m m1 m2
  obtain ⟨g1,g2⟩:=hs.uX m2
  refine ⟨by omega,by omega,?_⟩
  have h1:=(hs.below m2 (show hD l m - 1<l.length by omega)).2 ⟨by omega,by omega⟩
  have h2:n∈br l m:=(sI hwf m1 m2).2 (.inr (by rw [m3];simpa using yR))
  have:=(hs.below hn (show hD l m - 1<l.length by omega)).1 (Cb h1 n h2)
  omega
theorem Ic (e:Nat→Nat):∀ (ks:List Nat) (a b:Nat),ks.Pairwise (fun x y=>e x≤y)→(∀ k∈ks,a≤k∧k≤e k∧e k≤b)→(ks.map fun k=>e k - k).sum≤b - a
 | [],_,_,_,_=>by simp
 | k::ks,a,b,hp,hk=>by
   rw [List.pairwise_cons] at hp
   have:=Ic e ks (e k) b hp.2 (fun x hx=>⟨hp.1 x hx,(hk x (.tail _ hx)).2⟩)
   have:=hk k (.head _)
   simp -implicitDefEqProofs only [List.map_cons,List.sum_cons]
   omega
theorem Hg {bx:Nat→Option (Fm×La)} {g:Nat→Nat}:∀ {ks:List Nat} {rs:List (Nat×Fm×La)},kH bx ks=some rs→(∀ m∈ks,∀ q,bx m=some q→q.2.L.length+1≤g m)→(bQ rs).length≤(ks.map g).sum
 | [],rs,h,_=>by cases h;simp [bQ]
 | m::ks,rs,h,hg=>by
   rw [kH] at h
   split at h
   ·rename_i q hq
    rw [Option.map_eq_some_iff] at h
    obtain ⟨rs',h1,rfl⟩:=h
    have:=Hg h1 (fun x hx=>hg x (.tail _ hx))
    have:=hg m (.head _) q hq
    show (ng (m,q)++bQ rs').length≤_
    simp -implicitDefEqProofs only [ng,List.length_append,List.length_cons,List.map_cons,List.sum_cons]
    omega
   ·cases h
theorem Fk {bx:Nat→Option (Fm×La)} {ks:List Nat} {ok ot ob:Bool} {t:La} (h:(lz bx ks ok ot ob).1=some t):∃ rs q,kH bx ks=some rs∧js (gD rs) ot=some q∧t=ql rs q ob:=by
 unfold lz at h
 repeat' split at h
 all_goals first | (cases h;done) | (cases h;exact ⟨_,_,by assumption,by assumption,rfl⟩)
theorem Dj {l:List Nd} {ins:Ed→Ao→Option La×Bool} {n w:Int} {h:Sz} {bH:Bool} {q:Fm×La} (hq:qC l ins n w h bH=some q):∃ x,mY (qy l n w h bH)=some x∧okB l n w h=true∧(ins (ck l n w h) x)=(some q.2,true)∧q.1=tG (ck l n w h) x (bK l n).length q.2:=by
 unfold qC at hq
 split at hq
 ·rename_i hok
  rw [Option.bind_eq_some_iff] at hq
  obtain ⟨x,hx,hf⟩:=hq
  unfold oU at hf
  split at hf
  ·rename_i h2
   rw [Option.bind_eq_some_iff] at hf
   obtain ⟨t,ht,hf⟩:=hf
   split at hf
   ·cases hf;exact ⟨x,hx,hok,Prod.ext ht h2,rfl⟩
   ·cases hf
  ·cases hf
 ·cases hq
theorem xA {l:List Nd} (hs:iA l):∀ (d n:Nat) (w:Int) (h:Sz) (bH:Bool) (q:Fm×La),n<l.length→mI l d n w h bH=some q→q.2.L.length+1≤hD l n - n
 | 0,_,_,_,_,_,_,h=>by cases h
 | d+1,n,w,h,bH,q,hn,hq=>by
   obtain ⟨x,_,_,hi,_⟩:=Dj hq
   obtain ⟨rs,z,h1,h2,h3⟩:=Fk (t:=q.2) (by rw [show lz _ _ _ _ _=tQ l (mI l d) n (ck l n w h) x from rfl,hi])
   obtain ⟨p1,p2⟩:=Lr hs hn
   have hl:=Hg (g:=fun m=>hD l m - m) h1 (fun m hm r hr=>xA hs d m _ _ _ r (oV hm).2.1 hr)
   have VM:=Ic (hD l) _ (n+1) (hD l n) p1 p2
   have:=(hs.uX hn).1
   rw [h3]
   simp -implicitDefEqProofs only [ql,qp]
   omega
theorem HJ (l:List Nd) (hs:iA l) (hb:l.length≤1000):∀ (d n:Nat) (w:Int) (h:Sz) (bH:Bool),n<l.length→l.length<n+d→aG Go.Proofs.Tryz.prog 30 [.rv (fD l),.rv (.int .i64 n),.rv (.int .i64 w),h.sv,.rv (.bool bH)] [] [] (jD (mI l d n w h bH))
 | 0,n,w,h,bH,hn,hd=>by omega
 | d+1,n,w,h,bH,hn,hd=>by
   refine TC l (by omega) n w h bH (tQ l (mI l d) n) (fun e x hq=>Fl hq) (fun x=>?_)
   refine TM l hb n x.w (mm (ck l n w h)) (ck l n w h) (fun m=>mI l d m x.w (mm (ck l n w h)) (bS l n).bH) (fun m hm q hq=>?_) (fun m hm=>?_)
   ·have:=xA hs d m _ _ _ q (oV hm).2.1 hq
    have:=(hs.uX (oV hm).2.1).2
    omega
   ·obtain ⟨h1,h2,h3⟩:=oV hm
    have:=hs.up m h1 h2
    exact HJ l hs hb d m _ _ _ h2 (by omega)
theorem HL (l:List Nd) (hs:iA l) (hb:l.length≤1000) (n:Int) (w:Int) (h:Sz) (bH:Bool):aG Go.Proofs.Tryz.prog 10 [.rv (fD l),.rv (.int .i64 n),.rv (.int .i64 w),h.sv,.rv (.bool bH)] [] [] (jD (pP l n w h bH)):=by
 refine bt Pz [.rv (fD l),.rv (.int .i64 n),.rv (.int .i64 w),h.sv,.rv (.bool bH)] _ (by simp) (by simp [aO,aW,bl,aQ,aY,aC.sv,Ln.sv,Nd.sv]) (fun K hK=>?_)
 have hm:=Cq l n
 have hw:=HM w h
 unfold pP at hK
 cases ja:gW l n with
 | false=>
   rw [ja] at hm
   simp -implicitDefEqProofs only [ja,Bool.false_and,Bool.false_eq_true,if_false] at hK
   conv in fc _ _ _ _=>reduce
   simp -implicitDefEqProofs only [Sz.sv,Sz.cells,go_sem,Int.reduceNegSucc]
   have aS:=hm;repeat' (first | (simp -implicitDefEqProofs only [go_sem,Int.reduceNegSucc]) | (with_reducible refine aA ?_) | (with_reducible first | refine ag aS ?_ | refine ah aS ?_) | ((first | refine ai (fun hg=>?_) (fun hg=>?_) | refine ay (fun hg=>?_) (fun hg=>?_) | refine az (fun hg=>?_) (fun hg=>?_)) <;> try simp -implicitDefEqProofs only [hg,Bool.not_true,Bool.not_false]) | ((with_reducible apply And.intro);focus (first | trivial | omega | decide | (simp -implicitDefEqProofs only [maxLen];omega) | (simp [maxLen,af,ak,an,ax,aj,av,au] <;> omega))) | fail)
   all_goals (refine (hK _ _ ?_).2;clear hK;simp -implicitDefEqProofs only [go_sem,Int.reduceNegSucc,aX,bg,bp,bq,aM,aK,aI,fN,bz,Option.map,Option.isSome] <;>(try simp_all [-Int.not_lt,-Int.not_le,aM,aK,aI,bG,fN,bz,Option.map,Option.isSome]) <;> try omega)
 | true=>
   rw [ja] at hm
   cases oh:jn w h with
   | false=>
     rw [oh] at hw
     simp -implicitDefEqProofs only [ja,oh,Bool.true_and,Bool.false_eq_true,if_false] at hK
     conv in fc _ _ _ _=>reduce
     simp -implicitDefEqProofs only [Sz.sv,Sz.cells,go_sem,Int.reduceNegSucc] at hw ⊢
     have y_2:=hm;have bA:=hw;repeat' (first | (simp -implicitDefEqProofs only [go_sem,Int.reduceNegSucc]) | (with_reducible refine aA ?_) | (with_reducible first | refine ag y_2 ?_ | refine ah y_2 ?_) | (with_reducible first | refine ag bA ?_ | refine ah bA ?_) | ((first | refine ai (fun hg=>?_) (fun hg=>?_) | refine ay (fun hg=>?_) (fun hg=>?_) | refine az (fun hg=>?_) (fun hg=>?_)) <;> try simp -implicitDefEqProofs only [hg,Bool.not_true,Bool.not_false]) | ((with_reducible apply And.intro);focus (first | trivial | omega | decide | (simp -implicitDefEqProofs only [maxLen];omega) | (simp [maxLen,af,ak,an,ax,aj,av,au] <;> omega))) | fail)
     all_goals (refine (hK _ _ ?_).2;clear hK;simp -implicitDefEqProofs only [go_sem,Int.reduceNegSucc,aX,bg,bp,bq,aM,aK,aI,fN,bz,Option.map,Option.isSome] <;>(try simp_all [-Int.not_lt,-Int.not_le,aM,aK,aI,bG,fN,bz,Option.map,Option.isSome]) <;> try omega)
   | true=>
     rw [oh] at hw
     simp -implicitDefEqProofs only [ja,oh,Bool.and_self,if_true] at hK
     have hin:gP l n=true:=by simp [gW] at ja;exact ja.1
     obtain ⟨k,rfl,hk⟩:=qi hin
     have hx:=HJ l hs hb (l.length+1) k w h bH hk (by omega)
     simp -implicitDefEqProofs only [Int.toNat_natCast] at hK
     generalize mI l (l.length+1) k w h bH=r at *
     simp -implicitDefEqProofs only [jD] at hx hK
     obtain ⟨u,hu,nt⟩:∃ u,fN (r.map (·.1))=u∧u.length=25:=⟨_,rfl,by cases r <;> rfl⟩
     obtain ⟨v,hv,hvl⟩:∃ v,bz (r.map (·.2))=v∧v.length=9:=⟨_,rfl,by cases r <;> rfl⟩
     rw [hu,hv] at hx hK
     have u1:(u.map SV.rv).drop 25=[]:=List.drop_of_length_le (by simp [nt])
     have u2:(u.map SV.rv).take 25=u.map SV.rv:=List.take_of_length_le (by simp [nt])
     have v1:(v.map SV.rv).drop 9=[]:=List.drop_of_length_le (by simp [hvl])
     have v2:(v.map SV.rv).take 9=v.map SV.rv:=List.take_of_length_le (by simp [hvl])
     conv in fc _ _ _ _=>reduce
     simp -implicitDefEqProofs only [Sz.sv,Sz.cells,go_sem,Int.reduceNegSucc] at hw hx ⊢
     have bF:=hm;have bJ:=hw;have bL:=hx;repeat' (first | (simp -implicitDefEqProofs only [go_sem,Int.reduceNegSucc,nt,hvl,u1,u2,v1,v2,List.length_map,List.append_nil]) | (with_reducible refine aA ?_) | (with_reducible first | refine ag bF ?_ | refine ah bF ?_) | (with_reducible first | refine ag bJ ?_ | refine ah bJ ?_) | (with_reducible first | refine ag bL ?_ | refine ah bL ?_) | ((first | refine ai (fun hg=>?_) (fun hg=>?_) | refine ay (fun hg=>?_) (fun hg=>?_) | refine az (fun hg=>?_) (fun hg=>?_)) <;> try simp -implicitDefEqProofs only [hg,Bool.not_true,Bool.not_false]) | ((with_reducible apply And.intro);focus (first | trivial | omega | decide | (simp -implicitDefEqProofs only [maxLen];omega) | (simp [maxLen,af,ak,an,ax,aj,av,au] <;> omega))) | fail)
     all_goals (refine (hK _ _ ?_).2;simp -implicitDefEqProofs only [go_sem,Int.reduceNegSucc,aX,bg,bp,bq,aM,aK,aI,ga,nt,hvl,u2,v2,List.length_map,List.drop_zero])
end Go.aJ

namespace Go.aJ
open Go
theorem Po:aT Go.Proofs.Tryz.prog 18 168 (fc Go.Proofs.Tryz.prog 18 168 [(.c 14 9 true),(.t 15)]) [(.c 14 9 true),(.t 15)]:=bn (by kernel_rfl)
def uc (l:List Nd) (n more:Int) (k:Nat):Bool:=decide (k≠0) && decide (bD l k=n) && (decide ((k:Int)=more) || iI l k)
def nw (l:List Nd) (n more:Int):List Nat:=(List.range l.length).filter (uc l n more)
theorem QE (l:List Nd) (n:Nat) (hn:n<l.length):nw l n (-1)=bK l n:=by
 unfold nw bK iE
 rw [if_pos (vM hn)]
 unfold hJ bC
 rw [List.filter_filter]
 refine List.filter_congr fun k hk=>?_
 unfold uc
 have:((k:Int) = -1)=False:=eq_false (by omega)
 simp -implicitDefEqProofs only [this,decide_false,Bool.false_or,Int.toNat_natCast]
 rw [Bool.and_comm]
 congr 1
 rw [Bool.eq_iff_iff];simp <;> try omega
def qS (h:Sz) (k n:Nat) (o:List Int) (c:List Ch) (L:List (Nat×Fm)):List (Option HB):=
 [some (.var (h.cells.map .rv)),some (.var xe),some (.var [.row 5 (2*k) n,.rv .cm,.rv (.int .i64 0),.rv (.int .i64 0),.rv (.int .i64 0),.rv (.int .i64 0),.rv (.int .i64 0),.rv (.bool false),.rv (.int .i64 0)]),
  some (.row 1 k (aN (aL o))),some (.row 8 k (aN (gC c))),some (.row 26 (2*k) (aN (gX L)))]
def yJ (h:Sz) (rs:List (Nat×Fm×La)):List (Option HB):=qS h rs.length (bQ rs).length (jg rs) (gD rs) (bQ rs)
theorem NF (h:Sz) (k n:Nat) (o:List Int) (c:List Ch) (L:List (Nat×Fm)):kX (mF 6) (qS h k n o c L):=
 ⟨kC,kC (rs:=bz none),⟨jx.2 (by decide),kC (rs:=[.cm,.int .i64 0,.int .i64 0,.int .i64 0,.int .i64 0,.int .i64 0,.bool false,.int .i64 0])⟩,iP,iP,iP,trivial⟩
theorem Ru (x:Nd):(x.cells.drop 42)[0]?=some (.bool x.s.bH):=rfl
theorem Ux (l:List Nd) (ht:fU l=true) (hb:l.length≤1000) (n:Nat) (hn:n<l.length) (more:Int) (w:Int) (h:Sz) (ot ob:Bool) (bx:Nat→Option (Fm×La)) (hlen:∀ m∈nw l n more,∀ q,bx m=some q→q.2.L.length≤1000)
 (hB:jn w h=true→∀ m∈nw l n more,aG Go.Proofs.Tryz.prog 11 [.rv (.sl 49 (bu l)),.rv (.int .i64 m),.rv (.int .i64 w),h.sv,.rv (.bool (bS l n).bH)] [] [] (jD (bx m))) :
 aG Go.Proofs.Tryz.prog 18 [.rv (.sl 49 (bu l)),.rv (.int .i64 n),.rv (.int .i64 more),.rv (.int .i64 w),h.sv,.rv (.bool ot),.rv (.bool ob)] [] [] (.aP [.agg ((bz (lz bx (nw l n more) (jn w h) ot ob).1).map .rv),.rv (.bool (lz bx (nw l n more) (jn w h) ot ob).2)]):=by
 refine bt Po [.rv (.sl 49 (bu l)),.rv (.int .i64 n),.rv (.int .i64 more),.rv (.int .i64 w),h.sv,.rv (.bool ot),.rv (.bool ob)] _ (by simp) (by simp [aO,aW,bl,aQ,aY,aC.sv,Ln.sv,Nd.sv]) (fun K hK=>?_)
 have hm:=HT w h
 have hl:=an l
 have Fg:=jf hn
 have jc:bS l n=(l[n]'hn).s:=by simp [bS,vM hn,hn]
 rw [jc] at hB
 unfold lz at hK
 cases hmay:jn w h with
 | false=>
   rw [hmay] at hm
   simp -implicitDefEqProofs only [hmay,Bool.false_eq_true,if_false] at hK
   conv in fc _ _ _ _=>reduce
   simp -implicitDefEqProofs only [Sz.sv,Sz.cells,go_sem,Int.reduceNegSucc] at hm ⊢
   have aS:=hm;repeat' (first | (simp -implicitDefEqProofs only [go_sem,Int.reduceNegSucc]) | (with_reducible refine aA ?_) | (with_reducible first | refine ag aS ?_ | refine ah aS ?_) | ((first | refine ai (fun hg=>?_) (fun hg=>?_) | refine ay (fun hg=>?_) (fun hg=>?_) | refine az (fun hg=>?_) (fun hg=>?_)) <;> try simp -implicitDefEqProofs only [hg,Bool.not_true,Bool.not_false]) | ((with_reducible apply And.intro);focus (first | trivial | omega | decide | (simp -implicitDefEqProofs only [maxLen];omega) | (simp [maxLen,af,ak,an,ax,aj,av,au] <;> omega))) | fail)
   all_goals (refine (hK _ _ ?_).2;clear hK;simp -implicitDefEqProofs only [go_sem,Int.reduceNegSucc,aX,bg,bp,bq,aM,aK,aI,bz] <;>(try simp_all [-Int.not_lt,-Int.not_le,aM,aK,aI,bG,bz]) <;> try omega)
 | true=>
   have hB:=hB hmay
   rw [hmay] at hm
   simp -implicitDefEqProofs only [hmay,if_true] at hK
   conv in fc _ _ _ _=>reduce
   simp -implicitDefEqProofs only [Sz.sv,Sz.cells,go_sem,Int.reduceNegSucc] at hm ⊢
   have y_2:=hm;repeat' (first | (simp -implicitDefEqProofs only [go_sem,Int.reduceNegSucc,hl]) | (with_reducible refine aA ?_) | (with_reducible first | refine ag y_2 ?_ | refine ah y_2 ?_) | ((first | refine ai (fun hg=>?_) (fun hg=>?_) | refine ay (fun hg=>?_) (fun hg=>?_) | refine az (fun hg=>?_) (fun hg=>?_)) <;> try simp -implicitDefEqProofs only [hg,Bool.not_true,Bool.not_false]) | ((with_reducible apply And.intro);focus (first | trivial | omega | decide | (simp -implicitDefEqProofs only [maxLen];omega) | (simp [maxLen,af,ak,an,ax,aj,av,au] <;> omega))) | fail)
   refine fG (ι:=Nat×List (Nat×Fm×La)) (fun q=>[(35,.rv (.int .i64 q.1)),(34,.rv (.int .i64 l.length)),(16,.ptr 2 0),(18,.row 3 q.2.length q.2.length),(17,.row 4 q.2.length q.2.length),(14,.ptr 1 0),(11,.ptr 0 0),(0,.rv (.sl 49 (bu l))),(1,.rv (.int .i64 n)),(2,.rv (.int .i64 more)),(3,.rv (.int .i64 w)),(5,.rv (.bool ot)),(6,.rv (.bool ob))]) (fun q=>yJ h q.2)
    (fun q=>q.1≤l.length∧q.2.length≤q.1∧(bQ q.2).length≤1001*q.2.length∧kH bx (nw l n more)=(kH bx (((List.range l.length).drop q.1).filter (uc l n more))).map (q.2 ++ ·)) (fun q=>l.length - q.1) (0,[]) ⟨Nat.zero_le _,Nat.zero_le _,by simp [bQ],by show kH bx (nw l n more)=(kH bx (nw l n more)).map _;cases hq:kH bx (nw l n more) <;> simp [hq]⟩
    ((qJ 18 1 0 rfl).trans ((qJ 17 8 0 rfl).trans ((tw 2 26 0 rfl rfl).trans (aZ (by simp [lk,aR]))))) (fun q hq K' hN hX hR=>?_)
   obtain ⟨k,rs⟩:=q
   obtain ⟨fI,hk2,tO,gO⟩:=hq
   dsimp at fI hk2 tO gO ⊢
   simp -implicitDefEqProofs only [yJ,qS,Sz.cells,go_sem,Int.reduceNegSucc]
   refine ai (fun hg=>?_) (fun hg=>?_)
   ·have aE:k<l.length:=by simp at hg;omega
    have wu:=fy (k:=k) (by omega)
    have Wc:=fy (k:=rs.length) (by omega)
    have hx:=jf aE
    have EV:bD l k=(l[k]'aE).parent:=(mR aE).symm
    have ja:=wH l ht k
    have vB:=HP l ht k
    have EC:(List.range l.length).drop k=k::(List.range l.length).drop (k+1):=by
     rw [List.drop_eq_getElem_cons (by simpa using aE)];simp
    rw [EC,List.filter_cons] at gO
    have hmem:uc l n more k=true→k∈nw l n more:=fun hp=>List.mem_filter.2 ⟨List.mem_range.2 aE,hp⟩
    have hpk:uc l n more k=(decide (k≠0) && decide ((l[k]'aE).parent=n) && (decide ((k:Int)=more) || (gW l k && !oE l k))):=by rw [← EV];rfl
    have x1:=ak (l[k]'aE)
    have x2:=lA (l[k]'aE)
    have y1:=ak (l[n]'hn)
    have y2:=Ru (l[n]'hn)
    generalize l[k]'aE=x at *
    generalize l[n]'hn=xn at *
    generalize gW l k=M at *
    generalize oE l k=O at *
    clear EV EC
    cases hp:uc l n more k with
    | false=>
      rw [hp] at gO hpk
      simp -implicitDefEqProofs only [Bool.false_eq_true,if_false] at gO
      have e4:k=0∨(k≠0∧x.parent≠n)∨(k≠0∧x.parent=n∧(k:Int)≠more∧M=false)∨(k≠0∧x.parent=n∧(k:Int)≠more∧M=true∧O=true):=by
       by_cases a:k=0
       ·exact .inl a
       by_cases b:x.parent=n
       ·by_cases c:(k:Int)=more
        ·simp [a,b,c] at hpk
        ·cases hM:M
         ·exact .inr (.inr (.inl ⟨a,b,c,rfl⟩))
         ·cases hO:O
          ·simp [a,b,c,hM,hO] at hpk
          ·exact .inr (.inr (.inr ⟨a,b,c,rfl,rfl⟩))
       ·exact .inr (.inl ⟨a,b⟩)
      have done:=hN (k+1,rs)
      rcases e4 with h0 | ⟨h0,h1⟩ | ⟨h0,h1,h2,h3⟩ | ⟨h0,h1,h2,h3,h4⟩
      ·have g0:(((k:Int)) == 0)=true:=by simp [h0]
       repeat' (first | (simp -implicitDefEqProofs only [go_sem,Int.reduceNegSucc,hl,hx,x1,x2,g0,List.length_drop,wu]) | (with_reducible refine aA ?_) | ((first | refine ai (fun hg=>?_) (fun hg=>?_) | refine ay (fun hg=>?_) (fun hg=>?_) | refine az (fun hg=>?_) (fun hg=>?_)) <;> try simp -implicitDefEqProofs only [hg,Bool.not_true,Bool.not_false]) | ((with_reducible apply And.intro);focus (first | trivial | omega | decide | (simp -implicitDefEqProofs only [maxLen];omega) | (simp [maxLen,af,ak,an,ax,aj,av,au] <;> omega))) | fail)
       exact done _ _ ⟨aE,by dsimp;omega,tO,gO⟩ (by dsimp;omega) (aZ (by simp [lk]))
      ·have g0:(((k:Int)) == 0)=false:=by simp [h0]
       have g1:(x.parent !=(n:Int))=true:=by simp [h1]
       repeat' (first | (simp -implicitDefEqProofs only [go_sem,Int.reduceNegSucc,hl,hx,x1,x2,g0,g1,List.length_drop,wu]) | (with_reducible refine aA ?_) | ((first | refine ai (fun hg=>?_) (fun hg=>?_) | refine ay (fun hg=>?_) (fun hg=>?_) | refine az (fun hg=>?_) (fun hg=>?_)) <;> try simp -implicitDefEqProofs only [hg,Bool.not_true,Bool.not_false]) | ((with_reducible apply And.intro);focus (first | trivial | omega | decide | (simp -implicitDefEqProofs only [maxLen];omega) | (simp [maxLen,af,ak,an,ax,aj,av,au] <;> omega))) | fail)
       exact done _ _ ⟨aE,by dsimp;omega,tO,gO⟩ (by dsimp;omega) (aZ (by simp [lk]))
      ·have g0:(((k:Int)) == 0)=false:=by simp [h0]
       have g1:(x.parent !=(n:Int))=false:=by simp [h1]
       have g2:((k:Int) != more)=true:=by simp [h2]
       rw [h3] at ja
       have bA:=ja;repeat' (first | (simp -implicitDefEqProofs only [go_sem,Int.reduceNegSucc,hl,hx,x1,x2,g0,g1,g2,List.length_drop,wu]) | (with_reducible refine aA ?_) | (with_reducible first | refine ag bA ?_ | refine ah bA ?_) | ((first | refine ai (fun hg=>?_) (fun hg=>?_) | refine ay (fun hg=>?_) (fun hg=>?_) | refine az (fun hg=>?_) (fun hg=>?_)) <;> try simp -implicitDefEqProofs only [hg,Bool.not_true,Bool.not_false]) | ((with_reducible apply And.intro);focus (first | trivial | omega | decide | (simp -implicitDefEqProofs only [maxLen];omega) | (simp [maxLen,af,ak,an,ax,aj,av,au] <;> omega))) | fail)
       exact done _ _ ⟨aE,by dsimp;omega,tO,gO⟩ (by dsimp;omega) (aZ (by simp [lk]))
      ·have g0:(((k:Int)) == 0)=false:=by simp [h0]
       have g1:(x.parent !=(n:Int))=false:=by simp [h1]
       have g2:((k:Int) != more)=true:=by simp [h2]
       rw [h3] at ja
       rw [h4] at vB
       have bF:=ja;have bJ:=vB;repeat' (first | (simp -implicitDefEqProofs only [go_sem,Int.reduceNegSucc,hl,hx,x1,x2,g0,g1,g2,List.length_drop,wu]) | (with_reducible refine aA ?_) | (with_reducible first | refine ag bF ?_ | refine ah bF ?_) | (with_reducible first | refine ag bJ ?_ | refine ah bJ ?_) | ((first | refine ai (fun hg=>?_) (fun hg=>?_) | refine ay (fun hg=>?_) (fun hg=>?_) | refine az (fun hg=>?_) (fun hg=>?_)) <;> try simp -implicitDefEqProofs only [hg,Bool.not_true,Bool.not_false]) | ((with_reducible apply And.intro);focus (first | trivial | omega | decide | (simp -implicitDefEqProofs only [maxLen];omega) | (simp [maxLen,af,ak,an,ax,aj,av,au] <;> omega))) | fail)
       exact done _ _ ⟨aE,by dsimp;omega,tO,gO⟩ (by dsimp;omega) (aZ (by simp [lk]))
    | true=>
      rw [hp] at gO hpk
      simp -implicitDefEqProofs only [if_true] at gO
      rw [kH] at gO
      have kD:=hB _ (hmem hp)
      have sA:=hlen _ (hmem hp)
      have Ba:k≠0∧x.parent=n∧∃ c:Bool,((k:Int) != more)=c∧(c=true→M=true∧O=false):=by
       simp at hpk
       refine ⟨hpk.1.1,hpk.1.2,_,rfl,fun hc=>?_⟩
       have:¬ (k:Int)=more:=by simpa using hc
       simpa [this] using hpk.2
      obtain ⟨h0,h1,c,g2,MH⟩:=Ba
      cases c
      case' true=>
       obtain ⟨hM,hO⟩:=MH rfl
       rw [hM] at ja
       rw [hO] at vB
      all_goals
       have g0:(((k:Int)) == 0)=false:=by simp [h0]
       have g1:(x.parent !=(n:Int))=false:=by simp [h1]
       cases oa:bx k with
       | none=>
         rw [oa] at kD gO
         simp -implicitDefEqProofs only [Option.map] at gO
         rw [gO] at hK
         simp -implicitDefEqProofs only [jD,fN,bz,Option.map,Option.isSome,List.map_cons,List.map_nil,Sz.sv,Sz.cells] at kD
         have bL:=ja;have bP:=vB;have bT:=kD;repeat' (first | (simp -implicitDefEqProofs only [go_sem,Int.reduceNegSucc,hl,hx,Fg,x1,x2,y1,y2,g0,g1,g2,List.length_drop,wu]) | (with_reducible refine aA ?_) | (with_reducible first | refine ag bL ?_ | refine ah bL ?_) | (with_reducible first | refine ag bP ?_ | refine ah bP ?_) | (with_reducible first | refine ag bT ?_ | refine ah bT ?_) | ((first | refine ai (fun hg=>?_) (fun hg=>?_) | refine ay (fun hg=>?_) (fun hg=>?_) | refine az (fun hg=>?_) (fun hg=>?_)) <;> try simp -implicitDefEqProofs only [hg,Bool.not_true,Bool.not_false]) | ((with_reducible apply And.intro);focus (first | trivial | omega | decide | (simp -implicitDefEqProofs only [maxLen];omega) | (simp [maxLen,af,ak,an,ax,aj,av,au] <;> omega))) | fail)
         refine hR _ _ (hK _ _ ?_).2
         simp -implicitDefEqProofs only [go_sem,Int.reduceNegSucc,aX,bg,bp,bq,aM,aK,aI,bz]
       | some q=>
         rw [oa] at kD gO
         obtain ⟨f,t⟩:=q
         have Be:=sA _ oa
         simp -implicitDefEqProofs only [Option.map_map] at gO
         have hrl:rs.length≤1000:=by omega
         have Bd:(bQ rs).length≤1001000:=by omega
         have hv:2*rs.length+1+1=2*(rs.length+1):=by omega
         have ho:=Gy (rs:=rs) (r:=(k,f,t))
         have hc:=Dq (rs:=rs) (r:=(k,f,t))
         have hls:bQ rs++[(k,f)]++t.L=bQ (rs++[(k,f,t)]):=by rw [CM];simp [ng]
         have Bq:(aL (jg rs)).take rs.length=aL (jg rs):=List.take_of_length_le (by rw [aj,ua];omega)
         have Br:(gC (gD rs)).take rs.length=gC (gD rs):=List.take_of_length_le (by rw [nS];simp [gD])
         have l1:(aL (jg rs)).length=rs.length:=by rw [aj,ua]
         have l2:(gC (gD rs)).length=rs.length:=by rw [nS];simp [gD]
         have l3:=mS (bQ rs)
         have l4:=mS t.L
         have l5:(gX (bQ rs++[(k,f)])).length=(bQ rs).length+1:=by rw [mS];simp
         simp only at Be
         simp -implicitDefEqProofs only [jD,fN,bz,Option.map,Option.isSome,Pl.cells,List.map_cons,List.map_nil,List.cons_append,List.nil_append,Sz.sv,Sz.cells] at kD
         have cq:=ja;have cu:=vB;have gf:=kD;repeat' (first | (simp -implicitDefEqProofs only [go_sem,Int.reduceNegSucc,hl,hx,Fg,x1,x2,y1,y2,g0,g1,g2,List.length_drop,Az,AA,Ej,Ay,Ei,Dt,CU,CV,CT,mw,Im,Io,Bq,Br,l1,l2,l3,l4,l5,wu,hv]) | (with_reducible refine aA ?_) | (with_reducible first | refine ag cq ?_ | refine ah cq ?_) | (with_reducible first | refine ag cu ?_ | refine ah cu ?_) | (with_reducible first | refine ag gf ?_ | refine ah gf ?_) | ((first | refine ai (fun hg=>?_) (fun hg=>?_) | refine ay (fun hg=>?_) (fun hg=>?_) | refine az (fun hg=>?_) (fun hg=>?_)) <;> try simp -implicitDefEqProofs only [hg,Bool.not_true,Bool.not_false]) | ((with_reducible apply And.intro);focus (first | trivial | omega | decide | (simp -implicitDefEqProofs only [maxLen];omega) | (simp [maxLen,af,ak,an,ax,aj,av,au] <;> omega) | (omega;done))) | fail)
         have hq:yJ h (rs++[(k,f,t)])=qS h (rs.length+1) ((bQ rs).length+1+t.L.length) (jg rs++[((bQ rs).length:Int)]) (gD rs++[f.child]) (bQ rs++[(k,f)]++t.L):=by
          unfold yJ
          rw [ho,hc,← hls]
          simp -implicitDefEqProofs only [List.length_append,List.length_cons,List.length_nil,Nat.zero_add]
         refine hN (k+1,rs++[(k,f,t)]) _ _ ⟨by dsimp;omega,by simp;omega,by dsimp;rw [← hls];simp;omega,?_⟩ (by dsimp;omega) ?_
         ·rw [gO]
          congr 1
          funext x
          simp
         ·dsimp
          rw [hq]
          exact nU (h':=qS h (rs.length+1) ((bQ rs).length+1+t.L.length) (jg rs++[((bQ rs).length:Int)]) (gD rs++[f.child]) (bQ rs++[(k,f)]++t.L)) (Nat.zero_le _) (NF _ _ _ _ _ _) (by simp [iw,lk,jT,jx,lY,qS])
   ·have aE:k=l.length:=by simp at hg;omega
    subst aE
    simp -implicitDefEqProofs only [go_sem,Int.reduceNegSucc]
    have EY:kH bx (nw l n more)=some rs:=by rw [gO,List.drop_of_length_le (by simp)];simp [kH]
    rw [EY] at hK
    clear gO EY
    refine hX _ _ _ ?_
    clear hN hX hR
    have hcl:(gD rs).length=rs.length:=by simp [gD]
    have hrl:rs.length≤1000:=by omega
    have hS:=Ut (gD rs) ot (by omega) 4 rs.length 6 (by decide)
    rw [hcl] at hS
    cases oo:js (gD rs) ot with
    | none=>
      rw [oo] at hS
      simp -implicitDefEqProofs only [oo] at hK
      have hv:=Cv ⟨0,0⟩
      simp -implicitDefEqProofs only [lP,kG,Option.isSome,Su.sv,Su.cells,List.map_cons,List.map_nil] at hS hv
      have gN:=hS;have ig:=hv;repeat' (first | (simp -implicitDefEqProofs only [go_sem,Int.reduceNegSucc]) | (with_reducible refine aA ?_) | (refine bR gN ?_ ?_ ?_;(focus (simp [aU,aB] <;> fail));(focus (simp [bh,aR] <;> fail))) | (refine cg gN ?_ ?_ ?_;(focus (simp [aU,aB] <;> fail));(focus (simp [bh,aR] <;> fail))) | (with_reducible first | refine ag ig ?_ | refine ah ig ?_) | ((first | refine ai (fun hg=>?_) (fun hg=>?_) | refine ay (fun hg=>?_) (fun hg=>?_) | refine az (fun hg=>?_) (fun hg=>?_)) <;> try simp -implicitDefEqProofs only [hg,Bool.not_true,Bool.not_false]) | ((with_reducible apply And.intro);focus (first | trivial | omega | decide | (simp -implicitDefEqProofs only [maxLen];omega) | (simp [maxLen,af,ak,an,ax,aj,av,au] <;> omega))) | fail)
      all_goals (refine (hK _ _ ?_).2;clear hK;simp -implicitDefEqProofs only [go_sem,Int.reduceNegSucc,aX,bg,bp,bq,aM,aK,aI,bz] <;>(try simp_all [-Int.not_lt,-Int.not_le,aM,aK,aI,bG,bz]) <;> try omega)
    | some q=>
      obtain ⟨p,ys⟩:=q
      rw [oo] at hS
      simp -implicitDefEqProofs only [oo] at hK
      have lI:=zy oo
      simp -implicitDefEqProofs only [List.length_nil,Nat.zero_add,hcl] at lI
      have hv:=Cv p.cur
      simp -implicitDefEqProofs only [lP,kG,lE,Option.isSome,Pl.cells,Su.sv,Su.cells,List.map_cons,List.map_nil] at hS hv
      cases qh:nL p.cur with
      | false=>
        rw [qh] at hv
        simp -implicitDefEqProofs only [qh,Bool.false_eq_true,if_false] at hK
        have ij:=hS;have iq:=hv;repeat' (first | (simp -implicitDefEqProofs only [go_sem,Int.reduceNegSucc]) | (with_reducible refine aA ?_) | (refine bR ij ?_ ?_ ?_;(focus (simp [aU,aB] <;> fail));(focus (simp [bh,aR] <;> fail))) | (refine cg ij ?_ ?_ ?_;(focus (simp [aU,aB] <;> fail));(focus (simp [bh,aR] <;> fail))) | (with_reducible first | refine ag iq ?_ | refine ah iq ?_) | ((first | refine ai (fun hg=>?_) (fun hg=>?_) | refine ay (fun hg=>?_) (fun hg=>?_) | refine az (fun hg=>?_) (fun hg=>?_)) <;> try simp -implicitDefEqProofs only [hg,Bool.not_true,Bool.not_false]) | ((with_reducible apply And.intro);focus (first | trivial | omega | decide | (simp -implicitDefEqProofs only [maxLen];omega) | (simp [maxLen,af,ak,an,ax,aj,av,au] <;> omega))) | fail)
        all_goals (refine (hK _ _ ?_).2;clear hK;simp -implicitDefEqProofs only [go_sem,Int.reduceNegSucc,aX,bg,bp,bq,aM,aK,aI,bz] <;>(try simp_all [-Int.not_lt,-Int.not_le,aM,aK,aI,bG,bz]) <;> try omega)
      | true=>
        rw [qh] at hv
        simp -implicitDefEqProofs only [qh,if_true] at hK
        have ir:=hS;have iu:=hv;repeat' (first | (simp -implicitDefEqProofs only [go_sem,Int.reduceNegSucc]) | (with_reducible refine aA ?_) | (refine bR ir ?_ ?_ ?_;(focus (simp [aU,aB] <;> fail));(focus (simp [bh,aR] <;> fail))) | (refine cg ir ?_ ?_ ?_;(focus (simp [aU,aB] <;> fail));(focus (simp [bh,aR] <;> fail))) | (with_reducible first | refine ag iu ?_ | refine ah iu ?_) | ((first | refine ai (fun hg=>?_) (fun hg=>?_) | refine ay (fun hg=>?_) (fun hg=>?_) | refine az (fun hg=>?_) (fun hg=>?_)) <;> try simp -implicitDefEqProofs only [hg,Bool.not_true,Bool.not_false]) | ((with_reducible apply And.intro);focus (first | trivial | omega | decide | (simp -implicitDefEqProofs only [maxLen];omega) | (simp [maxLen,af,ak,an,ax,aj,av,au] <;> omega))) | fail)
        have Bv:=aj ys
        have qg:=zj rs
        refine fG (ι:=Nat) (fun i=>[(127,.rv (.int .i64 i)),(126,.rv (.int .i64 rs.length)),(18,.row 3 rs.length rs.length),(16,.ptr 2 0),(23,.ptr 7 0),(25,.rv (.int .i64 (iN p.cur))),(14,.ptr 1 0),(11,.ptr 0 0),(6,.rv (.bool ob))])
         (fun i=>qS h rs.length (bQ rs).length (jg rs) (gD rs) (jq rs (ys.take i))++[some (.row 1 ys.length (aN (aL ys))),some (.var [.row 6 ys.length ys.length,.rv (.int .i64 p.iB),.rv (.int .i64 p.top.p),.rv (.int .i64 p.top.n),.rv (.int .i64 p.cur.p),.rv (.int .i64 p.cur.n),.rv (.bool p.lV)])])
         (fun i=>i≤rs.length) (fun i=>rs.length - i) 0 (Nat.zero_le _) (by rw [List.take_zero,qg];exact aZ (by simp [lk])) (fun i hi K' hN hX hR=>?_)
        simp -implicitDefEqProofs only [qS,Sz.cells,go_sem,Int.reduceNegSucc]
        refine ai (fun hg=>?_) (fun hg=>?_)
        ·have hi4:i<rs.length:=by simp at hg;omega
         have wu:=fy (k:=i) (by omega)
         have ho:=Gx hi4
         have Bh:=ua (rs:=rs)
         have hy:=ow (show i<ys.length by omega)
         have iR:=GO hi4 (show i<ys.length by omega)
         have jc:=GP hi4 (show i<ys.length by omega)
         have hlt:(bQ (rs.take i)).length<(bQ rs).length:=by
          have:=(wD rs ys i hi4 (by omega)).1
          have:=(List.getElem?_eq_some_iff.1 this).1
          rwa [qp] at this
         have gG:(gX (jq rs (ys.take i))).length=(bQ rs).length:=by rw [mS,qp]
         have fF:=aj (jg rs)
         have Cz:=Ie (rs[i].1,rs[i].2.1) ys[i]
         have vC:=GN (rs[i].1,rs[i].2.1)
         repeat' (first | (simp -implicitDefEqProofs only [go_sem,Int.reduceNegSucc,ho,hy,iR,jc,gG,fF,Bh,Cz,vC,wu,Bv]) | (with_reducible refine aA ?_) | ((first | refine ai (fun hg=>?_) (fun hg=>?_) | refine ay (fun hg=>?_) (fun hg=>?_) | refine az (fun hg=>?_) (fun hg=>?_)) <;> try simp -implicitDefEqProofs only [hg,Bool.not_true,Bool.not_false]) | ((with_reducible apply And.intro);focus (first | trivial | omega | decide | (simp -implicitDefEqProofs only [maxLen];omega) | (simp [maxLen,af,ak,an,ax,aj,av,au] <;> omega) | (omega;done))) | fail)
         exact hN (i+1) _ _ (by omega) (by omega) (aZ (by simp [lk]))
        ·have hi4:i=rs.length:=by simp at hg;omega
         have jd:ys.take i=ys:=List.take_of_length_le (by omega)
         rw [jd]
         clear jd hg
         simp -implicitDefEqProofs only [go_sem,Int.reduceNegSucc]
         refine hX _ _ _ ?_
         clear hN hX hR
         have hfit:=jM (ql rs (p,ys) ob).high
         have gG:(gX (jq rs ys)).length=(bQ rs).length:=by rw [mS,qp]
         simp -implicitDefEqProofs only [ql] at hfit hK
         have Lv:decide ((0:Int)<0)=false:=rfl
         cases iR:p.lV with
         | true=>
           simp -implicitDefEqProofs only [iR,if_true] at hfit hK
           have iJ:=hfit;repeat' (first | (simp -implicitDefEqProofs only [go_sem,Int.reduceNegSucc,iR,Lv]) | (with_reducible refine aA ?_) | (with_reducible first | refine ag iJ ?_ | refine ah iJ ?_) | ((first | refine ai (fun hg=>?_) (fun hg=>?_) | refine ay (fun hg=>?_) (fun hg=>?_) | refine az (fun hg=>?_) (fun hg=>?_)) <;> try simp -implicitDefEqProofs only [hg,Bool.not_true,Bool.not_false]) | ((with_reducible apply And.intro);focus (first | trivial | omega | decide | (simp -implicitDefEqProofs only [maxLen];omega) | (simp [maxLen,af,ak,an,ax,aj,av,au] <;> omega))) | fail)
           all_goals (refine (hK _ _ ?_).2;simp -implicitDefEqProofs only [go_sem,Int.reduceNegSucc,aX,bg,bp,bq,aM,aK,aI,bz,Pl.cells,iR])
           all_goals (refine ⟨pK rfl rfl (by rw [gG]) (ze _),pK rfl rfl (by rw [aj]) (kF _)⟩)
         | false=>
           cases mO:ob <;> simp -implicitDefEqProofs only [iR,mO,Bool.false_eq_true,if_true,if_false] at hfit hK
           case' false=>obtain ⟨A,hA⟩:∃ A,A=IntKind.i64.wrap (p.iB+iN p.cur):=⟨_,rfl⟩
           case' true=>obtain ⟨A,hA⟩:∃ A,A=p.iB:=⟨_,rfl⟩
           all_goals
            rw [← hA] at hfit hK
            by_cases hneg:0>A
            ·have g1:decide (A<0)=true:=decide_eq_true hneg
             rw [if_pos hneg] at hfit hK
             rw [hA] at g1
             have jN:=hfit;repeat' (first | (simp -implicitDefEqProofs only [go_sem,Int.reduceNegSucc,iR,mO,g1]) | (with_reducible refine aA ?_) | (with_reducible first | refine ag jN ?_ | refine ah jN ?_) | ((first | refine ai (fun hg=>?_) (fun hg=>?_) | refine ay (fun hg=>?_) (fun hg=>?_) | refine az (fun hg=>?_) (fun hg=>?_)) <;> try simp -implicitDefEqProofs only [hg,Bool.not_true,Bool.not_false]) | ((with_reducible apply And.intro);focus (first | trivial | omega | decide | (simp -implicitDefEqProofs only [maxLen];omega) | (simp [maxLen,af,ak,an,ax,aj,av,au] <;> omega))) | fail)
             all_goals (refine (hK _ _ ?_).2;simp -implicitDefEqProofs only [go_sem,Int.reduceNegSucc,aX,bg,bp,bq,aM,aK,aI,bz,Pl.cells,iR])
             all_goals (refine ⟨pK rfl rfl (by rw [gG]) (ze _),pK rfl rfl (by rw [aj]) (kF _)⟩)
            ·have g1:decide (A<0)=false:=decide_eq_false hneg
             rw [if_neg hneg] at hfit hK
             rw [hA] at g1 hfit hK
             have jO:=hfit;repeat' (first | (simp -implicitDefEqProofs only [go_sem,Int.reduceNegSucc,iR,mO,g1]) | (with_reducible refine aA ?_) | (with_reducible first | refine ag jO ?_ | refine ah jO ?_) | ((first | refine ai (fun hg=>?_) (fun hg=>?_) | refine ay (fun hg=>?_) (fun hg=>?_) | refine az (fun hg=>?_) (fun hg=>?_)) <;> try simp -implicitDefEqProofs only [hg,Bool.not_true,Bool.not_false]) | ((with_reducible apply And.intro);focus (first | trivial | omega | decide | (simp -implicitDefEqProofs only [maxLen];omega) | (simp [maxLen,af,ak,an,ax,aj,av,au] <;> omega))) | fail)
             all_goals (refine (hK _ _ ?_).2;simp -implicitDefEqProofs only [go_sem,Int.reduceNegSucc,aX,bg,bp,bq,aM,aK,aI,bz,Pl.cells,iR])
             all_goals (refine ⟨pK rfl rfl (by rw [gG]) (ze _),pK rfl rfl (by rw [aj]) (kF _)⟩)
end Go.aJ

namespace Go.aJ
open Go
theorem Pm:aT Go.Proofs.Tryz.prog 71 132 (fc Go.Proofs.Tryz.prog 71 132 [(.c 4 3 true),(.t 5)]) [(.c 4 3 true),(.t 5)]:=bn (by kernel_rfl)
theorem Pn:aT Go.Proofs.Tryz.prog 37 78 (fc Go.Proofs.Tryz.prog 37 78 [(.c 2 3 true),(.t 3)]) [(.c 2 3 true),(.t 3)]:=bn (by kernel_rfl)
def sg (i:Ai) (s:Sz):Ao:=if bN (iX i s).w=true then iX i s else ⟨0,0,0⟩
theorem Cw (i:Ai) (s:Sz) (hf:Fit i):aG Go.Proofs.Tryz.prog 71 [i.sv,s.sv] [] [] (.aP [.agg ((sg i s).cells.map .rv),.rv (.bool (mH i s))]):=by
 refine bt Pm [i.sv,s.sv] _ (by simp) (by simp [aO,aW,bl,aQ,aY,aC.sv,Ln.sv,Nd.sv]) (fun K hK=>?_)
 have o1:=oI i.left 0
 have o2:=oI i.right 0
 have o3:=oI ⟨false,bf i.left 0⟩ 0
 have o4:=oI ⟨false,bf i.right 0⟩ 0
 have q1:=iZ.1 hf.b
 have q2:=iZ.1 hf.a
 have q3:=iZ.1 hf.l
 have q4:=iZ.1 hf.r
 have n1:i.left.auto=false→i.left.n=bf i.left 0:=fun h=>(BY h 0).symm
 have n2:i.right.auto=false→i.right.n=bf i.right 0:=fun h=>(BY h 0).symm
 have e3:bf ⟨false,bf i.left 0⟩ 0=bf i.left 0:=rfl
 have e4:bf ⟨false,bf i.right 0⟩ 0=bf i.right 0:=rfl
 rw [e3] at o3
 rw [e4] at o4
 have fl:=hf.l
 have fr:=hf.r
 simp -implicitDefEqProofs only [sg,mH,iX] at hK
 obtain ⟨sa,W⟩:=s
 dsimp at hK
 cases hs:sa with
 | true=>
   simp -implicitDefEqProofs only [hs,if_true] at hK
   generalize bf i.left 0=L at *
   generalize bf i.right 0=R at *
   have w1:IntKind.i64.wrap (i.base - i.around)=i.base - i.around:=wrap_i64 (by omega) (by omega)
   have w2:IntKind.i64.wrap (i.base - i.around - L)=i.base - i.around - L:=wrap_i64 (by omega) (by omega)
   have w3:IntKind.i64.wrap (i.base - i.around - L - R)=i.base - i.around - L - R:=wrap_i64 (by omega) (by omega)
   have f1:=jM (i.base - i.around - L - R)
   rw [fl,fr] at hK
   simp -implicitDefEqProofs only [Bool.true_and,Bool.and_true] at hK
   conv in fc _ _ _ _=>reduce
   simp -implicitDefEqProofs only [Ai.sv,Ai.cells,Sz.sv,Sz.cells,go_sem,Int.reduceNegSucc]
   simp -implicitDefEqProofs only [Ai.cells,Ao.cells,Sz.sv,Sz.cells,List.map_cons,List.map_nil] at o1 o2 o3 o4 hK
   cases sx:bN (i.base - i.around - L - R) with
   | false=>
     rw [sx] at f1 hK
     simp -implicitDefEqProofs only [Bool.false_eq_true,if_false] at hK
     have aS:=o1;have y_2:=o2;have bA:=o3;have bF:=o4;have bJ:=f1;repeat' (first | (simp -implicitDefEqProofs only [go_sem,Int.reduceNegSucc,w1,w2,w3,hs]) | (with_reducible refine aA ?_) | (with_reducible first | refine ag aS ?_ | refine ah aS ?_) | (with_reducible first | refine ag y_2 ?_ | refine ah y_2 ?_) | (with_reducible first | refine ag bA ?_ | refine ah bA ?_) | (with_reducible first | refine ag bF ?_ | refine ah bF ?_) | (with_reducible first | refine ag bJ ?_ | refine ah bJ ?_) | ((first | refine ai (fun hg=>?_) (fun hg=>?_) | refine ay (fun hg=>?_) (fun hg=>?_) | refine az (fun hg=>?_) (fun hg=>?_)) <;> try simp -implicitDefEqProofs only [hg,Bool.not_true,Bool.not_false]) | ((with_reducible apply And.intro);focus (first | trivial | omega | decide | (simp -implicitDefEqProofs only [maxLen];omega) | (simp [maxLen,af,ak,an,ax,aj,av,au] <;> omega))) | fail)
     all_goals (refine (hK _ _ ?_).2;clear hK;simp -implicitDefEqProofs only [go_sem,Int.reduceNegSucc,aX,bg,bp,bq,aM,aK,aI] <;>(try simp_all [-Int.not_lt,-Int.not_le,aM,aK,aI,bG]) <;> try omega)
   | true=>
     rw [sx] at f1 hK
     simp -implicitDefEqProofs only [if_true] at hK
     obtain ⟨W,hW⟩:∃ W',W'=i.base - i.around - L - R:=⟨_,rfl⟩
     have q5:=iZ.1 sx
     have w4:IntKind.i64.wrap (L+i.around)=L+i.around:=wrap_i64 (by omega) (by omega)
     have w5:IntKind.i64.wrap (L+i.around+W)=L+i.around+W:=wrap_i64 (by omega) (by omega)
     have w6:IntKind.i64.wrap (L+i.around+W+R)=i.base:=by rw [wrap_i64 (by omega) (by omega)];omega
     have w7:IntKind.i64.wrap (i.base - i.around - W)=i.base - i.around - W:=wrap_i64 (by omega) (by omega)
     have w8:IntKind.i64.wrap (i.base - i.around - W - R)=L:=by rw [wrap_i64 (by omega) (by omega)];omega
     have w9:IntKind.i64.wrap (i.base - i.around - W - L)=R:=by rw [wrap_i64 (by omega) (by omega)];omega
     have g1:decide (i.base>i.base)=false:=decide_eq_false (by omega)
     have f2:=jM L
     have f3:=jM R
     rw [fl] at f2
     rw [fr] at f3
     replace w3:=w3.trans hW.symm
     rw [← hW] at f1 hK
     clear hW
     cases hr:i.bH
     all_goals ((have bL:=o1;have bP:=o2;have bT:=o3;have cq:=o4;have cu:=f1;have gf:=f2;have gN:=f3;repeat' (first | (simp -implicitDefEqProofs only [go_sem,Int.reduceNegSucc,w1,w2,w3,hs,w4,w5,w6,w7,w8,w9,g1,hr]) | (with_reducible refine aA ?_) | (with_reducible first | refine ag bL ?_ | refine ah bL ?_) | (with_reducible first | refine ag bP ?_ | refine ah bP ?_) | (with_reducible first | refine ag bT ?_ | refine ah bT ?_) | (with_reducible first | refine ag cq ?_ | refine ah cq ?_) | (with_reducible first | refine ag cu ?_ | refine ah cu ?_) | (with_reducible first | refine ag gf ?_ | refine ah gf ?_) | (with_reducible first | refine ag gN ?_ | refine ah gN ?_) | ((first | refine ai (fun hg=>?_) (fun hg=>?_) | refine ay (fun hg=>?_) (fun hg=>?_) | refine az (fun hg=>?_) (fun hg=>?_)) <;> try simp -implicitDefEqProofs only [hg,Bool.not_true,Bool.not_false]) | ((with_reducible apply And.intro);focus (first | trivial | omega | decide | (simp -implicitDefEqProofs only [maxLen];omega) | (simp [maxLen,af,ak,an,ax,aj,av,au] <;> omega))) | fail)))
     all_goals all_goals (refine (hK _ _ ?_).2;clear hK;simp -implicitDefEqProofs only [go_sem,Int.reduceNegSucc,aX,bg,bp,bq,aM,aK,aI] <;>(try simp_all [-Int.not_lt,-Int.not_le,aM,aK,aI,bG]) <;> try omega)
 | false=>
   simp -implicitDefEqProofs only [hs,Bool.false_eq_true,if_false] at hK
   simp -implicitDefEqProofs only [tW] at hK
   generalize bf i.left 0=L at *
   generalize bf i.right 0=R at *
   have f1:=jM W
   conv in fc _ _ _ _=>reduce
   simp -implicitDefEqProofs only [Ai.sv,Ai.cells,Sz.sv,Sz.cells,go_sem,Int.reduceNegSucc]
   simp -implicitDefEqProofs only [Ai.cells,Ao.cells,Sz.sv,Sz.cells,List.map_cons,List.map_nil] at o1 o2 o3 o4 hK
   cases sx:bN W with
   | false=>
     rw [sx] at f1 hK
     simp -implicitDefEqProofs only [Bool.false_eq_true,if_false,Bool.and_false,Bool.false_and] at hK
     have ig:=o1;have ij:=o2;have iq:=o3;have ir:=o4;have iu:=f1;repeat' (first | (simp -implicitDefEqProofs only [go_sem,Int.reduceNegSucc,hs]) | (with_reducible refine aA ?_) | (with_reducible first | refine ag ig ?_ | refine ah ig ?_) | (with_reducible first | refine ag ij ?_ | refine ah ij ?_) | (with_reducible first | refine ag iq ?_ | refine ah iq ?_) | (with_reducible first | refine ag ir ?_ | refine ah ir ?_) | (with_reducible first | refine ag iu ?_ | refine ah iu ?_) | ((first | refine ai (fun hg=>?_) (fun hg=>?_) | refine ay (fun hg=>?_) (fun hg=>?_) | refine az (fun hg=>?_) (fun hg=>?_)) <;> try simp -implicitDefEqProofs only [hg,Bool.not_true,Bool.not_false]) | ((with_reducible apply And.intro);focus (first | trivial | omega | decide | (simp -implicitDefEqProofs only [maxLen];omega) | (simp [maxLen,af,ak,an,ax,aj,av,au] <;> omega))) | fail)
     all_goals (refine (hK _ _ ?_).2;clear hK;simp -implicitDefEqProofs only [go_sem,Int.reduceNegSucc,aX,bg,bp,bq,aM,aK,aI] <;>(try simp_all [-Int.not_lt,-Int.not_le,aM,aK,aI,bG]) <;> try omega)
   | true=>
     rw [sx] at f1 hK
     simp -implicitDefEqProofs only [if_true,Bool.and_true] at hK
     have q5:=iZ.1 sx
     have w1:IntKind.i64.wrap (i.base - i.around)=i.base - i.around:=wrap_i64 (by omega) (by omega)
     have w4:IntKind.i64.wrap (L+i.around)=L+i.around:=wrap_i64 (by omega) (by omega)
     have w5:IntKind.i64.wrap (L+i.around+W)=L+i.around+W:=wrap_i64 (by omega) (by omega)
     have w6:IntKind.i64.wrap (L+i.around+W+R)=L+i.around+W+R:=by rw [wrap_i64 (by omega) (by omega)]
     have w7:IntKind.i64.wrap (i.base - i.around - W)=i.base - i.around - W:=wrap_i64 (by omega) (by omega)
     have w8:IntKind.i64.wrap (i.base - i.around - W - R)=i.base - i.around - W - R:=wrap_i64 (by omega) (by omega)
     have w9:IntKind.i64.wrap (i.base - i.around - W - L)=i.base - i.around - W - L:=wrap_i64 (by omega) (by omega)
     have h5:=Ue (i.base - i.around - W) (by omega) (by omega)
     have Vh:IntKind.i64.wrap (i.base - i.around - W - (i.base - i.around - W) / 2)=i.base - i.around - W - (i.base - i.around - W) / 2:=wrap_i64 (by omega) (by omega)
     have yD:(i.base - i.around - W - L - R<0)↔(L+i.around+W+R>i.base):=by omega
     simp -implicitDefEqProofs only [yD] at hK
     have f2:=jM (L)
     have f3:=jM (R)
     have f4:=jM ((i.base - i.around - W) / 2)
     have f5:=jM (i.base - i.around - W - (i.base - i.around - W) / 2)
     have f6:=jM (i.base - i.around - W - R)
     have f7:=jM (i.base - i.around - W - L)
     cases hl:i.left.auto <;> cases hr:i.right.auto <;> cases ht:i.bH <;> simp -implicitDefEqProofs only [hl,hr,ht,true_implies,Bool.false_eq_true,reduceCtorEq,false_implies] at o1 o2 n1 n2 hK ⊢ <;> by_cases EF:L+i.around+W+R>i.base <;> simp -implicitDefEqProofs only [EF,decide_true,decide_false,not_true_eq_false,not_false_eq_true,false_and,true_and,and_true,and_self,false_or,true_or,or_false,or_true,if_true,if_false,and_false] at hK ⊢
     all_goals (try rw [n1] at o1)
     all_goals (try rw [n2] at o2)
     all_goals ((have iJ:=o1;have jN:=o2;have jO:=o3;have kW:=o4;have oK:=f1;have oL:=h5;have rD:=f2;have rE:=f3;have rF:=f4;have rG:=f5;have rH:=f6;have rI:=f7;repeat' (first | (simp -implicitDefEqProofs only [go_sem,Int.reduceNegSucc,hs,w1,w4,w5,w6,w7,w8,w9,Vh,EF,decide_true,decide_false,n1,n2]) | (with_reducible refine aA ?_) | (with_reducible first | refine ag iJ ?_ | refine ah iJ ?_) | (with_reducible first | refine ag jN ?_ | refine ah jN ?_) | (with_reducible first | refine ag jO ?_ | refine ah jO ?_) | (with_reducible first | refine ag kW ?_ | refine ah kW ?_) | (with_reducible first | refine ag oK ?_ | refine ah oK ?_) | (with_reducible first | refine ag oL ?_ | refine ah oL ?_) | (with_reducible first | refine ag rD ?_ | refine ah rD ?_) | (with_reducible first | refine ag rE ?_ | refine ah rE ?_) | (with_reducible first | refine ag rF ?_ | refine ah rF ?_) | (with_reducible first | refine ag rG ?_ | refine ah rG ?_) | (with_reducible first | refine ag rH ?_ | refine ah rH ?_) | (with_reducible first | refine ag rI ?_ | refine ah rI ?_) | ((first | refine ai (fun hg=>?_) (fun hg=>?_) | refine ay (fun hg=>?_) (fun hg=>?_) | refine az (fun hg=>?_) (fun hg=>?_)) <;> try simp -implicitDefEqProofs only [hg,Bool.not_true,Bool.not_false]) | ((with_reducible apply And.intro);focus (first | trivial | omega | decide | (simp -implicitDefEqProofs only [maxLen];omega) | (simp [maxLen,af,ak,an,ax,aj,av,au] <;> omega))) | fail)))
     all_goals all_goals (refine (hK _ _ ?_).2;clear hK;simp -implicitDefEqProofs only [go_sem,Int.reduceNegSucc,aX,bg,bp,bq,aM,aK,aI] <;>(try simp_all [-Int.not_lt,-Int.not_le,aM,aK,aI,bG]) <;> try omega)
end Go.aJ

namespace Go.aJ
open Go
theorem AD {i:Ai} {s:Sz} (h:mH i s=true):sg i s=iX i s:=by
 simp -implicitDefEqProofs only [mH,Bool.and_eq_true] at h
 simp [sg,h.1.2]
theorem Uv (i:Ai):aG Go.Proofs.Tryz.prog 37 [i.sv] [] [] (.aP [.agg ((ic (mY i)).cells.map .rv),.rv (.bool (mY i).isSome)]):=by
 refine bt Pn [i.sv] _ (by simp) (by simp [aO,aW,bl,aQ,aY,aC.sv,Ln.sv,Nd.sv]) (fun K hK=>?_)
 have o1:=oI i.left 0
 have o2:=oI i.wide 0
 have o3:=oI i.right 0
 have f1:=jM i.base
 have f2:=jM i.around
 have f3:=jM (bf i.left 0)
 have f4:=jM (bf i.wide 0)
 have f5:=jM (bf i.right 0)
 cases h5:rZ i with
 | true=>
   obtain ⟨hF,hw⟩:=Ee h5
   have a0:=Cw i i.wide hF
   have a1:=Cw i ⟨false,i.most⟩ hF
   have a2:=Cw i ⟨false,i.least⟩ hF
   rw [hF.b] at f1
   rw [hF.a] at f2
   rw [hF.l] at f3
   rw [hw] at f4
   rw [hF.r] at f5
   simp -implicitDefEqProofs only [mY,h5,if_true,uI,rB] at hK
   simp -implicitDefEqProofs only [Ao.cells,Ai.sv,Ai.cells,Sz.sv,Sz.cells,List.map_cons,List.map_nil] at a0 a1 a2 o1 o2 o3
   conv in fc _ _ _ _=>reduce
   simp -implicitDefEqProofs only [Ai.sv,Ai.cells,Sz.sv,Sz.cells,go_sem,Int.reduceNegSucc]
   have aS:=o1;have y_2:=o2;have bA:=o3;repeat' (first | (simp -implicitDefEqProofs only [go_sem,Int.reduceNegSucc]) | (with_reducible refine aA ?_) | (with_reducible first | refine ag aS ?_ | refine ah aS ?_) | (with_reducible first | refine ag y_2 ?_ | refine ah y_2 ?_) | (with_reducible first | refine ag bA ?_ | refine ah bA ?_) | ((first | refine ai (fun hg=>?_) (fun hg=>?_) | refine ay (fun hg=>?_) (fun hg=>?_) | refine az (fun hg=>?_) (fun hg=>?_)) <;> try simp -implicitDefEqProofs only [hg,Bool.not_true,Bool.not_false]) | ((with_reducible apply And.intro);focus (first | trivial | omega | decide | (simp -implicitDefEqProofs only [maxLen];omega) | (simp [maxLen,af,ak,an,ax,aj,av,au] <;> omega))) | fail)
   refine jV 6 ?_
   have bF:=f1;have bJ:=f2;have bL:=f3;have bP:=f4;have bT:=f5;repeat' (first | (simp -implicitDefEqProofs only [go_sem,Int.reduceNegSucc,ke,kf,kg,ki,kj,kk,jR,Int.reduceLT,decide_true,decide_false,Int.reduceToNat,Nat.reduceMul]) | (with_reducible refine aA ?_) | (with_reducible show G _ _ (It.l _ _::_) _ _ _;refine jU ?_) | (with_reducible first | refine ag bF ?_ | refine ah bF ?_) | (with_reducible first | refine ag bJ ?_ | refine ah bJ ?_) | (with_reducible first | refine ag bL ?_ | refine ah bL ?_) | (with_reducible first | refine ag bP ?_ | refine ah bP ?_) | (with_reducible first | refine ag bT ?_ | refine ah bT ?_) | ((first | refine ai (fun hg=>?_) (fun hg=>?_) | refine ay (fun hg=>?_) (fun hg=>?_) | refine az (fun hg=>?_) (fun hg=>?_)) <;> try simp -implicitDefEqProofs only [hg,Bool.not_true,Bool.not_false]) | ((with_reducible apply And.intro);focus (first | trivial | omega | decide | (simp -implicitDefEqProofs only [maxLen];omega) | (simp [maxLen,af,ak,an,ax,aj,av,au] <;> omega))) | fail)
   have i0:=@AD i i.wide
   have i1:=@AD i ⟨false,i.most⟩
   have i2:=@AD i ⟨false,i.least⟩
   generalize sg i i.wide=V0 at *
   generalize sg i ⟨false,i.most⟩=V1 at *
   generalize sg i ⟨false,i.least⟩=V2 at *
   cases k0:mH i i.wide with
   | false=>
     rw [k0] at a0
     simp -implicitDefEqProofs only [k0,Bool.false_eq_true,if_false] at hK
     have cq:=a0;have cu:=a1;have gf:=a2;repeat' (first | (simp -implicitDefEqProofs only [go_sem,Int.reduceNegSucc]) | (with_reducible refine aA ?_) | (with_reducible first | refine ag cq ?_ | refine ah cq ?_) | (with_reducible first | refine ag cu ?_ | refine ah cu ?_) | (with_reducible first | refine ag gf ?_ | refine ah gf ?_) | ((first | refine ai (fun hg=>?_) (fun hg=>?_) | refine ay (fun hg=>?_) (fun hg=>?_) | refine az (fun hg=>?_) (fun hg=>?_)) <;> try simp -implicitDefEqProofs only [hg,Bool.not_true,Bool.not_false]) | ((with_reducible apply And.intro);focus (first | trivial | omega | decide | (simp -implicitDefEqProofs only [maxLen];omega) | (simp [maxLen,af,ak,an,ax,aj,av,au] <;> omega))) | fail)
     all_goals (refine (hK _ _ ?_).2;clear hK;simp -implicitDefEqProofs only [go_sem,Int.reduceNegSucc,aX,bg,bp,bq,aM,aK,aI,Ao.cells,ic] <;>(try simp_all [-Int.not_lt,-Int.not_le,aM,aK,aI,bG,Ao.cells,ic]) <;> try omega)
   | true=>
     rw [k0] at a0
     have j0:=i0 k0
     simp -implicitDefEqProofs only [k0,if_true,Option.bind,← j0] at hK
     by_cases m0:V0.w>i.most
     ·have g0:decide (V0.w>i.most)=true:=decide_eq_true m0
      simp -implicitDefEqProofs only [g0,if_true] at hK
      cases k1:mH i ⟨false,i.most⟩ with
      | false=>
        rw [k1] at a1
        simp -implicitDefEqProofs only [k1,Bool.false_eq_true,if_false] at hK
        have gN:=a0;have ig:=a1;have ij:=a2;repeat' (first | (simp -implicitDefEqProofs only [go_sem,Int.reduceNegSucc,g0]) | (with_reducible refine aA ?_) | (with_reducible first | refine ag gN ?_ | refine ah gN ?_) | (with_reducible first | refine ag ig ?_ | refine ah ig ?_) | (with_reducible first | refine ag ij ?_ | refine ah ij ?_) | ((first | refine ai (fun hg=>?_) (fun hg=>?_) | refine ay (fun hg=>?_) (fun hg=>?_) | refine az (fun hg=>?_) (fun hg=>?_)) <;> try simp -implicitDefEqProofs only [hg,Bool.not_true,Bool.not_false]) | ((with_reducible apply And.intro);focus (first | trivial | omega | decide | (simp -implicitDefEqProofs only [maxLen];omega) | (simp [maxLen,af,ak,an,ax,aj,av,au] <;> omega))) | fail)
        all_goals (refine (hK _ _ ?_).2;clear hK;simp -implicitDefEqProofs only [go_sem,Int.reduceNegSucc,aX,bg,bp,bq,aM,aK,aI,Ao.cells,ic] <;>(try simp_all [-Int.not_lt,-Int.not_le,aM,aK,aI,bG,Ao.cells,ic]) <;> try omega)
      | true=>
        rw [k1] at a1
        have j1:=i1 k1
        simp -implicitDefEqProofs only [k1,if_true,Option.bind,← j1] at hK
        by_cases m1:V1.w<i.least
        ·have g1:decide (V1.w<i.least)=true:=decide_eq_true m1
         simp -implicitDefEqProofs only [rB,g1,if_true] at hK
         cases k2:mH i ⟨false,i.least⟩ with
         | false=>
           rw [k2] at a2
           simp -implicitDefEqProofs only [k2,Bool.false_eq_true,if_false] at hK
           have iq:=a0;have ir:=a1;have iu:=a2;repeat' (first | (simp -implicitDefEqProofs only [go_sem,Int.reduceNegSucc,g0,g1]) | (with_reducible refine aA ?_) | (with_reducible first | refine ag iq ?_ | refine ah iq ?_) | (with_reducible first | refine ag ir ?_ | refine ah ir ?_) | (with_reducible first | refine ag iu ?_ | refine ah iu ?_) | ((first | refine ai (fun hg=>?_) (fun hg=>?_) | refine ay (fun hg=>?_) (fun hg=>?_) | refine az (fun hg=>?_) (fun hg=>?_)) <;> try simp -implicitDefEqProofs only [hg,Bool.not_true,Bool.not_false]) | ((with_reducible apply And.intro);focus (first | trivial | omega | decide | (simp -implicitDefEqProofs only [maxLen];omega) | (simp [maxLen,af,ak,an,ax,aj,av,au] <;> omega))) | fail)
           all_goals (refine (hK _ _ ?_).2;clear hK;simp -implicitDefEqProofs only [go_sem,Int.reduceNegSucc,aX,bg,bp,bq,aM,aK,aI,Ao.cells,ic] <;>(try simp_all [-Int.not_lt,-Int.not_le,aM,aK,aI,bG,Ao.cells,ic]) <;> try omega)
         | true=>
           rw [k2] at a2
           have j2:=i2 k2
           simp -implicitDefEqProofs only [k2,if_true,← j2] at hK
           have iJ:=a0;have jN:=a1;have jO:=a2;repeat' (first | (simp -implicitDefEqProofs only [go_sem,Int.reduceNegSucc,g0,g1]) | (with_reducible refine aA ?_) | (with_reducible first | refine ag iJ ?_ | refine ah iJ ?_) | (with_reducible first | refine ag jN ?_ | refine ah jN ?_) | (with_reducible first | refine ag jO ?_ | refine ah jO ?_) | ((first | refine ai (fun hg=>?_) (fun hg=>?_) | refine ay (fun hg=>?_) (fun hg=>?_) | refine az (fun hg=>?_) (fun hg=>?_)) <;> try simp -implicitDefEqProofs only [hg,Bool.not_true,Bool.not_false]) | ((with_reducible apply And.intro);focus (first | trivial | omega | decide | (simp -implicitDefEqProofs only [maxLen];omega) | (simp [maxLen,af,ak,an,ax,aj,av,au] <;> omega))) | fail)
           all_goals (refine (hK _ _ ?_).2;clear hK;simp -implicitDefEqProofs only [go_sem,Int.reduceNegSucc,aX,bg,bp,bq,aM,aK,aI,Ao.cells,ic] <;>(try simp_all [-Int.not_lt,-Int.not_le,aM,aK,aI,bG,Ao.cells,ic]) <;> try omega)
        ·have g1:decide (V1.w<i.least)=false:=decide_eq_false m1
         simp -implicitDefEqProofs only [rB,g1,Bool.false_eq_true,if_false] at hK
         have kW:=a0;have oK:=a1;have oL:=a2;repeat' (first | (simp -implicitDefEqProofs only [go_sem,Int.reduceNegSucc,g0,g1]) | (with_reducible refine aA ?_) | (with_reducible first | refine ag kW ?_ | refine ah kW ?_) | (with_reducible first | refine ag oK ?_ | refine ah oK ?_) | (with_reducible first | refine ag oL ?_ | refine ah oL ?_) | ((first | refine ai (fun hg=>?_) (fun hg=>?_) | refine ay (fun hg=>?_) (fun hg=>?_) | refine az (fun hg=>?_) (fun hg=>?_)) <;> try simp -implicitDefEqProofs only [hg,Bool.not_true,Bool.not_false]) | ((with_reducible apply And.intro);focus (first | trivial | omega | decide | (simp -implicitDefEqProofs only [maxLen];omega) | (simp [maxLen,af,ak,an,ax,aj,av,au] <;> omega))) | fail)
         all_goals (refine (hK _ _ ?_).2;clear hK;simp -implicitDefEqProofs only [go_sem,Int.reduceNegSucc,aX,bg,bp,bq,aM,aK,aI,Ao.cells,ic] <;>(try simp_all [-Int.not_lt,-Int.not_le,aM,aK,aI,bG,Ao.cells,ic]) <;> try omega)
     ·have g0:decide (V0.w>i.most)=false:=decide_eq_false m0
      simp -implicitDefEqProofs only [g0,Bool.false_eq_true,if_false,Option.bind] at hK
      by_cases m1:V0.w<i.least
      ·have g1:decide (V0.w<i.least)=true:=decide_eq_true m1
       simp -implicitDefEqProofs only [rB,g1,if_true] at hK
       cases k2:mH i ⟨false,i.least⟩ with
       | false=>
         rw [k2] at a2
         simp -implicitDefEqProofs only [k2,Bool.false_eq_true,if_false] at hK
         have rD:=a0;have rE:=a1;have rF:=a2;repeat' (first | (simp -implicitDefEqProofs only [go_sem,Int.reduceNegSucc,g0,g1]) | (with_reducible refine aA ?_) | (with_reducible first | refine ag rD ?_ | refine ah rD ?_) | (with_reducible first | refine ag rE ?_ | refine ah rE ?_) | (with_reducible first | refine ag rF ?_ | refine ah rF ?_) | ((first | refine ai (fun hg=>?_) (fun hg=>?_) | refine ay (fun hg=>?_) (fun hg=>?_) | refine az (fun hg=>?_) (fun hg=>?_)) <;> try simp -implicitDefEqProofs only [hg,Bool.not_true,Bool.not_false]) | ((with_reducible apply And.intro);focus (first | trivial | omega | decide | (simp -implicitDefEqProofs only [maxLen];omega) | (simp [maxLen,af,ak,an,ax,aj,av,au] <;> omega))) | fail)
         all_goals (refine (hK _ _ ?_).2;clear hK;simp -implicitDefEqProofs only [go_sem,Int.reduceNegSucc,aX,bg,bp,bq,aM,aK,aI,Ao.cells,ic] <;>(try simp_all [-Int.not_lt,-Int.not_le,aM,aK,aI,bG,Ao.cells,ic]) <;> try omega)
       | true=>
         rw [k2] at a2
         have j2:=i2 k2
         simp -implicitDefEqProofs only [k2,if_true,← j2] at hK
         have rG:=a0;have rH:=a1;have rI:=a2;repeat' (first | (simp -implicitDefEqProofs only [go_sem,Int.reduceNegSucc,g0,g1]) | (with_reducible refine aA ?_) | (with_reducible first | refine ag rG ?_ | refine ah rG ?_) | (with_reducible first | refine ag rH ?_ | refine ah rH ?_) | (with_reducible first | refine ag rI ?_ | refine ah rI ?_) | ((first | refine ai (fun hg=>?_) (fun hg=>?_) | refine ay (fun hg=>?_) (fun hg=>?_) | refine az (fun hg=>?_) (fun hg=>?_)) <;> try simp -implicitDefEqProofs only [hg,Bool.not_true,Bool.not_false]) | ((with_reducible apply And.intro);focus (first | trivial | omega | decide | (simp -implicitDefEqProofs only [maxLen];omega) | (simp [maxLen,af,ak,an,ax,aj,av,au] <;> omega))) | fail)
         all_goals (refine (hK _ _ ?_).2;clear hK;simp -implicitDefEqProofs only [go_sem,Int.reduceNegSucc,aX,bg,bp,bq,aM,aK,aI,Ao.cells,ic] <;>(try simp_all [-Int.not_lt,-Int.not_le,aM,aK,aI,bG,Ao.cells,ic]) <;> try omega)
      ·have g1:decide (V0.w<i.least)=false:=decide_eq_false m1
       simp -implicitDefEqProofs only [rB,g1,Bool.false_eq_true,if_false] at hK
       have wR:=a0;have wS:=a1;have wT:=a2;repeat' (first | (simp -implicitDefEqProofs only [go_sem,Int.reduceNegSucc,g0,g1]) | (with_reducible refine aA ?_) | (with_reducible first | refine ag wR ?_ | refine ah wR ?_) | (with_reducible first | refine ag wS ?_ | refine ah wS ?_) | (with_reducible first | refine ag wT ?_ | refine ah wT ?_) | ((first | refine ai (fun hg=>?_) (fun hg=>?_) | refine ay (fun hg=>?_) (fun hg=>?_) | refine az (fun hg=>?_) (fun hg=>?_)) <;> try simp -implicitDefEqProofs only [hg,Bool.not_true,Bool.not_false]) | ((with_reducible apply And.intro);focus (first | trivial | omega | decide | (simp -implicitDefEqProofs only [maxLen];omega) | (simp [maxLen,af,ak,an,ax,aj,av,au] <;> omega))) | fail)
       all_goals (refine (hK _ _ ?_).2;clear hK;simp -implicitDefEqProofs only [go_sem,Int.reduceNegSucc,aX,bg,bp,bq,aM,aK,aI,Ao.cells,ic] <;>(try simp_all [-Int.not_lt,-Int.not_le,aM,aK,aI,bG,Ao.cells,ic]) <;> try omega)
 | false=>
   simp -implicitDefEqProofs only [mY,h5,Bool.false_eq_true,if_false] at hK
   simp -implicitDefEqProofs only [Ai.sv,Ai.cells,Sz.sv,Sz.cells,List.map_cons,List.map_nil] at o1 o2 o3
   conv in fc _ _ _ _=>reduce
   simp -implicitDefEqProofs only [Ai.sv,Ai.cells,Sz.sv,Sz.cells,go_sem,Int.reduceNegSucc]
   have wU:=o1;have wV:=o2;have wW:=o3;repeat' (first | (simp -implicitDefEqProofs only [go_sem,Int.reduceNegSucc]) | (with_reducible refine aA ?_) | (with_reducible first | refine ag wU ?_ | refine ah wU ?_) | (with_reducible first | refine ag wV ?_ | refine ah wV ?_) | (with_reducible first | refine ag wW ?_ | refine ah wW ?_) | ((first | refine ai (fun hg=>?_) (fun hg=>?_) | refine ay (fun hg=>?_) (fun hg=>?_) | refine az (fun hg=>?_) (fun hg=>?_)) <;> try simp -implicitDefEqProofs only [hg,Bool.not_true,Bool.not_false]) | ((with_reducible apply And.intro);focus (first | trivial | omega | decide | (simp -implicitDefEqProofs only [maxLen];omega) | (simp [maxLen,af,ak,an,ax,aj,av,au] <;> omega))) | fail)
   refine jV 6 ?_
   have wX:=f1;have wY:=f2;have wZ:=f3;have xb:=f4;have xd:=f5;repeat' (first | (simp -implicitDefEqProofs only [go_sem,Int.reduceNegSucc,ke,kf,kg,ki,kj,kk,jR,Int.reduceLT,decide_true,decide_false,Int.reduceToNat,Nat.reduceMul]) | (with_reducible refine aA ?_) | (with_reducible show G _ _ (It.l _ _::_) _ _ _;refine jU ?_) | (with_reducible first | refine ag wX ?_ | refine ah wX ?_) | (with_reducible first | refine ag wY ?_ | refine ah wY ?_) | (with_reducible first | refine ag wZ ?_ | refine ah wZ ?_) | (with_reducible first | refine ag xb ?_ | refine ah xb ?_) | (with_reducible first | refine ag xd ?_ | refine ah xd ?_) | ((first | refine ai (fun hg=>?_) (fun hg=>?_) | refine ay (fun hg=>?_) (fun hg=>?_) | refine az (fun hg=>?_) (fun hg=>?_)) <;> try simp -implicitDefEqProofs only [hg,Bool.not_true,Bool.not_false]) | ((with_reducible apply And.intro);focus (first | trivial | omega | decide | (simp -implicitDefEqProofs only [maxLen];omega) | (simp [maxLen,af,ak,an,ax,aj,av,au] <;> omega))) | fail)
   all_goals first | (exfalso;simp_all [rZ];done) | skip
   all_goals (refine (hK _ _ ?_).2;clear hK;simp -implicitDefEqProofs only [go_sem,Int.reduceNegSucc,aX,bg,bp,bq,aM,aK,aI,Ao.cells,ic] <;>(try simp_all [-Int.not_lt,-Int.not_le,aM,aK,aI,bG,Ao.cells,ic]) <;> try omega)
end Go.aJ
