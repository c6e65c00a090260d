/- Part 4 of the proof: EngZf, F4, F5, F6, G4b, G5, G6, F7, F8, F9, G8, G8b, F10, EngZg, F9i, F11, F12, G9, G7, G7b. -/
import Derived.Test.YtnaoehbodmiekaaGreatPlaceTells3
import Derived.Shelf.Spec.SlicesInsert
import Derived.Shelf.Spec.SlicesInsertGrow
set_option linter.unusedSimpArgs false
set_option linter.unusedVariables false
set_option maxRecDepth 100000
set_option maxHeartbeats 16000000
namespace Go.aL
open Go
theorem uR {P:Program} {f:FuncId} {iO:List SV} {args:List SV} {pre us:List (Nat×HB)} {sv:SV} (H:aK P f iO [] us sv) (hl:args.length=iO.length)
 (hz:∀ hp,aT hp pre→∀ (j:Nat) (y x:SV),args[j]?=some y→iO[j]?=some x→Rn (fun _=>none) hp y x) (hfl:iH sv) (jZ:∀ q∈us,oQ q.2∧∀ p∈pre,p.1≠q.1):aK P f args pre us sv:=by
 refine ⟨H.1,fun C hp w aa vs hpre hnew R hvl hvs=>?_⟩
 let C2:Ctx:=⟨w,fun b=>aH C aa hp b∨∃ id,(hp id).isSome=true∧aa id=some b,fun _=>False,C.N,fun _=>none,fun _=>none⟩
 have sH:∀ b,C2.wz b→aH C2 (fun _=>none) (fun _=>none) b:=fun b hb=>⟨.inl hb,fun id hid=>by simp at hid⟩
 have R2:cm C2 (fun _=>none) w (fun _=>none):=⟨fun id hb h=>(by cases h),fun i j b h=>(by simp at h),fun i b h=>(by simp at h),⟨rfl,rfl,rfl,Nat.le_refl _,fun b _ _=>rfl⟩,fun id hb hb0 h=>(by cases h)⟩
 have qe:∀ id,id∈us.map (·.1)→hp id=none∧C.h0 id=none:=fun id hid=>by
  obtain ⟨q,hq,rfl⟩:=List.mem_map.1 hid
  rcases hnew q hq with ⟨hb,hm⟩ | h
  ·exact absurd rfl ((jZ q hq).2 (q.1,hb) hm)
  ·exact h
 refine (H.2 C2 (fun _=>none) w (fun _=>none) vs (fun q hq=>by simp at hq) (fun q hq=>.inr ⟨rfl,rfl⟩) R2 (by simp [hvl,hl]) (fun j s hj=>?_)).mono ?_
 ·have hlt:=(List.getElem?_eq_some_iff.1 hj).1
  have hy:=List.getElem?_eq_getElem (l:=args) (i:=j) (by omega)
  exact Rp.leave (τ:=fun _=>none) (fun b hb=>sH b (.inl hb)) (fun i b _ hi hb=>sH b (.inr ⟨i,hi,hb⟩)) (fun i hb hi=>R.heap i hb hi) (fun j id h=>by cases h) (hvs j _ hy) (hz hp hpre j _ s hy hj)
 ·rintro e w' ⟨v,aJ,rfl,S,hR⟩
  have R':=S.mem
  have iD:∀ b,b<w.heap.size→w'.heap[b]?=w.heap[b]?:=fun b hb=>R'.fr.block b hb (fun h=>h)
  have hsz:w.heap.size≤w'.heap.size:=R'.fr.size
  have qf:∀ id b,id∈us.map (·.1)→aJ id=some b→w.heap.size≤b∧b<w'.heap.size:=fun id b hid hb=>by
   obtain ⟨h1,h2⟩:=R'.own id b (nR.2 hid) hb
   rcases h1 with ⟨a,_⟩ | a
   ·cases a
   ·exact ⟨a,h2⟩
  let gu:Nat→Option Nat:=fun id=>if id∈us.map (·.1) then aJ id else aa id
  have rT:∀ id,id∈us.map (·.1)→gu id=aJ id:=fun id h=>if_pos h
  have rN:∀ id,id∉us.map (·.1)→gu id=aa id:=fun id h=>if_neg h
  have hN:∀ id,id∉us.map (·.1)→bM hp us id=hp id:=fun id h=>zS h
  have hT:∀ id,id∈us.map (·.1)→bM hp us id=bM (fun _=>none) us id:=fun id h=>wQ h
  have hs:∀ j,(bM (fun _=>none) us j).isSome=true→bM hp us j=bM (fun _=>none) us j∧gu j=aJ j:=fun j hj=>⟨hT j (nR.1 hj),rT j (nR.1 hj)⟩
  have sP:∀ b,aH C aa hp b→b<w.heap.size→aH C gu (bM hp us) b∧w'.heap[b]?=w.heap[b]?:=fun b hb hlt=>by
   refine ⟨⟨hb.1,fun id hid he=>?_⟩,iD b hlt⟩
   by_cases hm:id∈us.map (·.1)
   ·rw [rT id hm] at he
    have:=(qf id b hm he).1;omega
   ·rw [hN id hm] at hid
    rw [rN id hm] at he
    exact hb.2 id hid he
  have E:iW w w' (aH C aa hp) (aH C gu (bM hp us)) aa gu hp (bM hp us):=iW.of sP (fun id hb hq=>by
   have hm:id∉us.map (·.1):=fun hm=>by rw [(qe id hm).1] at hq;cases hq
   refine ⟨hb,by rw [hN id hm];exact hq,?_⟩
   rw [rN id hm]
   cases hb with
   | var cs=>rfl
   | row e az xs=>exact ⟨Nat.le_refl _,fun _=>⟨rfl,rfl,fun b hb cur t hc=>⟨cur,t,by rw [iD b (R.own id b (by rw [hq];rfl) hb).2];exact hc,rfl⟩⟩⟩)
  refine ⟨v,gu,rfl,⟨⟨fun id hb hq=>?_,fun i j b h1 h2 h3 h4=>?_,fun id b h1 h2=>?_,⟨R'.fr.os.trans R.fr.os,R'.fr.tape.trans R.fr.tape,R'.fr.output.trans R.fr.output,Nat.le_trans R.fr.size hsz,fun b h1 h2=>?_⟩,fun id hb hb0 h1 h2=>?_⟩,E⟩,hR.flat hs hfl⟩
  ·by_cases hm:id∈us.map (·.1)
   ·rw [hT id hm] at hq
    have Bg:oQ hb:=by
     rcases IY hq with h | h
     ·cases h
     ·exact (jZ _ h).1
    exact (R'.heap id hb hq).flat hs (nR.2 hm) Bg
   ·rw [hN id hm] at hq
    rcases R.heap id hb hq with ⟨a1,a2⟩ | ⟨b,cur,t,a1,a2,a3⟩
    ·exact .inl ⟨(rN id hm).trans a1,a2⟩
    ·refine .inr ⟨b,cur,t,(rN id hm).trans a1,?_,a3.mono E⟩
     rw [iD b (R.own id b (by rw [hq];rfl) a1).2];exact a2
  ·by_cases hi:i∈us.map (·.1) <;> by_cases hj:j∈us.map (·.1)
   ·rw [rT i hi] at h3;rw [rT j hj] at h4
    exact R'.inj i j b (nR.2 hi) (nR.2 hj) h3 h4
   ·rw [rT i hi] at h3;rw [rN j hj] at h4;rw [hN j hj] at h2
    have h5:=qf i b hi h3;have h6:=R.own j b h2 h4;omega
   ·rw [rN i hi] at h3;rw [rT j hj] at h4;rw [hN i hi] at h1
    have h5:=qf j b hj h4;have h6:=R.own i b h1 h3;omega
   ·rw [rN i hi] at h3;rw [rN j hj] at h4;rw [hN i hi] at h1;rw [hN j hj] at h2
    exact R.inj i j b h1 h2 h3 h4
  ·by_cases hm:id∈us.map (·.1)
   ·rw [rT id hm] at h2
    obtain ⟨a1,a2⟩:=qf id b hm h2
    exact ⟨.inr (Nat.le_trans R.fr.size a1),a2⟩
   ·rw [hN id hm] at h1;rw [rN id hm] at h2
    obtain ⟨a1,a2⟩:=R.own id b h1 h2
    exact ⟨a1,by omega⟩
  ·rw [iD b (by have:=R.fr.size;omega)];exact R.fr.block b h1 h2
  ·by_cases hm:id∈us.map (·.1)
   ·rw [(qe id hm).2] at h2;cases h2
   ·rw [hN id hm] at h1
    have ev:=R.jG id hb hb0 h1 h2
    obtain ⟨hb',g1,g2⟩:∃ hb',bM hp us id=some hb'∧js w w' (aa id) (gu id) hb hb':=by
     refine ⟨hb,by rw [hN id hm];exact h1,?_⟩
     rw [rN id hm]
     cases hb with
     | var cs=>rfl
     | row e az xs=>exact ⟨Nat.le_refl _,fun _=>⟨rfl,rfl,fun b hb cur t hc=>⟨cur,t,by rw [iD b (R.own id b (by rw [h1];rfl) hb).2];exact hc,rfl⟩⟩⟩
    rw [hN id hm,h1] at g1;cases g1
    exact ev.trans g2
theorem tJ {n0:Nat} {env:List (Nat×SV)} {h:List (Option HB)} (i0 e o:Nat) {cs:List SV} (hi:aB h i0=some (.var cs)) (ho:cs[o]?=some (.rv .cw)):fV n0 ⟨env,h⟩ ⟨env,aR (aR h (h.length,.row e 0 [])) (i0,.var (cs.set o (.row h.length 0 0)))⟩:=by
 intro C a w R
 obtain ⟨⟨aa,RF⟩,h1,h0⟩:=R
 have hnone:aB h h.length=none:=by unfold aB;rw [List.getElem?_eq_none (Nat.le_refl _)]
 have vi:C.h0 h.length=none:=h0 _ h1
 obtain ⟨aJ,S⟩:=RF.mem.EC e hi ho hnone vi
 have lg:=RF.step S
 have hlt:i0<h.length:=by
  apply Classical.byContradiction
  intro hc
  unfold aB at hi
  rw [List.getElem?_eq_none (by omega)] at hi;cases hi
 have e1:=yB (h:=h) (q:=(h.length,.row e 0 [])) (Nat.le_refl _)
 have l1:=uG h (h.length,.row e 0 [])
 have e2:=yB (h:=aR h (h.length,.row e 0 [])) (q:=(i0,.var (cs.set o (.row h.length 0 0)))) (by show i0≤_;omega)
 have l2:=uG (aR h (h.length,.row e 0 [])) (i0,.var (cs.set o (.row h.length 0 0)))
 refine ⟨⟨aJ,?_⟩,?_,h0⟩
 ·show jS C (lk env) (aB (aR (aR h (h.length,.row e 0 [])) (i0,.var (cs.set o (.row h.length 0 0))))) a w aJ
  rw [e2,e1];exact lg
 ·have MJ:n0≤h.length:=h1
  show n0≤(aR (aR h (h.length,.row e 0 [])) (i0,.var (cs.set o (.row h.length 0 0)))).length
  omega
end Go.aL

namespace Go.aL
open Go
theorem Pb:aU Go.Proofs.Tryz.prog 94 53 (fc Go.Proofs.Tryz.prog 94 53 [(.c 4 3 true),(.t 5),(.t 6)]) [(.c 4 3 true),(.t 5),(.t 6)]:=bl (by kernel_rfl)
theorem Pe:aU Go.Proofs.Tryz.prog 112 27 (fc Go.Proofs.Tryz.prog 112 27 [(.t 4)]) [(.t 4)]:=bl (by kernel_rfl)
structure Ai where
 base:Int
 left:Sz
 wide:Sz
 right:Sz
 around:Int
 bZ:Bool
 least:Int
 most:Int
def Ai.cells (i:Ai):List RV:=[.int .i64 i.base,.bool i.left.auto,.int .i64 i.left.n,.bool i.wide.auto,.int .i64 i.wide.n,.bool i.right.auto,.int .i64 i.right.n,.int .i64 i.around,.bool i.bZ,.int .i64 i.least,.int .i64 i.most]
abbrev Ai.sv (i:Ai):SV:=.agg (i.cells.map .rv)
structure Ao where
 l:Int
 w:Int
 r:Int
def Ao.cells (o:Ao):List RV:=[.int .i64 o.l,.int .i64 o.w,.int .i64 o.r]
def uf (i:Ai) (w:Int):Int×Int:=
 if ¬ i.base - i.around - w - bh i.left 0 - bh i.right 0<0∧i.left.auto=true∧i.right.auto=true then ((i.base - i.around - w) / 2,i.base - i.around - w - (i.base - i.around - w) / 2)
 else if ¬ i.base - i.around - w - bh i.left 0 - bh i.right 0<0∧i.left.auto=true∨i.bZ=true∧(i.base - i.around - w - bh i.left 0 - bh i.right 0<0∨i.right.auto=false) then (i.base - i.around - w - bh i.right 0,bh i.right 0)
 else (bh i.left 0,i.base - i.around - w - bh i.left 0)
def iX (i:Ai) (s:Sz):Ao:=if s.auto=true then ⟨bh i.left 0,i.base - i.around - bh i.left 0 - bh i.right 0,bh i.right 0⟩ else ⟨(uf i s.n).1,s.n,(uf i s.n).2⟩
def mR (i:Ai) (s:Sz):Bool:=bP (iX i s).l && bP (iX i s).w && bP (iX i s).r
structure Fit (i:Ai):Prop where
 b:bP i.base=true
 a:bP i.around=true
 l:bP (bh i.left 0)=true
 r:bP (bh i.right 0)=true
theorem Ux (i:Ai) (xs:List Int) (hb:bP i.base=true) (ha:bP i.around=true) (hx:∀ x∈xs,bP x=true) (hl:xs.length≤100):aK Go.Proofs.Tryz.prog 113 [i.sv,.rv (.sl 1 (aM xs))] [] [] (.rv (.int .i64 (i.base - i.around - xs.sum))):=by
 refine bu OY [i.sv,.rv (.sl 1 (aM xs))] _ (by simp) (by simp [aP,aY,bq,aW,bk,aC.sv,Ln.sv,Nd.sv]) (fun K hK=>?_)
 have nD:=aj xs
 rw [iZ] at hb ha
 have w0:IntKind.i64.wrap (i.base - i.around)=i.base - i.around:=wrap_i64 (by omega) (by omega)
 conv in fc _ _ _ _=>reduce
 simp -implicitDefEqProofs only [Ai.sv,Ai.cells,go_sem,Int.reduceNegSucc]
 repeat' (first | (simp -implicitDefEqProofs only [go_sem,Int.reduceNegSucc,nD,w0]) | (with_reducible refine aA ?_) | ((first | refine ai (fun hg=>?_) (fun hg=>?_) | refine ax (fun hg=>?_) (fun hg=>?_) | refine ay (fun hg=>?_) (fun hg=>?_)) <;> try simp -implicitDefEqProofs only [hg,Bool.not_true,Bool.not_false]) | ((with_reducible apply And.intro);focus (first | trivial | omega | decide | (simp -implicitDefEqProofs only [maxLen];omega) | (simp [maxLen,af,ak,an,av,aj,au,aq] <;> omega))) | fail)
 refine fH (ι:=Nat) (fun k=>[(15,.rv (.int .i64 k)),(14,.rv (.int .i64 xs.length)),(13,.rv (.sl 1 (aM xs))),(5,.rv (.int .i64 (i.base - i.around - (xs.take k).sum)))]) (fun _=>[some (.var (i.cells.map .rv))]) (fun k=>k≤xs.length∧-(1125899906842624*k)≤(xs.take k).sum∧(xs.take k).sum≤1125899906842624*k) (fun k=>xs.length - k) 0 (by simp) (bg (by simp [lk])) (fun k hk K' hN hX hR=>?_)
 obtain ⟨fJ,hk2,ga⟩:=hk
 simp -implicitDefEqProofs only [go_sem,Int.reduceNegSucc]
 refine ai (fun hg=>?_) (fun hg=>?_)
 ·have aE:k<xs.length:=by simp at hg;omega
  have hg:=pK aE
  have wu:=fB (k:=k) (by omega)
  have hf:=iZ.1 (hx _ (List.getElem_mem aE))
  have hst:=CM aE
  have ws:IntKind.i64.wrap (i.base - i.around - (xs.take k).sum - xs[k])=i.base - i.around - (xs.take (k+1)).sum:=by rw [wrap_i64 (by omega) (by omega),hst];omega
  repeat' (first | (simp -implicitDefEqProofs only [go_sem,Int.reduceNegSucc,hg,nD,wu,ws]) | (with_reducible refine aA ?_) | ((first | refine ai (fun hg=>?_) (fun hg=>?_) | refine ax (fun hg=>?_) (fun hg=>?_) | refine ay (fun hg=>?_) (fun hg=>?_)) <;> try simp -implicitDefEqProofs only [hg,Bool.not_true,Bool.not_false]) | ((with_reducible apply And.intro);focus (first | trivial | omega | decide | (simp -implicitDefEqProofs only [maxLen];omega) | (simp [maxLen,af,ak,an,av,aj,au,aq] <;> omega))) | fail)
  exact hN (k+1) _ _ ⟨by omega,by omega,by omega⟩ (by omega) (bg (by simp [lk]))
 ·have aE:k=xs.length:=by simp at hg;omega
  subst aE
  simp -implicitDefEqProofs only [go_sem,Int.reduceNegSucc]
  refine hX _ _ _ ?_
  rw [List.take_length]
  repeat' (first | (simp -implicitDefEqProofs only [go_sem,Int.reduceNegSucc]) | (with_reducible refine aA ?_) | ((first | refine ai (fun hg=>?_) (fun hg=>?_) | refine ax (fun hg=>?_) (fun hg=>?_) | refine ay (fun hg=>?_) (fun hg=>?_)) <;> try simp -implicitDefEqProofs only [hg,Bool.not_true,Bool.not_false]) | ((with_reducible apply And.intro);focus (first | trivial | omega | decide | (simp -implicitDefEqProofs only [maxLen];omega) | (simp [maxLen,af,ak,an,av,aj,au,aq] <;> omega))) | fail)
  exact (hK _ _ (bS rfl)).2
theorem CA (i:Ai) (xs:List Int) (hb:bP i.base=true) (ha:bP i.around=true) (hx:∀ x∈xs,bP x=true) (hl:xs.length≤100) (id:Nat):aK Go.Proofs.Tryz.prog 113 [i.sv,.row id 0 xs.length] [(id,.row 1 0 (kS xs))] [] (.rv (.int .i64 (i.base - i.around - xs.sum))):=by
 refine uR (iO:=[i.sv,.rv (.sl 1 (aM xs))]) (Ux i xs hb ha hx hl) rfl (fun hp hpre k y r hy hr=>?_) (.rv _ (.int _ _)) (by simp)
 match k with
 | 0=>cases hy;cases hr;exact aI.2 (fX.2 rfl)
 | 1=>
   cases hy;cases hr
   have:=og (h:=hp) (τ:=fun _=>none) (j:=id) (e:=1) (az:=0) (len:=xs.length) (xs:=aM xs) (by rw [← BE];exact hpre _ (.head _)) rfl (by rw [aj];omega) (kI _)
   rw [List.take_of_length_le (by rw [aj];omega)] at this
   exact .fz _ _ this
 | k+2=>simp at hy
theorem Cg {x:Sz} (h:x.auto=false) (d:Int):bh x d=x.n:=by simp [bh,h]
theorem Uz (i:Ai) (w:Int) (hf:Fit i) (hw:bP w=true):aK Go.Proofs.Tryz.prog 114 [i.sv,.rv (.int .i64 w)] [] [] (.aO [.rv (.int .i64 (uf i w).1),.rv (.int .i64 (uf i w).2)]):=by
 refine bu OZ [i.sv,.rv (.int .i64 w)] _ (by simp) (by simp [aP,aY,bq,aW,bk,aC.sv,Ln.sv,Nd.sv]) (fun K hK=>?_)
 have h1:=ni i.left 0
 have h2:=ni i.right 0
 have h3:=CA i [w] hf.b hf.a (by simp [hw]) (by simp)
 have h4:=CA i [w,bh i.left 0,bh i.right 0] hf.b hf.a (by simp [hw,hf.l,hf.r]) (by simp)
 have q1:=iZ.1 hf.b
 have q2:=iZ.1 hf.a
 have q3:=iZ.1 hf.l
 have q4:=iZ.1 hf.r
 have q5:=iZ.1 hw
 have h5:=Um (i.base - i.around - w)
 have w1:IntKind.i64.wrap (i.base - i.around - w - (i.base - i.around - w) / 2)=i.base - i.around - w - (i.base - i.around - w) / 2:=wrap_i64 (by omega) (by omega)
 have w2:IntKind.i64.wrap (i.base - i.around - w - bh i.right 0)=i.base - i.around - w - bh i.right 0:=wrap_i64 (by omega) (by omega)
 have w3:IntKind.i64.wrap (i.base - i.around - w - bh i.left 0)=i.base - i.around - w - bh i.left 0:=wrap_i64 (by omega) (by omega)
 have e1:[w].sum=w:=by simp
 have e2:i.base - i.around - [w,bh i.left 0,bh i.right 0].sum=i.base - i.around - w - bh i.left 0 - bh i.right 0:=by simp;omega
 rw [e1] at h3
 rw [e2] at h4
 simp -implicitDefEqProofs only [kS,List.map_cons,List.map_nil,List.length_cons,List.length_nil,Ai.sv,Ai.cells,Sz.sv,Sz.cells,Nat.reduceAdd] at h1 h2 h3 h4
 simp -implicitDefEqProofs only [uf] at hK
 conv in fc _ _ _ _=>reduce
 simp -implicitDefEqProofs only [Ai.sv,Ai.cells,go_sem,Int.reduceNegSucc]
 generalize bh i.left 0=L at *
 generalize bh i.right 0=R at *
 cases hl:i.left.auto <;> cases hr:i.right.auto <;> cases ht:i.bZ <;> simp -implicitDefEqProofs only [hl,hr,ht] at h1 h2 h3 h4 hK ⊢ <;> by_cases yK:i.base - i.around - w - L - R<0 <;> simp -implicitDefEqProofs only [yK,decide_true,decide_false] at hK ⊢
 all_goals ((have bf:=h1;have y_2:=h2;have bB:=h3;have bG:=h4;have bI:=h5;repeat' (first | (simp -implicitDefEqProofs only [go_sem,Int.reduceNegSucc,w1,w2,w3,yK,decide_true,decide_false]) | (with_reducible refine aA ?_) | (with_reducible first | refine ag bf ?_ | refine ah bf ?_) | (with_reducible first | refine ag y_2 ?_ | refine ah y_2 ?_) | ((first | refine bQ (bB _) ?_ ?_ ?_ | refine bV (bB _) ?_ ?_ ?_ | fail);(focus (simp [aT,aB] <;> fail));(focus (simp [aZ,aR] <;> fail))) | ((first | refine bQ (bG _) ?_ ?_ ?_ | refine bV (bG _) ?_ ?_ ?_ | fail);(focus (simp [aT,aB] <;> fail));(focus (simp [aZ,aR] <;> fail))) | (with_reducible first | refine ag bI ?_ | refine ah bI ?_) | ((first | refine ai (fun hg=>?_) (fun hg=>?_) | refine ax (fun hg=>?_) (fun hg=>?_) | refine ay (fun hg=>?_) (fun hg=>?_)) <;> try simp -implicitDefEqProofs only [hg,Bool.not_true,Bool.not_false]) | ((with_reducible apply And.intro);focus (first | trivial | omega | decide | (simp -implicitDefEqProofs only [maxLen];omega) | (simp [maxLen,af,ak,an,av,aj,au,aq] <;> omega))) | fail)))
 all_goals (refine (hK _ _ (gj rfl rfl)).2)
theorem Vb (i:Ai) (s:Sz) (hf:Fit i) (hs:s.auto=false→bP s.n=true):aK Go.Proofs.Tryz.prog 94 [i.sv,s.sv] [] [] (.aO [.agg ((iX i s).cells.map .rv),.rv (.int .i64 (iX i s).w),.rv (.bool (mR i s))]):=by
 refine bu Pb [i.sv,s.sv] _ (by simp) (by simp [aP,aY,bq,aW,bk,aC.sv,Ln.sv,Nd.sv]) (fun K hK=>?_)
 have h1:=ni i.left 0
 have h2:=ni i.right 0
 have h3:=CA i [bh i.left 0,bh i.right 0] hf.b hf.a (by simp [hf.l,hf.r]) (by simp)
 have f1:=lY (iX i s).l
 have f2:=lY (iX i s).w
 have f3:=lY (iX i s).r
 have e2:i.base - i.around - [bh i.left 0,bh i.right 0].sum=i.base - i.around - bh i.left 0 - bh i.right 0:=by simp;omega
 rw [e2] at h3
 simp -implicitDefEqProofs only [mR] at hK
 simp -implicitDefEqProofs only [kS,List.map_cons,List.map_nil,List.length_cons,List.length_nil,Ai.sv,Ai.cells,Sz.sv,Sz.cells,Nat.reduceAdd,Ao.cells,iX] at h1 h2 h3 hK f1 f2 f3
 conv in fc _ _ _ _=>reduce
 simp -implicitDefEqProofs only [Ai.sv,Ai.cells,Sz.sv,Sz.cells,go_sem,Int.reduceNegSucc]
 cases ha:s.auto with
 | true=>
   simp -implicitDefEqProofs only [ha,if_true] at hK f1 f2 f3
   have bK:=h1;have bL:=h2;have bO:=h3;have cl:=f1;have cr:=f2;have fU:=f3;repeat' (first | (simp -implicitDefEqProofs only [go_sem,Int.reduceNegSucc]) | (with_reducible refine aA ?_) | (with_reducible first | refine ag bK ?_ | refine ah bK ?_) | (with_reducible first | refine ag bL ?_ | refine ah bL ?_) | ((first | refine bQ (bO _) ?_ ?_ ?_ | refine bV (bO _) ?_ ?_ ?_ | fail);(focus (simp [aT,aB] <;> fail));(focus (simp [aZ,aR] <;> fail))) | (with_reducible first | refine ag cl ?_ | refine ah cl ?_) | (with_reducible first | refine ag cr ?_ | refine ah cr ?_) | (with_reducible first | refine ag fU ?_ | refine ah fU ?_) | ((first | refine ai (fun hg=>?_) (fun hg=>?_) | refine ax (fun hg=>?_) (fun hg=>?_) | refine ay (fun hg=>?_) (fun hg=>?_)) <;> try simp -implicitDefEqProofs only [hg,Bool.not_true,Bool.not_false]) | ((with_reducible apply And.intro);focus (first | trivial | omega | decide | (simp -implicitDefEqProofs only [maxLen];omega) | (simp [maxLen,af,ak,an,av,aj,au,aq] <;> omega))) | fail)
   all_goals (refine (hK _ _ ?_).2;clear hK;simp -implicitDefEqProofs only [go_sem,Int.reduceNegSucc,aQ,aS,aX,bn,aI,aG,aF] <;>(try simp_all [-Int.not_lt,-Int.not_le,aI,aG,aF,bA]) <;> try omega)
 | false=>
   have h4:=Uz i s.n hf (hs ha)
   simp -implicitDefEqProofs only [Ai.sv,Ai.cells,List.map_cons,List.map_nil] at h4
   simp -implicitDefEqProofs only [ha,Bool.false_eq_true,if_false] at hK f1 f2 f3
   have gx:=h1;have gO:=h2;have gP:=h4;have gQ:=f1;have ir:=f2;have iu:=f3;repeat' (first | (simp -implicitDefEqProofs only [go_sem,Int.reduceNegSucc]) | (with_reducible refine aA ?_) | (with_reducible first | refine ag gx ?_ | refine ah gx ?_) | (with_reducible first | refine ag gO ?_ | refine ah gO ?_) | (with_reducible first | refine ag gP ?_ | refine ah gP ?_) | (with_reducible first | refine ag gQ ?_ | refine ah gQ ?_) | (with_reducible first | refine ag ir ?_ | refine ah ir ?_) | (with_reducible first | refine ag iu ?_ | refine ah iu ?_) | ((first | refine ai (fun hg=>?_) (fun hg=>?_) | refine ax (fun hg=>?_) (fun hg=>?_) | refine ay (fun hg=>?_) (fun hg=>?_)) <;> try simp -implicitDefEqProofs only [hg,Bool.not_true,Bool.not_false]) | ((with_reducible apply And.intro);focus (first | trivial | omega | decide | (simp -implicitDefEqProofs only [maxLen];omega) | (simp [maxLen,af,ak,an,av,aj,au,aq] <;> omega))) | fail)
   all_goals (refine (hK _ _ ?_).2;clear hK;simp -implicitDefEqProofs only [go_sem,Int.reduceNegSucc,aQ,aS,aX,bn,aI,aG,aF] <;>(try simp_all [-Int.not_lt,-Int.not_le,aI,aG,aF,bA]) <;> try omega)
theorem zI (i:Ai) (s:Sz) (hf:Fit i) (hs:s.auto=false→bP s.n=true) (j:Nat) (o:Ao) (n:Int):aK Go.Proofs.Tryz.prog 112 [.ptr j 0,s.sv]
 [(j,.var (SV.fF 94 [i.sv]::(o.cells++[RV.int .i64 n]).map .rv))] [(j,.var (SV.fF 94 [i.sv]::((iX i s).cells++[RV.int .i64 (iX i s).w]).map .rv))] (.rv (.bool (mR i s))):=by
 refine mU Pe [j] [.var (SV.fF 94 [i.sv]::(o.cells++[RV.int .i64 n]).map .rv)] [.var (SV.fF 94 [i.sv]::(o.cells++[RV.int .i64 n]).map .rv)] [.ptr 0 0,s.sv] [.ptr j 0,s.sv] _ _ (by simp) (by simp [aP,lI,aY,bq]) rfl (by simp [bW]) (by simp [hD,Dq,aY,bq,aP,aW,Ao.cells]) (fun K hK=>?_)
 have h1:=Vb i s hf hs
 simp -implicitDefEqProofs only [Ao.cells,List.cons_append,List.nil_append,List.map_cons,List.map_nil] at hK ⊢
 simp -implicitDefEqProofs only [Ao.cells,Sz.sv,Sz.cells,List.map_cons,List.map_nil] at h1
 conv in fc _ _ _ _=>reduce
 simp -implicitDefEqProofs only [Sz.sv,Sz.cells,go_sem,Int.reduceNegSucc]
 have iw:=h1;repeat' (first | (simp -implicitDefEqProofs only [go_sem,Int.reduceNegSucc]) | (with_reducible refine aA ?_) | (with_reducible first | refine ag iw ?_ | refine ah iw ?_) | ((first | refine ai (fun hg=>?_) (fun hg=>?_) | refine ax (fun hg=>?_) (fun hg=>?_) | refine ay (fun hg=>?_) (fun hg=>?_)) <;> try simp -implicitDefEqProofs only [hg,Bool.not_true,Bool.not_false]) | ((with_reducible apply And.intro);focus (first | trivial | omega | decide | (simp -implicitDefEqProofs only [maxLen];omega) | (simp [maxLen,af,ak,an,av,aj,au,aq] <;> omega))) | fail)
 all_goals (try ((first | refine (hK _ _ _ _ [] (gM _ _) ?_).2 | refine (hK _ _ ?_).2 | refine (hK _ _ _ _ [] (gM _ _) ?_).1 | refine (hK _ _ ?_).1 | fail);clear hK;(simp_all [gV,bW,newL,gY,gN,aS,aQ,lk,aX,fW,gk,fZ,iz,iy,aB,gW,bn,aG,gw,gX,iG,aI,iF,aF,gB,fX,bA,Ta,Ao.cells]) <;> try omega))
end Go.aL

namespace Go.aL
open Go
theorem Pd:aU Go.Proofs.Tryz.prog 93 60 (fc Go.Proofs.Tryz.prog 93 60 [(.c 8 3 true),(.t 9)]) [(.c 8 3 true),(.t 9)]:=bl (by kernel_rfl)
theorem Pc:aU Go.Proofs.Tryz.prog 66 41 (fc Go.Proofs.Tryz.prog 66 41 [(.c 2 3 true),(.t 3)]) [(.c 2 3 true),(.t 3)]:=bl (by kernel_rfl)
def rB (i:Ai) (c:Ao→Bool) (s:Sz) (o:Ao):Option Ao:=if c o=true then (if mR i s=true then some (iX i s) else none) else some o
def uL (i:Ai):Option Ao:=if mR i i.wide=true then (rB i (fun o=>decide (o.w>i.most)) ⟨false,i.most⟩ (iX i i.wide)).bind (rB i (fun o=>decide (o.w<i.least)) ⟨false,i.least⟩) else none
def iq:Option Ao→Ao
 | some o=>o
 | none=>⟨0,0,0⟩
theorem Ug (i:Ai) (hf:Fit i) (hw:bP (bh i.wide 0)=true) (h1:bP i.least=true) (h2:bP i.most=true):aK Go.Proofs.Tryz.prog 93 [.fF 94 [i.sv],i.wide.sv,.rv (.int .i64 i.least),.rv (.int .i64 i.most)] [] [] (.aO [.agg ((iq (uL i)).cells.map .rv),.rv (.bool (uL i).isSome)]):=by
 refine bu Pd [.fF 94 [i.sv],i.wide.sv,.rv (.int .i64 i.least),.rv (.int .i64 i.most)] _ (by simp) (by simp [aP,Dq,aY,bq,aW]) (fun K hK=>?_)
 have a0:=zI i i.wide hf (fun h=>by rwa [Cg h] at hw) 3 ⟨0,0,0⟩ 0
 have a1:=zI i ⟨false,i.most⟩ hf (fun _=>h2) 3 (iX i i.wide) (iX i i.wide).w
 have a2:=zI i ⟨false,i.least⟩ hf (fun _=>h1) 3 (iX i i.wide) (iX i i.wide).w
 have a3:=zI i ⟨false,i.least⟩ hf (fun _=>h1) 3 (iX i ⟨false,i.most⟩) (iX i ⟨false,i.most⟩).w
 unfold uL rB at hK
 simp -implicitDefEqProofs only [Ao.cells,Ai.sv,Sz.sv,Sz.cells,List.cons_append,List.nil_append,List.map_cons,List.map_nil] at a0 a1 a2 a3
 conv in fc _ _ _ _=>reduce
 simp -implicitDefEqProofs only [Ai.sv,Sz.sv,Sz.cells,go_sem,Int.reduceNegSucc]
 have bf:=a0;have y_2:=a1;have bB:=a2;have bG:=a3;repeat' (first | (simp -implicitDefEqProofs only [go_sem,Int.reduceNegSucc]) | (with_reducible refine aA ?_) | (refine bQ bf ?_ ?_ ?_;(focus (simp [aT,aB] <;> fail));(focus (simp [aZ,aR] <;> fail))) | (refine bV bf ?_ ?_ ?_;(focus (simp [aT,aB] <;> fail));(focus (simp [aZ,aR] <;> fail))) | (refine bQ y_2 ?_ ?_ ?_;(focus (simp [aT,aB] <;> fail));(focus (simp [aZ,aR] <;> fail))) | (refine bV y_2 ?_ ?_ ?_;(focus (simp [aT,aB] <;> fail));(focus (simp [aZ,aR] <;> fail))) | (refine bQ bB ?_ ?_ ?_;(focus (simp [aT,aB] <;> fail));(focus (simp [aZ,aR] <;> fail))) | (refine bV bB ?_ ?_ ?_;(focus (simp [aT,aB] <;> fail));(focus (simp [aZ,aR] <;> fail))) | (refine bQ bG ?_ ?_ ?_;(focus (simp [aT,aB] <;> fail));(focus (simp [aZ,aR] <;> fail))) | (refine bV bG ?_ ?_ ?_;(focus (simp [aT,aB] <;> fail));(focus (simp [aZ,aR] <;> fail))) | ((first | refine ai (fun hg=>?_) (fun hg=>?_) | refine ax (fun hg=>?_) (fun hg=>?_) | refine ay (fun hg=>?_) (fun hg=>?_)) <;> try simp -implicitDefEqProofs only [hg,Bool.not_true,Bool.not_false]) | ((with_reducible apply And.intro);focus (first | trivial | omega | decide | (simp -implicitDefEqProofs only [maxLen];omega) | (simp [maxLen,af,ak,an,av,aj,au,aq] <;> omega))) | fail)
 all_goals (refine (hK _ _ ?_).2;clear hK;simp -implicitDefEqProofs only [go_sem,Int.reduceNegSucc,aQ,aS,aX,bn,aI,aG,aF,Ao.cells,iq] <;>(try simp_all [-Int.not_lt,-Int.not_le,aI,aG,aF,bA,Ao.cells,iq]) <;> try omega)
def sj (i:Ai):Bool:=bP i.base && bP i.around && bP (bh i.left 0) && bP (bh i.wide 0) && bP (bh i.right 0)
def nr (i:Ai):Option Ao:=if sj i=true then uL i else none
theorem Eo {i:Ai} (h:sj i=true):Fit i∧bP (bh i.wide 0)=true:=by
 simp -implicitDefEqProofs only [sj,Bool.and_eq_true] at h
 obtain ⟨⟨⟨⟨a,b⟩,c⟩,d⟩,e⟩:=h
 exact ⟨⟨a,b,c,e⟩,d⟩
theorem Ud (i:Ai) (h1:bP i.least=true) (h2:bP i.most=true):aK Go.Proofs.Tryz.prog 66 [i.sv] [] [] (.aO [.agg ((iq (nr i)).cells.map .rv),.rv (.bool (nr i).isSome)]):=by
 refine bu Pc [i.sv] _ (by simp) (by simp [aP,aY,bq,aW,bk,aC.sv,Ln.sv,Nd.sv]) (fun K hK=>?_)
 have o1:=ni i.left 0
 have o2:=ni i.wide 0
 have o3:=ni i.right 0
 have f1:=lY i.base
 have f2:=lY i.around
 have f3:=lY (bh i.left 0)
 have f4:=lY (bh i.wide 0)
 have f5:=lY (bh i.right 0)
 cases h5:sj i with
 | true=>
   obtain ⟨hF,hw⟩:=Eo h5
   have hb:=Ug i hF hw h1 h2
   rw [hF.b] at f1
   rw [hF.a] at f2
   rw [hF.l] at f3
   rw [hw] at f4
   rw [hF.r] at f5
   simp -implicitDefEqProofs only [nr,h5,if_true] at hK
   simp -implicitDefEqProofs only [Ai.sv,Ai.cells,Sz.sv,Sz.cells,List.map_cons,List.map_nil] at hb o1 o2 o3
   conv in fc _ _ _ _=>reduce
   simp -implicitDefEqProofs only [Ai.sv,Ai.cells,Sz.sv,Sz.cells,go_sem,Int.reduceNegSucc]
   have bI:=o1;have bK:=o2;have bL:=o3;repeat' (first | (simp -implicitDefEqProofs only [go_sem,Int.reduceNegSucc]) | (with_reducible refine aA ?_) | (with_reducible first | refine ag bI ?_ | refine ah bI ?_) | (with_reducible first | refine ag bK ?_ | refine ah bK ?_) | (with_reducible first | refine ag bL ?_ | refine ah bL ?_) | ((first | refine ai (fun hg=>?_) (fun hg=>?_) | refine ax (fun hg=>?_) (fun hg=>?_) | refine ay (fun hg=>?_) (fun hg=>?_)) <;> try simp -implicitDefEqProofs only [hg,Bool.not_true,Bool.not_false]) | ((with_reducible apply And.intro);focus (first | trivial | omega | decide | (simp -implicitDefEqProofs only [maxLen];omega) | (simp [maxLen,af,ak,an,av,aj,au,aq] <;> omega))) | fail)
   refine jX 6 ?_
   have bO:=f1;have cl:=f2;have cr:=f3;have fU:=f4;have gx:=f5;have gO:=hb;repeat' (first | (simp -implicitDefEqProofs only [go_sem,Int.reduceNegSucc,kj,kk,ko,kr,ku,kz,jT,Int.reduceLT,decide_true,decide_false,Int.reduceToNat,Nat.reduceMul]) | (with_reducible refine aA ?_) | (with_reducible show G _ _ (It.l _ _::_) _ _ _;refine jW ?_) | (with_reducible first | refine ag bO ?_ | refine ah bO ?_) | (with_reducible first | refine ag cl ?_ | refine ah cl ?_) | (with_reducible first | refine ag cr ?_ | refine ah cr ?_) | (with_reducible first | refine ag fU ?_ | refine ah fU ?_) | (with_reducible first | refine ag gx ?_ | refine ah gx ?_) | (with_reducible first | refine ag gO ?_ | refine ah gO ?_) | ((first | refine ai (fun hg=>?_) (fun hg=>?_) | refine ax (fun hg=>?_) (fun hg=>?_) | refine ay (fun hg=>?_) (fun hg=>?_)) <;> try simp -implicitDefEqProofs only [hg,Bool.not_true,Bool.not_false]) | ((with_reducible apply And.intro);focus (first | trivial | omega | decide | (simp -implicitDefEqProofs only [maxLen];omega) | (simp [maxLen,af,ak,an,av,aj,au,aq] <;> omega))) | fail)
   all_goals (refine (hK _ _ ?_).2;clear hK;simp -implicitDefEqProofs only [go_sem,Int.reduceNegSucc,aQ,aS,aX,bn,aI,aG,aF,Ao.cells] <;>(try simp_all [-Int.not_lt,-Int.not_le,aI,aG,aF,bA,Ao.cells]) <;> try omega)
 | false=>
   simp -implicitDefEqProofs only [nr,h5,Bool.false_eq_true,if_false] at hK
   simp -implicitDefEqProofs only [Ai.sv,Ai.cells,Sz.sv,Sz.cells,List.map_cons,List.map_nil] at o1 o2 o3
   conv in fc _ _ _ _=>reduce
   simp -implicitDefEqProofs only [Ai.sv,Ai.cells,Sz.sv,Sz.cells,go_sem,Int.reduceNegSucc]
   have gP:=o1;have gQ:=o2;have ir:=o3;repeat' (first | (simp -implicitDefEqProofs only [go_sem,Int.reduceNegSucc]) | (with_reducible refine aA ?_) | (with_reducible first | refine ag gP ?_ | refine ah gP ?_) | (with_reducible first | refine ag gQ ?_ | refine ah gQ ?_) | (with_reducible first | refine ag ir ?_ | refine ah ir ?_) | ((first | refine ai (fun hg=>?_) (fun hg=>?_) | refine ax (fun hg=>?_) (fun hg=>?_) | refine ay (fun hg=>?_) (fun hg=>?_)) <;> try simp -implicitDefEqProofs only [hg,Bool.not_true,Bool.not_false]) | ((with_reducible apply And.intro);focus (first | trivial | omega | decide | (simp -implicitDefEqProofs only [maxLen];omega) | (simp [maxLen,af,ak,an,av,aj,au,aq] <;> omega))) | fail)
   refine jX 6 ?_
   have iu:=f1;have iw:=f2;have jh:=f3;have ji:=f4;have jQ:=f5;repeat' (first | (simp -implicitDefEqProofs only [go_sem,Int.reduceNegSucc,kj,kk,ko,kr,ku,kz,jT,Int.reduceLT,decide_true,decide_false,Int.reduceToNat,Nat.reduceMul]) | (with_reducible refine aA ?_) | (with_reducible show G _ _ (It.l _ _::_) _ _ _;refine jW ?_) | (with_reducible first | refine ag iu ?_ | refine ah iu ?_) | (with_reducible first | refine ag iw ?_ | refine ah iw ?_) | (with_reducible first | refine ag jh ?_ | refine ah jh ?_) | (with_reducible first | refine ag ji ?_ | refine ah ji ?_) | (with_reducible first | refine ag jQ ?_ | refine ah jQ ?_) | ((first | refine ai (fun hg=>?_) (fun hg=>?_) | refine ax (fun hg=>?_) (fun hg=>?_) | refine ay (fun hg=>?_) (fun hg=>?_)) <;> try simp -implicitDefEqProofs only [hg,Bool.not_true,Bool.not_false]) | ((with_reducible apply And.intro);focus (first | trivial | omega | decide | (simp -implicitDefEqProofs only [maxLen];omega) | (simp [maxLen,af,ak,an,av,aj,au,aq] <;> omega))) | fail)
   all_goals first | (exfalso;simp_all [sj];done) | skip
   all_goals (refine (hK _ _ ?_).2;clear hK;simp -implicitDefEqProofs only [go_sem,Int.reduceNegSucc,aQ,aS,aX,bn,aI,aG,aF,Ao.cells,iq] <;>(try simp_all [-Int.not_lt,-Int.not_le,aI,aG,aF,bA,Ao.cells,iq]) <;> try omega)
end Go.aL

namespace Go.aL
open Go
theorem Qy:aU Go.Proofs.Tryz.prog 107 132 (fc Go.Proofs.Tryz.prog 107 132 [(.t 4)]) [(.t 4)]:=bl (by kernel_rfl)
theorem Qz:aU Go.Proofs.Tryz.prog 79 23 (fc Go.Proofs.Tryz.prog 79 23 [(.c 4 7 true),(.t 5)]) [(.c 4 7 true),(.t 5)]:=bl (by kernel_rfl)
structure Ch where
 top:Su
 bottom:Su
 inner:Su
 through:Bool
 high:Int
 deriving Inhabited,DecidableEq
def Ch.cells (c:Ch):List RV:=[.int .i64 c.top.p,.int .i64 c.top.n,.int .i64 c.bottom.p,.int .i64 c.bottom.n,.int .i64 c.inner.p,.int .i64 c.inner.n,.bool c.through,.int .i64 c.high]
structure Pl where
 iB:Int
 top:Su
 cur:Su
 me:Bool
 deriving Inhabited,DecidableEq
def Pl.cells (p:Pl):List RV:=[.int .i64 p.iB,.int .i64 p.top.p,.int .i64 p.top.n,.int .i64 p.cur.p,.int .i64 p.cur.n,.bool p.me]
def gG (l:List Ch):List (List RV):=l.map Ch.cells
theorem oa (l:List Ch):(gG l).length=l.length:=by simp [gG]
theorem uT {l:List Ch} {i:Nat} (h:i<l.length):(gG l)[i]?.getD []=(l[i]'h).cells:=by simp [gG,h]
def mg (c:Ch):Su:=if c.through=true then c.inner else c.top
def nN (p:Pl) (c:Ch):Int:=if p.me=true then 0 else ct [p.iB,iN (fM p.cur (mg c))]
def qn (p:Pl) (c:Ch):Pl:=
 if p.me=true then (if c.through=true then { p with top:=fM p.top c.top } else ⟨c.high,fM p.top c.top,c.bottom,false⟩)
 else if c.through=true then { p with cur:=fM p.cur c.top } else { p with iB:=ct [nN p c,c.high],cur:=c.bottom }
def sW (p:Pl) (c:Ch):Bool:=
 if p.me=true then bP (qn p c).iB
 else nS (fM p.cur (mg c)) && fS [p.iB,iN (fM p.cur (mg c))] && (c.through || fS [nN p c,c.high])
def pM (m:Nat) (p:Pl) (ys:List Int):HB:=.var (.row m ys.length ys.length::p.cells.map .rv)
def lG (ys:List Int):HB:=.row 1 ys.length (aN (aM ys))
theorem UA (p:Pl) (c:Ch) (j m:Nat) (sD:j≠m) (ys:List Int) (hy:ys.length≤1000000):aK Go.Proofs.Tryz.prog 107 [.ptr j 0,.agg (c.cells.map .rv)] [(j,pM m p ys),(m,lG ys)]
 [(j,pM m (qn p c) (ys++[nN p c])),(m,lG (ys++[nN p c]))] (.rv (.bool (sW p c))):=by
 refine mU Qy [j,m] [pM 1 p ys,lG ys] [pM m p ys,lG ys] [.ptr 0 0,.agg (c.cells.map .rv)] [.ptr j 0,.agg (c.cells.map .rv)] _ _ (by simp) (by simp [aP,lI,aY,bq]) rfl (by simp [bW,sD]) (by simp [hD,pM,lG,nP,aP,aW,lu,bq]) (fun K hK=>?_)
 have j1:=uC p.top c.top
 have j2:=uC p.cur (mg c)
 have j3:=uC p.cur c.top
 have v1:=CG (fM p.cur (mg c))
 have s1:=fun id=>sZ id [p.iB,iN (fM p.cur (mg c))] (by simp)
 have s2:=fun id=>sZ id [ct [p.iB,iN (fM p.cur (mg c))],c.high] (by simp)
 have f1:=lY p.iB
 have f2:=lY c.high
 have hl:=aj ys
 have jc:(aM ys).take ys.length=aM ys:=List.take_of_length_le (by omega)
 have vu:∀ y:Int,(ys++[y]).length=ys.length+1:=fun y=>by simp
 simp -implicitDefEqProofs only [pM,lG,Pl.cells,qn,nN,sW,vu] at hK
 simp -implicitDefEqProofs only [kS,Su.sv,Su.cells,List.map_cons,List.map_nil,List.length_cons,List.length_nil,Nat.reduceAdd] at j1 j2 j3 v1 s1 s2
 conv in fc _ _ _ _=>reduce
 simp -implicitDefEqProofs only [pM,lG,Pl.cells,Ch.cells,go_sem,Int.reduceNegSucc]
 cases ha:p.me <;> cases ht:c.through <;> simp -implicitDefEqProofs only [ha,ht,mg,Bool.false_eq_true,if_true,if_false,Bool.false_or,Bool.true_or,Bool.and_true] at hK j1 j2 j3 v1 s1 s2 ⊢
 all_goals ((have bf:=j1;have y_2:=j2;have bB:=j3;have bG:=v1;have bI:=s1;have bK:=s2;have bL:=f1;have bO:=f2;repeat' (first | (simp -implicitDefEqProofs only [go_sem,Int.reduceNegSucc,hl,jc,mF]) | (with_reducible refine aA ?_) | (with_reducible first | refine ag bf ?_ | refine ah bf ?_) | (with_reducible first | refine ag y_2 ?_ | refine ah y_2 ?_) | (with_reducible first | refine ag bB ?_ | refine ah bB ?_) | (with_reducible first | refine ag bG ?_ | refine ah bG ?_) | ((first | refine bQ (bI _) ?_ ?_ ?_ | refine bV (bI _) ?_ ?_ ?_ | fail);(focus (simp [aT,aB] <;> fail));(focus (simp [aZ,aR] <;> fail))) | ((first | refine bQ (bK _) ?_ ?_ ?_ | refine bV (bK _) ?_ ?_ ?_ | fail);(focus (simp [aT,aB] <;> fail));(focus (simp [aZ,aR] <;> fail))) | (with_reducible first | refine ag bL ?_ | refine ah bL ?_) | (with_reducible first | refine ag bO ?_ | refine ah bO ?_) | ((first | refine ai (fun hg=>?_) (fun hg=>?_) | refine ax (fun hg=>?_) (fun hg=>?_) | refine ay (fun hg=>?_) (fun hg=>?_)) <;> try simp -implicitDefEqProofs only [hg,Bool.not_true,Bool.not_false]) | ((with_reducible apply And.intro);focus (first | trivial | omega | decide | (simp -implicitDefEqProofs only [maxLen];omega) | (simp [maxLen,af,ak,an,av,aj,au,aq] <;> omega))) | fail)))
 all_goals (refine (hK _ _ _ _ [] (gM _ _) ?_).2;clear hK j1 j2 j3 v1 s1 s2 f1 f2;simp [gV,bW,newL,gY,gN,aS,aQ,lk,aX,fW,gk,fZ,iz,iy,aB,gW,bn,aG,gw,gX,iG,aI,iF,aF,gB,fX,sD,Ne.symm sD] <;> simp_all)
def nQ:List Ch→Pl→List Int→Option (Pl×List Int)
 | [],p,ys=>some (p,ys)
 | c::l,p,ys=>if sW p c=true then nQ l (qn p c) (ys++[nN p c]) else none
def jr (l:List Ch) (o:Bool):Option (Pl×List Int):=nQ l ⟨0,⟨0,0⟩,⟨0,0⟩,o⟩ []
def lW (m:Nat):Option (Pl×List Int)→SV
 | some q=>.agg (.row m q.2.length q.2.length::q.1.cells.map .rv)
 | none=>.agg [.rv .cw,.rv (.int .i64 0),.rv (.int .i64 0),.rv (.int .i64 0),.rv (.int .i64 0),.rv (.int .i64 0),.rv (.bool false)]
def kK (m:Nat):Option (Pl×List Int)→List (Nat×HB)
 | some q=>[(m,lG q.2)]
 | none=>[]
theorem Ua (l:List Ch) (o:Bool) (hb:l.length≤1000000) (m:Nat):aK Go.Proofs.Tryz.prog 79 [.rv (.sl 8 (gG l)),.rv (.bool o)] [] (kK m (jr l o)) (.aO [lW m (jr l o),.rv (.bool (jr l o).isSome)]):=by
 refine mU Qz [] [] [] [.rv (.sl 8 (gG l)),.rv (.bool o)] [.rv (.sl 8 (gG l)),.rv (.bool o)] _ _ (by simp) (by simp [aP,aW]) rfl (by simp [bW]) (by simp [hD]) (fun K hK=>?_)
 have hl:=oa l
 conv in fc _ _ _ _=>reduce
 simp -implicitDefEqProofs only [go_sem,Int.reduceNegSucc]
 repeat' (first | (simp -implicitDefEqProofs only [go_sem,Int.reduceNegSucc,hl]) | (with_reducible refine aA ?_) | ((first | refine ai (fun hg=>?_) (fun hg=>?_) | refine ax (fun hg=>?_) (fun hg=>?_) | refine ay (fun hg=>?_) (fun hg=>?_)) <;> try simp -implicitDefEqProofs only [hg,Bool.not_true,Bool.not_false]) | ((with_reducible apply And.intro);focus (first | trivial | omega | decide | (simp -implicitDefEqProofs only [maxLen];omega) | (simp [maxLen,af,ak,an,av,aj,au,aq] <;> omega))) | fail)
 refine fH (ι:=Nat×Pl×List Int) (fun q=>[(13,.rv (.int .i64 q.1)),(12,.rv (.int .i64 l.length)),(11,.rv (.sl 8 (gG l))),(6,.ptr 1 0),(4,.ptr 0 0)]) (fun q=>[some (.var [.rv .cw,.rv (.int .i64 0),.rv (.int .i64 0),.rv (.int .i64 0),.rv (.int .i64 0),.rv (.int .i64 0),.rv (.bool false)]),some (pM 2 q.2.1 q.2.2),some (lG q.2.2)])
  (fun q=>q.1≤l.length∧q.2.2.length=q.1∧nQ (l.drop q.1) q.2.1 q.2.2=jr l o) (fun q=>l.length - q.1) (0,⟨0,⟨0,0⟩,⟨0,0⟩,o⟩,[]) ⟨Nat.zero_le _,rfl,rfl⟩ ((tJ 1 1 0 rfl rfl).trans (bg (by simp [lk,aR]))) (fun q hq K' hN hX hR=>?_)
 obtain ⟨k,p,ys⟩:=q
 obtain ⟨fJ,hk2,ga⟩:=hq
 dsimp only at fJ hk2 ga ⊢
 simp -implicitDefEqProofs only [go_sem,Int.reduceNegSucc]
 refine ai (fun hg=>?_) (fun hg=>?_)
 ·have aE:k<l.length:=by simp at hg;omega
  have wu:=fB (k:=k) (by omega)
  have hx:=uT aE
  have hp:=UA p l[k] 1 2 (by decide) ys (by omega)
  rw [List.drop_eq_getElem_cons aE,nQ] at ga
  generalize l[k]=c at *
  have q1:(c.cells.map SV.rv).take 8=c.cells.map SV.rv:=rfl
  have q2:c.cells.take 8=c.cells:=rfl
  have q3:(c.cells.map SV.rv).length=8:=rfl
  have q4:(c.cells.map SV.rv).drop 8=[]:=rfl
  have q5:c.cells.length=8:=rfl
  cases hok:sW p c with
  | true=>
    rw [hok] at hp
    rw [if_pos hok] at ga
    have cl:=hp;repeat' (first | (simp -implicitDefEqProofs only [go_sem,Int.reduceNegSucc,hl,hx,q1,q2,q3,q4,q5,wu]) | (with_reducible refine aA ?_) | (refine bQ cl ?_ ?_ ?_;(focus (simp [aT,aB] <;> fail));(focus (simp [aZ,aR] <;> fail))) | (refine bV cl ?_ ?_ ?_;(focus (simp [aT,aB] <;> fail));(focus (simp [aZ,aR] <;> fail))) | ((first | refine ai (fun hg=>?_) (fun hg=>?_) | refine ax (fun hg=>?_) (fun hg=>?_) | refine ay (fun hg=>?_) (fun hg=>?_)) <;> try simp -implicitDefEqProofs only [hg,Bool.not_true,Bool.not_false]) | ((with_reducible apply And.intro);focus (first | trivial | omega | decide | (simp -implicitDefEqProofs only [maxLen];omega) | (simp [maxLen,af,ak,an,av,aj,au,aq] <;> omega))) | fail)
    exact hN (k+1,qn p c,ys++[nN p c]) _ _ ⟨by dsimp only;omega,by simp [hk2],ga⟩ (by dsimp only;omega) (ny (h':=[some (.var [.rv .cw,.rv (.int .i64 0),.rv (.int .i64 0),.rv (.int .i64 0),.rv (.int .i64 0),.rv (.int .i64 0),.rv (.bool false)]),some (pM 2 (qn p c) (ys++[nN p c])),some (lG (ys++[nN p c]))]) (Nat.zero_le _) ⟨jw (rs:=[.cw,.int .i64 0,.int .i64 0,.int .i64 0,.int .i64 0,.int .i64 0,.bool false]),⟨jx.2 (by simp),jw⟩,iP,trivial⟩ (by simp [hJ,lk,jE,lJ]))
  | false=>
    rw [hok] at hp
    rw [if_neg (by rw [hok];simp)] at ga
    have cr:=hp;repeat' (first | (simp -implicitDefEqProofs only [go_sem,Int.reduceNegSucc,hl,hx,q1,q2,q3,q4,q5,wu]) | (with_reducible refine aA ?_) | (refine bQ cr ?_ ?_ ?_;(focus (simp [aT,aB] <;> fail));(focus (simp [aZ,aR] <;> fail))) | (refine bV cr ?_ ?_ ?_;(focus (simp [aT,aB] <;> fail));(focus (simp [aZ,aR] <;> fail))) | ((first | refine ai (fun hg=>?_) (fun hg=>?_) | refine ax (fun hg=>?_) (fun hg=>?_) | refine ay (fun hg=>?_) (fun hg=>?_)) <;> try simp -implicitDefEqProofs only [hg,Bool.not_true,Bool.not_false]) | ((with_reducible apply And.intro);focus (first | trivial | omega | decide | (simp -implicitDefEqProofs only [maxLen];omega) | (simp [maxLen,af,ak,an,av,aj,au,aq] <;> omega))) | fail)
    refine hR _ _ (hK _ _ _ _ [] (gM _ _) ?_).2
    rw [← ga]
    simp [gV,bW,newL,gY,gN,aS,aQ,lk,aX,fW,gk,fZ,iz,iy,aB,gW,bn,aG,gw,gX,iG,aI,iF,aF,gB,fX,ij,lW,kK,Pl.cells,aI,aF]
 ·have aE:k=l.length:=by simp at hg;omega
  subst aE
  simp -implicitDefEqProofs only [go_sem,Int.reduceNegSucc]
  refine hX _ _ _ ?_
  rw [List.drop_length,nQ] at ga
  simp -implicitDefEqProofs only [pM,lG,Pl.cells,go_sem,Int.reduceNegSucc]
  repeat' (first | (simp -implicitDefEqProofs only [go_sem,Int.reduceNegSucc]) | (with_reducible refine aA ?_) | ((first | refine ai (fun hg=>?_) (fun hg=>?_) | refine ax (fun hg=>?_) (fun hg=>?_) | refine ay (fun hg=>?_) (fun hg=>?_)) <;> try simp -implicitDefEqProofs only [hg,Bool.not_true,Bool.not_false]) | ((with_reducible apply And.intro);focus (first | trivial | omega | decide | (simp -implicitDefEqProofs only [maxLen];omega) | (simp [maxLen,af,ak,an,av,aj,au,aq] <;> omega))) | fail)
  refine (hK _ _ _ _ [none,none,some m] (gM _ _) ?_).2
  rw [← ga]
  simp [gV,bW,newL,gY,gN,aS,aQ,lk,aX,fW,gk,fZ,iz,iy,aB,gW,bn,aG,gw,gX,iG,aI,iF,aF,gB,fX,ij,lW,kK,Pl.cells,lG,aI,aF]
theorem AJ {cs:List SV} (h:∀ y∈cs,iH y):iH (.agg cs):=.agg _ fun j y hy=>h y (List.mem_of_getElem? hy)
theorem Ep {cs:List SV} (h:∀ y∈cs,iH y):iH (.aO cs):=.aO _ fun j y hy=>h y (List.mem_of_getElem? hy)
theorem SM (p:Pl):∀ r∈p.cells,jt r:=by
 intro r hr
 simp -implicitDefEqProofs only [Pl.cells,List.mem_cons,List.not_mem_nil,or_false] at hr
 rcases hr with rfl | rfl | rfl | rfl | rfl | rfl <;> first | exact .int _ _ | exact .bool _
theorem JQ (ys:List Int):oQ (lG ys):=.row _ _ _ fun i x j y hx hy=>by
 simp -implicitDefEqProofs only [aN,List.getElem?_map,Option.map_eq_some_iff,aM] at hx
 obtain ⟨a,⟨b,_,rfl⟩,rfl⟩:=hx
 cases j with
 | zero=>simp at hy;subst hy;exact .rv _ (.int _ _)
 | succ j=>simp at hy
theorem Ht (m:Nat) (o:Option (Pl×List Int)):iH (lW m o):=by
 cases o with
 | none=>
   refine AJ fun y hy=>?_
   simp -implicitDefEqProofs only [List.mem_cons,List.not_mem_nil,or_false] at hy
   rcases hy with rfl | rfl | rfl | rfl | rfl | rfl | rfl <;> exact .rv _ (by constructor)
 | some q=>
   refine AJ fun y hy=>?_
   rcases List.mem_cons.1 hy with rfl | hy
   ·exact .row _ _ _
   ·obtain ⟨r,hr,rfl⟩:=List.mem_map.1 hy
    exact .rv _ (SM _ r hr)
theorem Ub (l:List Ch) (o:Bool) (hb:l.length≤1000000) (j v m:Nat) (sD:j≠m):aK Go.Proofs.Tryz.prog 79 [.row j v l.length,.rv (.bool o)] [(j,.row 8 v (aN (gG l)))] (kK m (jr l o)) (.aO [lW m (jr l o),.rv (.bool (jr l o).isSome)]):=by
 refine uR (iO:=[.rv (.sl 8 (gG l)),.rv (.bool o)]) (Ua l o hb m) rfl (fun hp hpre k y r hy hr=>?_) (Ep fun y hy=>?_) (fun q hq=>?_)
 ·match k with
  | 0=>
    cases hy;cases hr
    have:=og (h:=hp) (τ:=fun _=>none) (j:=j) (e:=8) (az:=v) (len:=l.length) (xs:=gG l) (hpre _ (.head _)) rfl (by rw [oa];omega) (fun x hx r hr=>by
     obtain ⟨c,_,rfl⟩:=List.mem_map.1 hx
     simp -implicitDefEqProofs only [Ch.cells,List.mem_cons,List.not_mem_nil,or_false] at hr
     rcases hr with rfl | rfl | rfl | rfl | rfl | rfl | rfl | rfl <;> rfl)
    rw [List.take_of_length_le (by rw [oa];omega)] at this
    exact .fz _ _ this
  | 1=>cases hy;cases hr;exact aG.2 rfl
  | k+2=>simp at hy
 ·simp -implicitDefEqProofs only [List.mem_cons,List.not_mem_nil,or_false] at hy
  rcases hy with rfl | rfl
  ·exact Ht _ _
  ·exact .rv _ (.bool _)
 ·revert hq
  cases jr l o with
  | none=>simp [kK]
  | some z=>
    simp -implicitDefEqProofs only [kK,List.mem_singleton]
    rintro rfl
    refine ⟨JQ _,fun p hp=>?_⟩
    subst hp
    exact sD
end Go.aL

namespace Go.aL
open Go
theorem PF:aU Go.Proofs.Tryz.prog 68 34 (fc Go.Proofs.Tryz.prog 68 34 [(.c 4 8 true),(.t 5)]) [(.c 4 8 true),(.t 5)]:=bl (by kernel_rfl)
theorem PG:aU Go.Proofs.Tryz.prog 73 36 (fc Go.Proofs.Tryz.prog 73 36 [(.c 2 2 true)]) [(.c 2 2 true)]:=bl (by kernel_rfl)
theorem ru (x:Ln) (b:Int) (has:Bool):aK Go.Proofs.Tryz.prog 35 [x.sv,.rv (.int .i64 b),.rv (.bool has)] [] [] (.aO [(fR x b has).sv,.rv (.bool (gS x b has))]):=by
 refine bu PD [x.sv,.rv (.int .i64 b),.rv (.bool has)] _ (by simp) (by simp [aP,aY,bq,aW,bk,aC.sv,Ln.sv,Nd.sv]) (fun K hK=>?_)
 have hf:=jP x.n
 have hp:=UD b x.n
 conv in fc _ _ _ _=>reduce
 simp -implicitDefEqProofs only [Ln.sv,Ln.cells,Sz.sv,Sz.cells,go_sem,Int.reduceNegSucc]
 have bf:=hf;have y_2:=hp;repeat' (first | (simp -implicitDefEqProofs only [go_sem,Int.reduceNegSucc]) | (with_reducible refine aA ?_) | (with_reducible first | refine ag bf ?_ | refine ah bf ?_) | (with_reducible first | refine ag y_2 ?_ | refine ah y_2 ?_) | ((first | refine ai (fun hg=>?_) (fun hg=>?_) | refine ax (fun hg=>?_) (fun hg=>?_) | refine ay (fun hg=>?_) (fun hg=>?_)) <;> try simp -implicitDefEqProofs only [hg,Bool.not_true,Bool.not_false]) | ((with_reducible apply And.intro);focus (first | trivial | omega | decide | (simp -implicitDefEqProofs only [maxLen];omega) | (simp [maxLen,af,ak,an,av,aj,au,aq] <;> omega))) | fail)
 all_goals (refine (hK _ _ ?_).2;clear hK;simp -implicitDefEqProofs only [go_sem,Int.reduceNegSucc,aQ,aS,aX,bn,aI,aG,aF,Sz.sv,Sz.cells,fR,gS,lF] <;>(try simp_all [-Int.not_lt,-Int.not_le,aI,aG,aF,bA,Sz.sv,Sz.cells,fR,gS,lF]) <;> try omega)
theorem Ip (q:Q4 Ln) (b:Int):aK Go.Proofs.Tryz.prog 68 [.agg (q.oG.map .rv),.rv (.int .i64 b)] [] [] (.aO [.agg ((mG q b).gZ.map .rv),.rv (.bool (oL q b))]):=by
 refine bu PF [.agg (q.oG.map .rv),.rv (.int .i64 b)] _ (by simp) (by simp [aP,aY,bq,aW,bk,aC.sv,Ln.sv,Nd.sv]) (fun K hK=>?_)
 have ha:=ru q.a b true
 have hb:=ru q.b b true
 have hc:=ru q.c b true
 have hd:=ru q.d b true
 conv in fc _ _ _ _=>reduce
 simp -implicitDefEqProofs only [Q4.oG,Ln.sv,Ln.cells,Sz.sv,Sz.cells,go_sem,Int.reduceNegSucc] at *
 repeat' (first | (simp -implicitDefEqProofs only [go_sem,Int.reduceNegSucc]) | (with_reducible refine aA ?_) | ((first | refine ai (fun hg=>?_) (fun hg=>?_) | refine ax (fun hg=>?_) (fun hg=>?_) | refine ay (fun hg=>?_) (fun hg=>?_)) <;> try simp -implicitDefEqProofs only [hg,Bool.not_true,Bool.not_false]) | ((with_reducible apply And.intro);focus (first | trivial | omega | decide | (simp -implicitDefEqProofs only [maxLen];omega) | (simp [maxLen,af,ak,an,av,aj,au,aq] <;> omega))) | fail)
 refine jX 5 ?_
 have bB:=ha;have bG:=hb;have bI:=hc;have bK:=hd;repeat' (first | (simp -implicitDefEqProofs only [go_sem,Int.reduceNegSucc,kj,kk,ko,kr,ku,kz,jT,Int.reduceLT,decide_true,decide_false,Int.reduceToNat,Nat.reduceMul]) | (with_reducible refine aA ?_) | (with_reducible show G _ _ (It.l _ _::_) _ _ _;refine jW ?_) | (with_reducible first | refine ag bB ?_ | refine ah bB ?_) | (with_reducible first | refine ag bG ?_ | refine ah bG ?_) | (with_reducible first | refine ag bI ?_ | refine ah bI ?_) | (with_reducible first | refine ag bK ?_ | refine ah bK ?_) | ((first | refine ai (fun hg=>?_) (fun hg=>?_) | refine ax (fun hg=>?_) (fun hg=>?_) | refine ay (fun hg=>?_) (fun hg=>?_)) <;> try simp -implicitDefEqProofs only [hg,Bool.not_true,Bool.not_false]) | ((with_reducible apply And.intro);focus (first | trivial | omega | decide | (simp -implicitDefEqProofs only [maxLen];omega) | (simp [maxLen,af,ak,an,av,aj,au,aq] <;> omega))) | fail)
 all_goals (refine (hK _ _ ?_).2;clear hK;simp -implicitDefEqProofs only [go_sem,Int.reduceNegSucc,aQ,aS,aX,bn,aI,aG,aF,mG,oL,wI,Q4.gZ] <;>(try simp_all [-Int.not_lt,-Int.not_le,aI,aG,aF,bA,mG,oL,wI,Q4.gZ]) <;> try omega)
theorem Io (x y:Ln) (b:Int) (has:Bool):aK Go.Proofs.Tryz.prog 36 [x.sv,y.sv,.rv (.int .i64 b),.rv (.bool has)] [] [] (.aO [.rv (.int .i64 (bh (fR x b has) 0)),.rv (.int .i64 (bh (fR y b has) 1125899906842624)),.rv (.bool (gS x b has && gS y b has))]):=by
 refine bu PC [x.sv,y.sv,.rv (.int .i64 b),.rv (.bool has)] _ (by simp) (by simp [aP,aY,bq,aW,bk,aC.sv,Ln.sv,Nd.sv]) (fun K hK=>?_)
 have h1:=ru x b has
 have h2:=ru y b has
 have o1:=oM (fR x b has) 0
 have o2:=oM (fR y b has) 1125899906842624
 generalize fR x b has=X at *
 generalize fR y b has=Y at *
 conv in fc _ _ _ _=>reduce
 simp -implicitDefEqProofs only [Ln.sv,Ln.cells,Sz.sv,Sz.cells,go_sem,Int.reduceNegSucc] at *
 have bL:=h1;have bO:=h2;have cl:=o1;have cr:=o2;repeat' (first | (simp -implicitDefEqProofs only [go_sem,Int.reduceNegSucc]) | (with_reducible refine aA ?_) | (with_reducible first | refine ag bL ?_ | refine ah bL ?_) | (with_reducible first | refine ag bO ?_ | refine ah bO ?_) | (with_reducible first | refine ag cl ?_ | refine ah cl ?_) | (with_reducible first | refine ag cr ?_ | refine ah cr ?_) | ((first | refine ai (fun hg=>?_) (fun hg=>?_) | refine ax (fun hg=>?_) (fun hg=>?_) | refine ay (fun hg=>?_) (fun hg=>?_)) <;> try simp -implicitDefEqProofs only [hg,Bool.not_true,Bool.not_false]) | ((with_reducible apply And.intro);focus (first | trivial | omega | decide | (simp -implicitDefEqProofs only [maxLen];omega) | (simp [maxLen,af,ak,an,av,aj,au,aq] <;> omega))) | fail)
 all_goals (refine (hK _ _ ?_).2;clear hK;simp -implicitDefEqProofs only [go_sem,Int.reduceNegSucc,aQ,aS,aX,bn,aI,aG,aF] <;>(try simp_all [-Int.not_lt,-Int.not_le,aI,aG,aF,bA]) <;> try omega)
theorem UP (x:Int):aK Go.Proofs.Tryz.prog 73 [.rv (.sl 1 [[.int .i64 x]])] [] [] (Su.sv ⟨max x 0,min x 0⟩):=by
 refine bu PG [.rv (.sl 1 [[.int .i64 x]])] _ (by simp) (by simp [aP,aY,bq,aW,bk,aC.sv,Ln.sv,Nd.sv]) (fun K hK=>?_)
 conv in fc _ _ _ _=>reduce
 simp -implicitDefEqProofs only [go_sem,Int.reduceNegSucc]
 repeat' (first | (simp -implicitDefEqProofs only [go_sem,Int.reduceNegSucc]) | (with_reducible refine aA ?_) | ((first | refine ai (fun hg=>?_) (fun hg=>?_) | refine ax (fun hg=>?_) (fun hg=>?_) | refine ay (fun hg=>?_) (fun hg=>?_)) <;> try simp -implicitDefEqProofs only [hg,Bool.not_true,Bool.not_false]) | ((with_reducible apply And.intro);focus (first | trivial | omega | decide | (simp -implicitDefEqProofs only [maxLen];omega) | (simp [maxLen,af,ak,an,av,aj,au,aq] <;> omega))) | fail)
 refine jX 2 ?_
 repeat' (first | (simp -implicitDefEqProofs only [go_sem,Int.reduceNegSucc,kj,kk,ko,kr,ku,kz,jT,Int.reduceLT,decide_true,decide_false,Int.reduceToNat,Nat.reduceMul]) | (with_reducible refine aA ?_) | (with_reducible show G _ _ (It.l _ _::_) _ _ _;refine jW ?_) | ((first | refine ai (fun hg=>?_) (fun hg=>?_) | refine ax (fun hg=>?_) (fun hg=>?_) | refine ay (fun hg=>?_) (fun hg=>?_)) <;> try simp -implicitDefEqProofs only [hg,Bool.not_true,Bool.not_false]) | ((with_reducible apply And.intro);focus (first | trivial | omega | decide | (simp -implicitDefEqProofs only [maxLen];omega) | (simp [maxLen,af,ak,an,av,aj,au,aq] <;> omega))) | fail)
 all_goals (refine (hK _ _ ?_).2;clear hK;simp -implicitDefEqProofs only [go_sem,Int.reduceNegSucc,aQ,aS,aX,bn,aI,aG,aF,Su.sv,Su.cells] <;>(try simp_all [-Int.not_lt,-Int.not_le,aI,aG,aF,bA,Su.sv,Su.cells]) <;> try omega)
theorem Iq (x:Int) (id:Nat):aK Go.Proofs.Tryz.prog 73 [.row id 0 1] [(id,.row 1 0 [[.rv (.int .i64 x)]])] [] (Su.sv ⟨max x 0,min x 0⟩):=by
 refine uR (iO:=[.rv (.sl 1 [[.int .i64 x]])]) (UP x) rfl (fun hp hpre k y r hy hr=>?_) (AJ fun y hy=>?_) (by simp)
 ·match k with
  | 0=>
    cases hy;cases hr
    have:=og (h:=hp) (τ:=fun _=>none) (j:=id) (e:=1) (az:=0) (len:=1) (xs:=[[.int .i64 x]]) (hpre _ (.head _)) rfl (by simp) (by simp;rfl)
    exact .fz _ _ this
  | k+1=>simp at hy
 ·simp -implicitDefEqProofs only [Su.cells,List.map_cons,List.map_nil,List.mem_cons,List.not_mem_nil,or_false] at hy
  rcases hy with rfl | rfl <;> exact .rv _ (.int _ _)
end Go.aL

namespace Go.aL
open Go
theorem PL:aU Go.Proofs.Tryz.prog 75 24 (fc Go.Proofs.Tryz.prog 75 24 [(.t 4)]) [(.t 4)]:=bl (by kernel_rfl)
theorem PK:aU Go.Proofs.Tryz.prog 45 145 (fc Go.Proofs.Tryz.prog 45 145 [(.c 4 7 true),(.t 5)]) [(.c 4 7 true),(.t 5)]:=bl (by kernel_rfl)
def ki:List Ch→Nat
 | []=>0
 | c::l=>if c.through=true then ki l+1 else 1
def gK (l:List Ch) (o:Bool):Nat:=if o=true then ki l else 0
theorem zO:∀ l:List Ch,ki l≤l.length
 | []=>Nat.le_refl _
 | c::l=>by have:=zO l;simp -implicitDefEqProofs only [ki,List.length_cons];split <;> omega
theorem IP:∀ (l:List Ch) (i:Nat) (h:i<l.length),i+1<ki l→l[i].through=true
 | c::l,0,h,h1=>by simp -implicitDefEqProofs only [ki] at h1;split at h1 <;> simp_all
 | c::l,i+1,h,h1=>by
   simp -implicitDefEqProofs only [ki] at h1
   split at h1
   ·exact IP l i (by simpa using h) (by omega)
   ·omega
theorem IN:∀ (l:List Ch) (h:ki l<l.length),∃ h0:ki l - 1<l.length,0<ki l∧(l[ki l - 1]'h0).through=false
 | c::l,h=>by
   simp -implicitDefEqProofs only [ki] at h ⊢
   split
   ·rename_i hc
    rw [if_pos hc] at h
    obtain ⟨h0,h1,h2⟩:=IN l (by simpa using h)
    refine ⟨by simp;omega,by omega,?_⟩
    have:ki l+1 - 1=(ki l - 1)+1:=by omega
    simp -implicitDefEqProofs only [this,List.getElem_cons_succ]
    exact h2
   ·rename_i hc
    exact ⟨by simp,by omega,by simpa using hc⟩
theorem DF (c:Ch):(c.cells.map SV.rv)[6]?=some (.rv (.bool c.through)):=rfl
theorem Lb (c:Ch):c.cells[6]?=some (.bool c.through):=rfl
theorem xP (c:Ch):(c.cells.drop 6)[0]?=some (.bool c.through):=rfl
theorem UT (l:List Ch) (o:Bool) (hb:l.length≤1000000):aK Go.Proofs.Tryz.prog 75 [.rv (.sl 8 (gG l)),.rv (.bool o)] [] [] (.rv (.int .i64 (gK l o))):=by
 refine bu PL [.rv (.sl 8 (gG l)),.rv (.bool o)] _ (by simp) (by simp [aP,aY,bq,aW,bk,aC.sv,Ln.sv,Nd.sv]) (fun K hK=>?_)
 have hl:=oa l
 conv in fc _ _ _ _=>reduce
 simp -implicitDefEqProofs only [go_sem,Int.reduceNegSucc]
 cases o with
 | false=>
   repeat' (first | (simp -implicitDefEqProofs only [go_sem,Int.reduceNegSucc]) | (with_reducible refine aA ?_) | ((first | refine ai (fun hg=>?_) (fun hg=>?_) | refine ax (fun hg=>?_) (fun hg=>?_) | refine ay (fun hg=>?_) (fun hg=>?_)) <;> try simp -implicitDefEqProofs only [hg,Bool.not_true,Bool.not_false]) | ((with_reducible apply And.intro);focus (first | trivial | omega | decide | (simp -implicitDefEqProofs only [maxLen];omega) | (simp [maxLen,af,ak,an,av,aj,au,aq] <;> omega))) | fail)
   exact (hK _ _ (bS rfl)).2
 | true=>
   simp -implicitDefEqProofs only [gK,if_true] at hK
   repeat' (first | (simp -implicitDefEqProofs only [go_sem,Int.reduceNegSucc,hl]) | (with_reducible refine aA ?_) | ((first | refine ai (fun hg=>?_) (fun hg=>?_) | refine ax (fun hg=>?_) (fun hg=>?_) | refine ay (fun hg=>?_) (fun hg=>?_)) <;> try simp -implicitDefEqProofs only [hg,Bool.not_true,Bool.not_false]) | ((with_reducible apply And.intro);focus (first | trivial | omega | decide | (simp -implicitDefEqProofs only [maxLen];omega) | (simp [maxLen,af,ak,an,av,aj,au,aq] <;> omega))) | fail)
   refine fH (ι:=Nat) (fun k=>[(10,.rv (.int .i64 k)),(9,.rv (.int .i64 l.length)),(0,.rv (.sl 8 (gG l)))]) (fun _=>[]) (fun k=>k≤l.length∧ki l=k+ki (l.drop k)) (fun k=>l.length - k) 0 ⟨Nat.zero_le _,by simp⟩ (bg (by simp [lk])) (fun k hk K' hN hX hR=>?_)
   obtain ⟨fJ,hk2⟩:=hk
   simp -implicitDefEqProofs only [go_sem,Int.reduceNegSucc]
   refine ai (fun hg=>?_) (fun hg=>?_)
   ·have aE:k<l.length:=by simp at hg;omega
    have wu:=fB (k:=k) (by omega)
    have hx:=uT aE
    rw [List.drop_eq_getElem_cons aE,ki] at hk2
    generalize l[k]=c at *
    have q1:=DF c
    have q3:=xP c
    have q2:c.cells.length=8:=rfl
    cases hc:c.through with
    | true=>
      rw [hc] at q1 hk2 q3
      simp -implicitDefEqProofs only [if_true] at hk2
      repeat' (first | (simp -implicitDefEqProofs only [go_sem,Int.reduceNegSucc,hl,hx,q1,q2,q3,wu,List.length_drop]) | (with_reducible refine aA ?_) | ((first | refine ai (fun hg=>?_) (fun hg=>?_) | refine ax (fun hg=>?_) (fun hg=>?_) | refine ay (fun hg=>?_) (fun hg=>?_)) <;> try simp -implicitDefEqProofs only [hg,Bool.not_true,Bool.not_false]) | ((with_reducible apply And.intro);focus (first | trivial | omega | decide | (simp -implicitDefEqProofs only [maxLen];omega) | (simp [maxLen,af,ak,an,av,aj,au,aq] <;> omega))) | fail)
      exact hN (k+1) _ _ ⟨by omega,by omega⟩ (by omega) (bg (by simp [lk]))
    | false=>
      rw [hc] at q1 hk2 q3
      simp -implicitDefEqProofs only [Bool.false_eq_true,if_false] at hk2
      repeat' (first | (simp -implicitDefEqProofs only [go_sem,Int.reduceNegSucc,hl,hx,q1,q2,q3,wu,List.length_drop]) | (with_reducible refine aA ?_) | ((first | refine ai (fun hg=>?_) (fun hg=>?_) | refine ax (fun hg=>?_) (fun hg=>?_) | refine ay (fun hg=>?_) (fun hg=>?_)) <;> try simp -implicitDefEqProofs only [hg,Bool.not_true,Bool.not_false]) | ((with_reducible apply And.intro);focus (first | trivial | omega | decide | (simp -implicitDefEqProofs only [maxLen];omega) | (simp [maxLen,af,ak,an,av,aj,au,aq] <;> omega))) | fail)
      exact hR _ _ (hK _ _ (bS (by simp [lk,hk2]))).2
   ·have aE:k=l.length:=by simp at hg;omega
    subst aE
    simp -implicitDefEqProofs only [go_sem,Int.reduceNegSucc]
    refine hX _ _ _ ?_
    repeat' (first | (simp -implicitDefEqProofs only [go_sem,Int.reduceNegSucc,hl]) | (with_reducible refine aA ?_) | ((first | refine ai (fun hg=>?_) (fun hg=>?_) | refine ax (fun hg=>?_) (fun hg=>?_) | refine ay (fun hg=>?_) (fun hg=>?_)) <;> try simp -implicitDefEqProofs only [hg,Bool.not_true,Bool.not_false]) | ((with_reducible apply And.intro);focus (first | trivial | omega | decide | (simp -implicitDefEqProofs only [maxLen];omega) | (simp [maxLen,af,ak,an,av,aj,au,aq] <;> omega))) | fail)
    exact (hK _ _ (bS (by simp [lk,hk2,ki]))).2
def lq (l:List Ch) (o:Bool):Bool:=o && (gK l o == 0 || ((l[gK l o - 1]?).map (·.through)).getD false)
theorem Dk {l:List Ch} {o:Bool} (h:lq l o=true):o=true∧gK l o=l.length:=by
 simp -implicitDefEqProofs only [lq,Bool.and_eq_true,Bool.or_eq_true,beq_iff_eq] at h
 obtain ⟨rfl,h⟩:=h
 refine ⟨rfl,?_⟩
 simp -implicitDefEqProofs only [gK,if_true] at h ⊢
 rcases Nat.lt_or_ge (ki l) l.length with hc | hc
 ·obtain ⟨h0,h1,h2⟩:=IN l hc
  rcases h with h | h
  ·omega
  ·simp [h0,h2] at h
 ·have:=zO l;omega
def T1 (l:List Ch) (o:Bool) (k:Nat) (e:Int) (t c:Su):Prop:=
 (if bP e=true then nQ (l.drop k) ⟨e,t,c,if k<gK l o then true else lq l o⟩ (List.replicate k 0) else none)=jr l o∧(k<gK l o→e=0∧c=⟨0,0⟩)
theorem JT (l:List Ch) (o:Bool):T1 l o 0 0 ⟨0,0⟩ ⟨0,0⟩:=by
 refine ⟨?_,fun _=>⟨rfl,rfl⟩⟩
 rw [if_pos (by rfl)]
 have:(if 0<gK l o then true else lq l o)=o:=by
  split
  ·rename_i h
   cases o
   ·simp [gK] at h
   ·rfl
  ·rename_i h
   have:gK l o=0:=by omega
   simp [lq,this]
 rw [this];rfl
theorem JU {l:List Ch} {o:Bool} {k:Nat} {e:Int} {t c:Su} (h:T1 l o k e t c) (hk:k<gK l o) (gI:k<l.length) :
 T1 l o (k+1) (if l[k].through=true then e else l[k].high) (fM t l[k].top) (if l[k].through=true then c else l[k].bottom):=by
 obtain ⟨h1,h2⟩:=h
 obtain ⟨rfl,rfl⟩:=h2 hk
 have ho:o=true:=by cases o <;> simp [gK] at hk ⊢
 subst ho
 rw [if_pos (by rfl),if_pos hk,List.drop_eq_getElem_cons gI,nQ] at h1
 cases lC:l[k].through with
 | true=>
   simp -implicitDefEqProofs only [if_true]
   refine ⟨?_,fun _=>⟨rfl,rfl⟩⟩
   simp -implicitDefEqProofs only [sW,qn,nN,lC,if_true] at h1
   rw [if_pos (by rfl)] at h1 ⊢
   rw [← h1,List.replicate_succ']
   have:(if k+1<gK l true then true else lq l true)=true:=by
    split
    ·rfl
    ·have e1:gK l true - 1=k:=by omega
     simp [lq,e1,gI,lC]
   rw [this]
 | false=>
   have e1:gK l true=k+1:=by
    rcases Nat.lt_or_ge (k+1) (gK l true) with hc | hc
    ·have:=IP l k gI (by simpa [gK] using hc)
     rw [this] at lC;cases lC
    ·omega
   simp -implicitDefEqProofs only [Bool.false_eq_true,if_false]
   refine ⟨?_,fun h=>by omega⟩
   simp -implicitDefEqProofs only [sW,qn,nN,lC,if_true,Bool.false_eq_true,if_false] at h1
   rw [← h1,List.replicate_succ']
   have:(if k+1<gK l true then true else lq l true)=false:=by
    rw [if_neg (by omega)]
    simp [lq,e1,gI,lC]
   rw [this]
def T2 (l:List Ch) (o:Bool) (k:Nat) (p:Pl) (ys:List Int):Prop:=k≤l.length∧ys.length=k∧nQ (l.drop k) p ys=jr l o∧(p.me=true→k=l.length)
theorem JV {l:List Ch} {o:Bool} {e:Int} {t c:Su} (h:T1 l o (gK l o) e t c) (hf:bP e=true):T2 l o (gK l o) ⟨e,t,c,lq l o⟩ (List.replicate (gK l o) 0):=by
 obtain ⟨h1,_⟩:=h
 rw [if_pos hf,if_neg (Nat.lt_irrefl _)] at h1
 refine ⟨?_,by simp,h1,fun h=>(Dk h).2⟩
 unfold gK
 split
 ·exact zO l
 ·exact Nat.zero_le _
end Go.aL

namespace Go.aL
open Go
def qt:List SV:=[.rv .cw,.rv (.int .i64 0),.rv (.int .i64 0),.rv (.int .i64 0),.rv (.int .i64 0),.rv (.int .i64 0),.rv (.bool false)]
theorem zV {N:Nat}:mO N qt:=jw (rs:=[.cw,.int .i64 0,.int .i64 0,.int .i64 0,.int .i64 0,.int .i64 0,.bool false])
theorem KT (c:Ch):((c.cells.map SV.rv).drop 2).take 2=[.rv (.int .i64 c.bottom.p),.rv (.int .i64 c.bottom.n)]:=rfl
theorem KU (c:Ch):((c.cells.map SV.rv).drop 4).take 2=[.rv (.int .i64 c.inner.p),.rv (.int .i64 c.inner.n)]:=rfl
theorem KV (c:Ch):(c.cells.map SV.rv)[7]?=some (.rv (.int .i64 c.high)):=rfl
theorem DA (c:Ch):(c.cells.drop 0).take 2=[.int .i64 c.top.p,.int .i64 c.top.n]:=rfl
theorem DB (c:Ch):(c.cells.drop 2).take 2=[.int .i64 c.bottom.p,.int .i64 c.bottom.n]:=rfl
theorem KX (c:Ch):(c.cells.map SV.rv).take 2=[.rv (.int .i64 c.top.p),.rv (.int .i64 c.top.n)]:=rfl
theorem DE (c:Ch):c.cells.take 2=[.int .i64 c.top.p,.int .i64 c.top.n]:=rfl
theorem KY (c:Ch):(c.cells.map SV.rv).take 8=c.cells.map SV.rv:=rfl
theorem KZ (c:Ch):c.cells.take 8=c.cells:=rfl
theorem KW (c:Ch):(c.cells.map SV.rv).drop 8=[]:=rfl
theorem DD (c:Ch):(c.cells.drop 7)[0]?=some (.int .i64 c.high):=rfl
theorem Al (c:Ch):c.cells.length=8:=rfl
theorem via {p X:Prop} (h1:X→p) (h2:X):p:=h1 h2
def qX (m k:Nat) (p:Pl):HB:=.var (.row m k k::p.cells.map .rv)
def rI (k:Nat) (ys:List Int):HB:=.row 1 k (aN (aM ys))
def qp (l:List Ch) (n:Nat) (q:Nat×Int×Su×Su×List Int):List (Nat×SV):=[(34,.rv (.int .i64 q.1)),(33,.rv (.int .i64 n)),(7,.ptr 1 0),(0,.rv (.sl 8 (gG l))),(6,.rv (.int .i64 n)),(4,.ptr 0 0)]
def zG (A:Bool) (q:Nat×Int×Su×Su×List Int):List (Option HB):=[some (.var qt),some (qX 2 q.1 ⟨q.2.1,q.2.2.1,q.2.2.2.1,A⟩),some (rI q.1 q.2.2.2.2)]
def Cx (l:List Ch) (o:Bool) (n:Nat) (q:Nat×Int×Su×Su×List Int):Prop:=q.1≤n∧q.2.2.2.2=List.replicate q.1 0∧T1 l o q.1 q.2.1 q.2.2.1 q.2.2.2.1
theorem UQ (l:List Ch) (o:Bool) (hb:l.length≤1000000) (m:Nat):aK Go.Proofs.Tryz.prog 45 [.rv (.sl 8 (gG l)),.rv (.bool o)] [] (kK m (jr l o)) (.aO [lW m (jr l o),.rv (.bool (jr l o).isSome)]):=by
 refine mU PK [] [] [] [.rv (.sl 8 (gG l)),.rv (.bool o)] [.rv (.sl 8 (gG l)),.rv (.bool o)] _ _ (by simp) (by simp [aP,aW]) rfl (by simp [bW]) (by simp [hD]) (fun K hK=>?_)
 have hl:=oa l
 have ht:=UT l o hb
 have Wj:gK l o≤l.length:=by
  unfold gK;split
  ·exact zO l
  ·exact Nat.zero_le _
 have yq:=JT l o
 have hT:=@JV l o
 have Wd:=@Dk l o
 have EK:(o=false∧gK l o=0∧lq l o=false)∨(o=true∧gK l o=0∧lq l o=true)∨(o=true∧gK l o≠0∧∃ h:gK l o - 1<l.length,lq l o=(l[gK l o - 1]'h).through):=by
  cases o with
  | false=>exact .inl ⟨rfl,rfl,rfl⟩
  | true=>
    by_cases h0:gK l true=0
    ·exact .inr (.inl ⟨rfl,h0,by simp [lq,h0]⟩)
    ·have hh:gK l true - 1<l.length:=by omega
     exact .inr (.inr ⟨rfl,h0,hh,by simp [lq,h0,hh]⟩)
 generalize hA:lq l o=A at *
 generalize hn:gK l o=n at *
 conv in fc _ _ _ _=>reduce
 simp -implicitDefEqProofs only [go_sem,Int.reduceNegSucc]
 apply via
 ·intro main
  rcases EK with ⟨ho,h0,tT⟩ | ⟨ho,h0,tT⟩ | ⟨ho,h0,hh,tT⟩
  ·rw [ho] at ht
   have bf:=ht;repeat' (first | (simp -implicitDefEqProofs only [go_sem,Int.reduceNegSucc,hl,ho]) | (with_reducible refine aA ?_) | (with_reducible first | refine ag bf ?_ | refine ah bf ?_) | ((first | refine ai (fun hg=>?_) (fun hg=>?_) | refine ax (fun hg=>?_) (fun hg=>?_) | refine ay (fun hg=>?_) (fun hg=>?_)) <;> try simp -implicitDefEqProofs only [hg,Bool.not_true,Bool.not_false]) | ((with_reducible apply And.intro);focus (first | trivial | omega | decide | (simp -implicitDefEqProofs only [maxLen];omega) | (simp [maxLen,af,ak,an,av,aj,au,aq] <;> omega))) | fail)
   refine fH (qp l n) (zG A) (Cx l o n) (fun q=>n - q.1) (0,0,⟨0,0⟩,⟨0,0⟩,[]) ⟨Nat.zero_le _,rfl,yq⟩ ?_ main
   subst tT
   refine (tJ 1 1 0 rfl rfl).trans (bg ?_)
   simp [lk,aR,qp]
  ·have e0:((n:Int) == 0)=true:=by rw [h0];rfl
   rw [ho] at ht
   have y_2:=ht;repeat' (first | (simp -implicitDefEqProofs only [go_sem,Int.reduceNegSucc,hl,e0,ho]) | (with_reducible refine aA ?_) | (with_reducible first | refine ag y_2 ?_ | refine ah y_2 ?_) | ((first | refine ai (fun hg=>?_) (fun hg=>?_) | refine ax (fun hg=>?_) (fun hg=>?_) | refine ay (fun hg=>?_) (fun hg=>?_)) <;> try simp -implicitDefEqProofs only [hg,Bool.not_true,Bool.not_false]) | ((with_reducible apply And.intro);focus (first | trivial | omega | decide | (simp -implicitDefEqProofs only [maxLen];omega) | (simp [maxLen,af,ak,an,av,aj,au,aq] <;> omega))) | fail)
   refine fH (qp l n) (zG A) (Cx l o n) (fun q=>n - q.1) (0,0,⟨0,0⟩,⟨0,0⟩,[]) ⟨Nat.zero_le _,rfl,yq⟩ ?_ main
   subst tT
   refine (tJ 1 1 0 rfl rfl).trans (bg ?_)
   simp [lk,aR,qp]
  ·rw [ho] at ht
   have e1:((n:Int) == 0)=false:=by rw [Bool.eq_false_iff];simp;omega
   have w1:IntKind.i64.wrap ((n:Int) - 1)=((n - 1:Nat):Int):=by rw [wrap_i64 (by omega) (by omega)];omega
   have hx:=uT hh
   have q6:=Lb (l[n - 1]'hh)
   have q5:=xP (l[n - 1]'hh)
   have q4:=Al (l[n - 1]'hh)
   rw [← tT] at q5 q6
   generalize l[n - 1]'hh=cc at *
   have bB:=ht;repeat' (first | (simp -implicitDefEqProofs only [go_sem,Int.reduceNegSucc,hl,e1,w1,hx,q6,q5,q4,ho,List.length_drop]) | (with_reducible refine aA ?_) | (with_reducible first | refine ag bB ?_ | refine ah bB ?_) | ((first | refine ai (fun hg=>?_) (fun hg=>?_) | refine ax (fun hg=>?_) (fun hg=>?_) | refine ay (fun hg=>?_) (fun hg=>?_)) <;> try simp -implicitDefEqProofs only [hg,Bool.not_true,Bool.not_false]) | ((with_reducible apply And.intro);focus (first | trivial | omega | decide | (simp -implicitDefEqProofs only [maxLen];omega) | (simp [maxLen,af,ak,an,av,aj,au,aq] <;> omega) | (omega;done))) | fail)
   refine fH (qp l n) (zG A) (Cx l o n) (fun q=>n - q.1) (0,0,⟨0,0⟩,⟨0,0⟩,[]) ⟨Nat.zero_le _,rfl,yq⟩ ?_ main
   subst tT
   refine (tJ 1 1 0 rfl rfl).trans (bg ?_)
   simp [lk,aR,qp]
 ·clear EK ht
  intro q hq K' hN hX hR
  obtain ⟨k,e,t,c,ys⟩:=q
  obtain ⟨fJ,hk2,ga⟩:=hq
  unfold qp zG
  dsimp only at fJ hk2 ga ⊢
  have mC:ys.length=k:=by rw [hk2];simp
  simp -implicitDefEqProofs only [qX,rI,Pl.cells,qt,go_sem,Int.reduceNegSucc]
  refine ai (fun hg=>?_) (fun hg=>?_)
  ·have aE:k<n:=by simp at hg;omega
   have gI:k<l.length:=by omega
   have wu:=fB (k:=k) (by omega)
   have hx:=uT gI
   have hs:=JU ga (by rw [hn];exact aE) gI
   have fG:=aj ys
   have jc:(aM ys).take k=aM ys:=List.take_of_length_le (by omega)
   have j1:=uB t l[k].top
   generalize l[k]=x at *
   have r1:=DA x
   have r2:=DB x
   have r3:=DE x
   have r4:=DD x
   have r5:=xP x
   have r6:=Al x
   have vu:(ys++[(0:Int)]).length=ys.length+1:=by simp
   simp -implicitDefEqProofs only [Su.sv,Su.cells,List.map_cons,List.map_nil] at j1
   cases lC:x.through with
   | true=>
     rw [lC] at r5
     simp -implicitDefEqProofs only [lC,if_true] at hs
     have bG:=j1;repeat' (first | (simp -implicitDefEqProofs only [go_sem,Int.reduceNegSucc,hl,hx,r1,r2,r3,r4,r5,r6,mC,fG,jc,mF,List.length_drop,wu]) | (with_reducible refine aA ?_) | (with_reducible first | refine ag bG ?_ | refine ah bG ?_) | ((first | refine ai (fun hg=>?_) (fun hg=>?_) | refine ax (fun hg=>?_) (fun hg=>?_) | refine ay (fun hg=>?_) (fun hg=>?_)) <;> try simp -implicitDefEqProofs only [hg,Bool.not_true,Bool.not_false]) | ((with_reducible apply And.intro);focus (first | trivial | omega | decide | (simp -implicitDefEqProofs only [maxLen];omega) | (simp [maxLen,af,ak,an,av,aj,au,aq] <;> omega) | (omega;done))) | fail)
     exact hN (k+1,e,fM t x.top,c,ys++[0]) _ _ ⟨by dsimp only;omega,by simp [hk2,List.replicate_succ'],hs⟩ (by dsimp only;omega) (ny (h':=[some (.var qt),some (qX 2 (k+1) ⟨e,fM t x.top,c,A⟩),some (rI (k+1) (ys++[0]))]) (Nat.zero_le _) ⟨zV,⟨jx.2 (by simp),jw⟩,iP,trivial⟩ (by simp [qp,hJ,lk,jE,lJ]))
   | false=>
     rw [lC] at r5
     simp -implicitDefEqProofs only [lC,Bool.false_eq_true,if_false] at hs
     have bI:=j1;repeat' (first | (simp -implicitDefEqProofs only [go_sem,Int.reduceNegSucc,hl,hx,r1,r2,r3,r4,r5,r6,mC,fG,jc,mF,List.length_drop,wu]) | (with_reducible refine aA ?_) | (with_reducible first | refine ag bI ?_ | refine ah bI ?_) | ((first | refine ai (fun hg=>?_) (fun hg=>?_) | refine ax (fun hg=>?_) (fun hg=>?_) | refine ay (fun hg=>?_) (fun hg=>?_)) <;> try simp -implicitDefEqProofs only [hg,Bool.not_true,Bool.not_false]) | ((with_reducible apply And.intro);focus (first | trivial | omega | decide | (simp -implicitDefEqProofs only [maxLen];omega) | (simp [maxLen,af,ak,an,av,aj,au,aq] <;> omega) | (omega;done))) | fail)
     exact hN (k+1,x.high,fM t x.top,x.bottom,ys++[0]) _ _ ⟨by dsimp only;omega,by simp [hk2,List.replicate_succ'],hs⟩ (by dsimp only;omega) (ny (h':=[some (.var qt),some (qX 2 (k+1) ⟨x.high,fM t x.top,x.bottom,A⟩),some (rI (k+1) (ys++[0]))]) (Nat.zero_le _) ⟨zV,⟨jx.2 (by simp),jw⟩,iP,trivial⟩ (by simp [qp,hJ,lk,jE,lJ]))
  ·have aE:k=n:=by simp at hg;omega
   subst aE
   simp -implicitDefEqProofs only [go_sem,Int.reduceNegSucc]
   refine hX _ _ _ ?_
   clear hN hX hR
   have hf:=jP e
   cases hfe:bP e with
   | false=>
     rw [hfe] at hf
     have hnone:jr l o=none:=by rw [← ga.1,if_neg (by rw [hfe];simp)]
     rw [hnone] at hK
     have bK:=hf;repeat' (first | (simp -implicitDefEqProofs only [go_sem,Int.reduceNegSucc]) | (with_reducible refine aA ?_) | (with_reducible first | refine ag bK ?_ | refine ah bK ?_) | ((first | refine ai (fun hg=>?_) (fun hg=>?_) | refine ax (fun hg=>?_) (fun hg=>?_) | refine ay (fun hg=>?_) (fun hg=>?_)) <;> try simp -implicitDefEqProofs only [hg,Bool.not_true,Bool.not_false]) | ((with_reducible apply And.intro);focus (first | trivial | omega | decide | (simp -implicitDefEqProofs only [maxLen];omega) | (simp [maxLen,af,ak,an,av,aj,au,aq] <;> omega))) | fail)
     refine (hK _ _ _ _ [] (gM _ _) ?_).2
     simp [gV,bW,newL,gY,gN,aS,aQ,lk,aX,fW,gk,fZ,iz,iy,aB,gW,bn,aG,gw,gX,iG,aI,iF,aF,gB,fX,ij,lW,kK,Pl.cells,aI,aF]
   | true=>
     rw [hfe] at hf
     have h2:=hT ga hfe
     rw [← hk2] at h2
     clear ga hk2 yq hT
     have bL:=hf;repeat' (first | (simp -implicitDefEqProofs only [go_sem,Int.reduceNegSucc]) | (with_reducible refine aA ?_) | (with_reducible first | refine ag bL ?_ | refine ah bL ?_) | ((first | refine ai (fun hg=>?_) (fun hg=>?_) | refine ax (fun hg=>?_) (fun hg=>?_) | refine ay (fun hg=>?_) (fun hg=>?_)) <;> try simp -implicitDefEqProofs only [hg,Bool.not_true,Bool.not_false]) | ((with_reducible apply And.intro);focus (first | trivial | omega | decide | (simp -implicitDefEqProofs only [maxLen];omega) | (simp [maxLen,af,ak,an,av,aj,au,aq] <;> omega))) | fail)
     refine fH (ι:=Nat×Pl×List Int) (fun q=>[(9,.rv (.int .i64 q.1)),(7,.ptr 1 0),(0,.rv (.sl 8 (gG l))),(4,.ptr 0 0)]) (fun q=>[some (.var qt),some (qX 2 q.1 q.2.1),some (rI q.1 q.2.2)])
      (fun q=>T2 l o q.1 q.2.1 q.2.2) (fun q=>l.length - q.1) (k,⟨e,t,c,A⟩,ys) h2 (bg (by simp [lk])) (fun q hq K' hN hX hR=>?_)
     clear h2
     obtain ⟨i,p,zs⟩:=q
     obtain ⟨hi1,hi2,jJ,hi4⟩:=hq
     dsimp only at hi1 hi2 jJ hi4 ⊢
     simp -implicitDefEqProofs only [qX,rI,Pl.cells,qt,go_sem,Int.reduceNegSucc]
     refine ai (fun hg=>?_) (fun hg=>?_)
     ·have gI:i<l.length:=by simp at hg;omega
      have wu:=fB (k:=i) (by omega)
      have hx:=uT gI
      have vF:p.me=false:=by
       cases hp:p.me
       ·rfl
       ·have:=hi4 hp;omega
      have fG:=aj zs
      have jc:(aM zs).take i=aM zs:=List.take_of_length_le (by omega)
      rw [List.drop_eq_getElem_cons gI,nQ] at jJ
      generalize l[i]=x at *
      have r0:=KZ x
      have r1:=DA x
      have r2:=DB x
      have r3:=DE x
      have r4:=DD x
      have r5:=xP x
      have r6:=Al x
      have r7:=KY x
      have r8:=KW x
      have s0:=KX x
      have s1:=KT x
      have s2:=KU x
      have s3:=DF x
      have s4:=KV x
      have j1:=uB p.cur (mg x)
      have j2:=uB p.cur x.top
      have v1:=CD (fM p.cur (mg x))
      have u1:=fun id=>ta id [p.iB,iN (fM p.cur (mg x))] (by simp)
      have u2:=fun id=>ta id [ct [p.iB,iN (fM p.cur (mg x))],x.high] (by simp)
      simp -implicitDefEqProofs only [sW,qn,nN,vF,Bool.false_eq_true,if_false] at jJ
      simp -implicitDefEqProofs only [kS,Su.sv,Su.cells,List.map_cons,List.map_nil,List.length_cons,List.length_nil,Nat.reduceAdd] at j1 j2 v1 u1 u2
      cases lC:x.through with
      | true=>
        rw [lC] at s3 jJ r5
        simp -implicitDefEqProofs only [mg,lC,if_true] at j1 j2 v1 u1 u2 jJ
        cases vz:nS (fM p.cur x.inner) <;> cases vA:fS [p.iB,iN (fM p.cur x.inner)] <;> rw [vz] at v1 jJ <;> rw [vA] at u1 jJ <;> simp -implicitDefEqProofs only [Bool.and_self,Bool.false_and,Bool.and_false,Bool.true_and,Bool.true_or,Bool.and_true,Bool.false_eq_true,if_false,if_true] at jJ
        case true.true=>
         have bO:=j1;have cl:=v1;have cr:=u1;have fU:=j2;repeat' (first | (simp -implicitDefEqProofs only [go_sem,Int.reduceNegSucc,vF,hl,hx,r0,r1,r2,r3,r4,r5,r6,r7,r8,s0,s1,s2,s3,s4,fG,jc,mF,List.length_drop,List.length_map,List.append_nil,wu]) | (with_reducible refine aA ?_) | (with_reducible first | refine ag bO ?_ | refine ah bO ?_) | (with_reducible first | refine ag cl ?_ | refine ah cl ?_) | ((first | refine bQ (cr _) ?_ ?_ ?_ | refine bV (cr _) ?_ ?_ ?_ | fail);(focus (simp [aT,aB] <;> fail));(focus (simp [aZ,aR] <;> fail))) | (with_reducible first | refine ag fU ?_ | refine ah fU ?_) | ((first | refine ai (fun hg=>?_) (fun hg=>?_) | refine ax (fun hg=>?_) (fun hg=>?_) | refine ay (fun hg=>?_) (fun hg=>?_)) <;> try simp -implicitDefEqProofs only [hg,Bool.not_true,Bool.not_false]) | ((with_reducible apply And.intro);focus (first | trivial | omega | decide | (simp -implicitDefEqProofs only [maxLen];omega) | (simp [maxLen,af,ak,an,av,aj,au,aq] <;> omega) | (omega;done))) | fail)
         exact hN (i+1,⟨p.iB,p.top,fM p.cur x.top,false⟩,zs++[ct [p.iB,iN (fM p.cur x.inner)]]) _ _ ⟨gI,by simp [hi2],jJ,fun h=>by cases h⟩ (by dsimp only;omega) (ny (h':=[some (.var qt),some (qX 2 (i+1) ⟨p.iB,p.top,fM p.cur x.top,false⟩),some (rI (i+1) (zs++[ct [p.iB,iN (fM p.cur x.inner)]]))]) (Nat.zero_le _) ⟨zV,⟨jx.2 (by simp),jw⟩,iP,trivial⟩ (by simp [hJ,lk,jE,lJ]))
        all_goals
         have gx:=j1;have gO:=v1;have gP:=u1;have gQ:=j2;repeat' (first | (simp -implicitDefEqProofs only [go_sem,Int.reduceNegSucc,vF,hl,hx,r0,r1,r2,r3,r4,r5,r6,r7,r8,s0,s1,s2,s3,s4,fG,jc,mF,List.length_drop,List.length_map,List.append_nil,wu]) | (with_reducible refine aA ?_) | (with_reducible first | refine ag gx ?_ | refine ah gx ?_) | (with_reducible first | refine ag gO ?_ | refine ah gO ?_) | ((first | refine bQ (gP _) ?_ ?_ ?_ | refine bV (gP _) ?_ ?_ ?_ | fail);(focus (simp [aT,aB] <;> fail));(focus (simp [aZ,aR] <;> fail))) | (with_reducible first | refine ag gQ ?_ | refine ah gQ ?_) | ((first | refine ai (fun hg=>?_) (fun hg=>?_) | refine ax (fun hg=>?_) (fun hg=>?_) | refine ay (fun hg=>?_) (fun hg=>?_)) <;> try simp -implicitDefEqProofs only [hg,Bool.not_true,Bool.not_false]) | ((with_reducible apply And.intro);focus (first | trivial | omega | decide | (simp -implicitDefEqProofs only [maxLen];omega) | (simp [maxLen,af,ak,an,av,aj,au,aq] <;> omega) | (omega;done))) | fail)
         refine hR _ _ (hK _ _ _ _ [] (gM _ _) ?_).2
         rw [← jJ]
         simp [gV,bW,newL,gY,gN,aS,aQ,lk,aX,fW,gk,fZ,iz,iy,aB,gW,bn,aG,gw,gX,iG,aI,iF,aF,gB,fX,ij,lW,kK,Pl.cells,aI,aF]
      | false=>
        rw [lC] at s3 jJ r5
        simp -implicitDefEqProofs only [mg,lC,Bool.false_eq_true,if_false] at j1 j2 v1 u1 u2 jJ
        cases vz:nS (fM p.cur x.top) <;> cases vA:fS [p.iB,iN (fM p.cur x.top)] <;> cases vB:fS [ct [p.iB,iN (fM p.cur x.top)],x.high] <;> rw [vz] at v1 jJ <;> rw [vA] at u1 jJ <;> rw [vB] at u2 jJ <;> simp -implicitDefEqProofs only [Bool.and_self,Bool.false_and,Bool.and_false,Bool.true_and,Bool.true_or,Bool.and_true,Bool.false_or,Bool.false_eq_true,if_false,if_true] at jJ
        case true.true.true=>
         have ir:=j1;have iu:=v1;have iw:=u1;have jh:=u2;repeat' (first | (simp -implicitDefEqProofs only [go_sem,Int.reduceNegSucc,vF,hl,hx,r0,r1,r2,r3,r4,r5,r6,r7,r8,s0,s1,s2,s3,s4,fG,jc,mF,List.length_drop,List.length_map,List.append_nil,wu]) | (with_reducible refine aA ?_) | (with_reducible first | refine ag ir ?_ | refine ah ir ?_) | (with_reducible first | refine ag iu ?_ | refine ah iu ?_) | ((first | refine bQ (iw _) ?_ ?_ ?_ | refine bV (iw _) ?_ ?_ ?_ | fail);(focus (simp [aT,aB] <;> fail));(focus (simp [aZ,aR] <;> fail))) | ((first | refine bQ (jh _) ?_ ?_ ?_ | refine bV (jh _) ?_ ?_ ?_ | fail);(focus (simp [aT,aB] <;> fail));(focus (simp [aZ,aR] <;> fail))) | ((first | refine ai (fun hg=>?_) (fun hg=>?_) | refine ax (fun hg=>?_) (fun hg=>?_) | refine ay (fun hg=>?_) (fun hg=>?_)) <;> try simp -implicitDefEqProofs only [hg,Bool.not_true,Bool.not_false]) | ((with_reducible apply And.intro);focus (first | trivial | omega | decide | (simp -implicitDefEqProofs only [maxLen];omega) | (simp [maxLen,af,ak,an,av,aj,au,aq] <;> omega) | (omega;done))) | fail)
         exact hN (i+1,⟨ct [ct [p.iB,iN (fM p.cur x.top)],x.high],p.top,x.bottom,false⟩,zs++[ct [p.iB,iN (fM p.cur x.top)]]) _ _ ⟨gI,by simp [hi2],jJ,fun h=>by cases h⟩ (by dsimp only;omega) (ny (h':=[some (.var qt),some (qX 2 (i+1) ⟨ct [ct [p.iB,iN (fM p.cur x.top)],x.high],p.top,x.bottom,false⟩),some (rI (i+1) (zs++[ct [p.iB,iN (fM p.cur x.top)]]))]) (Nat.zero_le _) ⟨zV,⟨jx.2 (by simp),jw⟩,iP,trivial⟩ (by simp [hJ,lk,jE,lJ]))
        all_goals
         have ji:=j1;have jQ:=v1;have mL:=u1;have mM:=u2;repeat' (first | (simp -implicitDefEqProofs only [go_sem,Int.reduceNegSucc,vF,hl,hx,r0,r1,r2,r3,r4,r5,r6,r7,r8,s0,s1,s2,s3,s4,fG,jc,mF,List.length_drop,List.length_map,List.append_nil,wu]) | (with_reducible refine aA ?_) | (with_reducible first | refine ag ji ?_ | refine ah ji ?_) | (with_reducible first | refine ag jQ ?_ | refine ah jQ ?_) | ((first | refine bQ (mL _) ?_ ?_ ?_ | refine bV (mL _) ?_ ?_ ?_ | fail);(focus (simp [aT,aB] <;> fail));(focus (simp [aZ,aR] <;> fail))) | ((first | refine bQ (mM _) ?_ ?_ ?_ | refine bV (mM _) ?_ ?_ ?_ | fail);(focus (simp [aT,aB] <;> fail));(focus (simp [aZ,aR] <;> fail))) | ((first | refine ai (fun hg=>?_) (fun hg=>?_) | refine ax (fun hg=>?_) (fun hg=>?_) | refine ay (fun hg=>?_) (fun hg=>?_)) <;> try simp -implicitDefEqProofs only [hg,Bool.not_true,Bool.not_false]) | ((with_reducible apply And.intro);focus (first | trivial | omega | decide | (simp -implicitDefEqProofs only [maxLen];omega) | (simp [maxLen,af,ak,an,av,aj,au,aq] <;> omega) | (omega;done))) | fail)
         refine hR _ _ (hK _ _ _ _ [] (gM _ _) ?_).2
         rw [← jJ]
         simp [gV,bW,newL,gY,gN,aS,aQ,lk,aX,fW,gk,fZ,iz,iy,aB,gW,bn,aG,gw,gX,iG,aI,iF,aF,gB,fX,ij,lW,kK,Pl.cells,aI,aF]
     ·have aE:i=l.length:=by simp at hg;omega
      subst aE
      simp -implicitDefEqProofs only [go_sem,Int.reduceNegSucc]
      refine hX _ _ _ ?_
      rw [List.drop_length,nQ] at jJ
      repeat' (first | (simp -implicitDefEqProofs only [go_sem,Int.reduceNegSucc]) | (with_reducible refine aA ?_) | ((first | refine ai (fun hg=>?_) (fun hg=>?_) | refine ax (fun hg=>?_) (fun hg=>?_) | refine ay (fun hg=>?_) (fun hg=>?_)) <;> try simp -implicitDefEqProofs only [hg,Bool.not_true,Bool.not_false]) | ((with_reducible apply And.intro);focus (first | trivial | omega | decide | (simp -implicitDefEqProofs only [maxLen];omega) | (simp [maxLen,af,ak,an,av,aj,au,aq] <;> omega))) | fail)
      refine (hK _ _ _ _ [none,none,some m] (gM _ _) ?_).2
      rw [← jJ]
      simp [gV,bW,newL,gY,gN,aS,aQ,lk,aX,fW,gk,fZ,iz,iy,aB,gW,bn,aG,gw,gX,iG,aI,iF,aF,gB,fX,ij,lW,kK,Pl.cells,lG,aI,aF,hi2]
end Go.aL

namespace Go.aL
open Go
theorem Qh:aU Go.Proofs.Tryz.prog 117 28 (fc Go.Proofs.Tryz.prog 117 28 [(.t 6)]) [(.t 6)]:=bl (by kernel_rfl)
theorem Qg:aU Go.Proofs.Tryz.prog 96 59 (fc Go.Proofs.Tryz.prog 96 59 [(.c 8 8 true)]) [(.c 8 8 true)]:=bl (by kernel_rfl)
abbrev Ed.sv (e:Ed):SV:=.agg (e.cells.map .rv)
def nu (e:Ed):List Int:=[e.bD.d,e.pad.d.n,e.pad.b.n,e.bD.b]
def jD (e:Ed):List Int:=[e.bD.a,e.pad.a.n,e.pad.c.n,e.bD.c]
theorem Uf (e:Ed):aK Go.Proofs.Tryz.prog 62 [e.sv,.rv (.int .i64 3),.rv (.int .i64 1)] [] [] (.aO [.rv (.int .i64 (ct (nu e))),.rv (.bool (fS (nu e)))]):=by
 refine bu FV [e.sv,.rv (.int .i64 3),.rv (.int .i64 1)] _ (by simp) (by simp [aP,aY,bq,aW,bk,aC.sv,Ln.sv,Nd.sv]) (fun K hK=>?_)
 have h:=fun id=>sZ id (nu e) (by simp [nu])
 simp -implicitDefEqProofs only [kS,nu,List.map_cons,List.map_nil,List.length_cons,List.length_nil,Nat.reduceAdd] at h hK
 conv in fc _ _ _ _=>reduce
 simp -implicitDefEqProofs only [Ed.sv,Ed.cells,Q4.gZ,Q4.ints,go_sem,Int.reduceNegSucc]
 have bf:=h;repeat' (first | (simp -implicitDefEqProofs only [go_sem,Int.reduceNegSucc]) | (with_reducible refine aA ?_) | ((first | refine bQ (bf _) ?_ ?_ ?_ | refine bV (bf _) ?_ ?_ ?_ | fail);(focus (simp [aT,aB] <;> fail));(focus (simp [aZ,aR] <;> fail))) | ((first | refine ai (fun hg=>?_) (fun hg=>?_) | refine ax (fun hg=>?_) (fun hg=>?_) | refine ay (fun hg=>?_) (fun hg=>?_)) <;> try simp -implicitDefEqProofs only [hg,Bool.not_true,Bool.not_false]) | ((with_reducible apply And.intro);focus (first | trivial | omega | decide | (simp -implicitDefEqProofs only [maxLen];omega) | (simp [maxLen,af,ak,an,av,aj,au,aq] <;> omega))) | fail)
 exact (hK _ _ (gj rfl rfl)).2
theorem Ue (e:Ed):aK Go.Proofs.Tryz.prog 62 [e.sv,.rv (.int .i64 0),.rv (.int .i64 2)] [] [] (.aO [.rv (.int .i64 (ct (jD e))),.rv (.bool (fS (jD e)))]):=by
 refine bu FV [e.sv,.rv (.int .i64 0),.rv (.int .i64 2)] _ (by simp) (by simp [aP,aY,bq,aW,bk,aC.sv,Ln.sv,Nd.sv]) (fun K hK=>?_)
 have h:=fun id=>sZ id (jD e) (by simp [jD])
 simp -implicitDefEqProofs only [kS,jD,List.map_cons,List.map_nil,List.length_cons,List.length_nil,Nat.reduceAdd] at h hK
 conv in fc _ _ _ _=>reduce
 simp -implicitDefEqProofs only [Ed.sv,Ed.cells,Q4.gZ,Q4.ints,go_sem,Int.reduceNegSucc]
 have y_2:=h;repeat' (first | (simp -implicitDefEqProofs only [go_sem,Int.reduceNegSucc]) | (with_reducible refine aA ?_) | ((first | refine bQ (y_2 _) ?_ ?_ ?_ | refine bV (y_2 _) ?_ ?_ ?_ | fail);(focus (simp [aT,aB] <;> fail));(focus (simp [aZ,aR] <;> fail))) | ((first | refine ai (fun hg=>?_) (fun hg=>?_) | refine ax (fun hg=>?_) (fun hg=>?_) | refine ay (fun hg=>?_) (fun hg=>?_)) <;> try simp -implicitDefEqProofs only [hg,Bool.not_true,Bool.not_false]) | ((with_reducible apply And.intro);focus (first | trivial | omega | decide | (simp -implicitDefEqProofs only [maxLen];omega) | (simp [maxLen,af,ak,an,av,aj,au,aq] <;> omega))) | fail)
 exact (hK _ _ (gj rfl rfl)).2
def wM (e:Ed) (kids:Nat) (p:Pl):Bool:=e.flat && if kids=0 then e.high.auto || (e.high.n == 0) else e.high.auto && p.me
def lV (y:RV) (p:Pl):List RV:=y::p.cells
theorem Ve (e:Ed) (kids:Nat) (y:RV) (p:Pl):aK Go.Proofs.Tryz.prog 117 [e.sv,.rv (.int .i64 kids),.agg ((lV y p).map .rv)] [] [] (.rv (.bool (wM e kids p))):=by
 refine bu Qh [e.sv,.rv (.int .i64 kids),.agg ((lV y p).map .rv)] _ (by simp) (by simp [aP,aY,bq,aW,bk,aC.sv,Ln.sv,Nd.sv]) (fun K hK=>?_)
 have hk:((kids:Int) == 0)=decide (kids=0):=by rw [Bool.eq_iff_iff];simp
 simp -implicitDefEqProofs only [wM] at hK
 conv in fc _ _ _ _=>reduce
 simp -implicitDefEqProofs only [Ed.sv,Ed.cells,lV,Pl.cells,Q4.gZ,Q4.ints,go_sem,Int.reduceNegSucc]
 by_cases h0:kids=0 <;> simp -implicitDefEqProofs only [h0,decide_true,decide_false] at hk
 all_goals ((repeat' (first | (simp -implicitDefEqProofs only [go_sem,Int.reduceNegSucc,hk]) | (with_reducible refine aA ?_) | ((first | refine ai (fun hg=>?_) (fun hg=>?_) | refine ax (fun hg=>?_) (fun hg=>?_) | refine ay (fun hg=>?_) (fun hg=>?_)) <;> try simp -implicitDefEqProofs only [hg,Bool.not_true,Bool.not_false]) | ((with_reducible apply And.intro);focus (first | trivial | omega | decide | (simp -implicitDefEqProofs only [maxLen];omega) | (simp [maxLen,af,ak,an,av,aj,au,aq] <;> omega))) | fail)))
 all_goals (refine (hK _ _ (bS ?_)).2;clear hK;simp_all [lk])
def pT (e:Ed) (kids:Nat) (p:Pl) (high:Int):Ch:=
 let b:Su:=⟨max (bh e.bC.c 0) 0,min (bh e.bC.c 0) 0⟩
 let i:=fM ⟨max (bh e.bC.a 0) 0,min (bh e.bC.a 0) 0⟩ p.top
 if wM e kids p=true then ⟨fM i b,fM i b,i,true,high⟩
 else ⟨i,if e.lE=true∧0<kids then fM b p.cur else b,i,false,high⟩
theorem Ui (e:Ed) (kids:Nat) (y:RV) (p:Pl) (high:Int):aK Go.Proofs.Tryz.prog 96 [e.sv,.rv (.int .i64 kids),.agg ((lV y p).map .rv),.rv (.int .i64 high)] [] [] (.agg ((pT e kids p high).cells.map .rv)):=by
 refine bu Qg [e.sv,.rv (.int .i64 kids),.agg ((lV y p).map .rv),.rv (.int .i64 high)] _ (by simp) (by simp [aP,aY,bq,aW,bk,aC.sv,Ln.sv,Nd.sv]) (fun K hK=>?_)
 have o1:=ni e.bC.a 0
 have o2:=ni e.bC.c 0
 have s1:=Ix (bh e.bC.a 0)
 have s2:=Ix (bh e.bC.c 0)
 have ht:=Ve e kids y p
 simp -implicitDefEqProofs only [pT] at hK
 generalize (⟨max (bh e.bC.a 0) 0,min (bh e.bC.a 0) 0⟩:Su)=A at *
 generalize (⟨max (bh e.bC.c 0) 0,min (bh e.bC.c 0) 0⟩:Su)=B at *
 have j1:=uC A p.top
 have j2:=uC (fM A p.top) B
 have j3:=uC B p.cur
 have hk:decide ((kids:Int)>0)=decide (0<kids):=by simp
 generalize wM e kids p=T at *
 generalize fM A p.top=I at *
 simp -implicitDefEqProofs only [Ed.sv,Ed.cells,lV,Pl.cells,Q4.gZ,Q4.ints,Su.sv,Su.cells,Sz.sv,Sz.cells,List.map_cons,List.map_nil,List.cons_append,List.nil_append] at o1 o2 s1 s2 ht j1 j2 j3
 conv in fc _ _ _ _=>reduce
 simp -implicitDefEqProofs only [Ed.sv,Ed.cells,lV,Pl.cells,Q4.gZ,Q4.ints,go_sem,Int.reduceNegSucc]
 cases T <;> simp -implicitDefEqProofs only [Bool.false_eq_true,if_true,if_false] at hK ⊢
 all_goals ((have bB:=o1;have bG:=o2;have bI:=s1;have bK:=s2;have bL:=ht;have bO:=j1;have cl:=j2;have cr:=j3;repeat' (first | (simp -implicitDefEqProofs only [go_sem,Int.reduceNegSucc,hk]) | (with_reducible refine aA ?_) | (with_reducible first | refine ag bB ?_ | refine ah bB ?_) | (with_reducible first | refine ag bG ?_ | refine ah bG ?_) | (with_reducible first | refine ag bI ?_ | refine ah bI ?_) | (with_reducible first | refine ag bK ?_ | refine ah bK ?_) | (with_reducible first | refine ag bL ?_ | refine ah bL ?_) | (with_reducible first | refine ag bO ?_ | refine ah bO ?_) | (with_reducible first | refine ag cl ?_ | refine ah cl ?_) | (with_reducible first | refine ag cr ?_ | refine ah cr ?_) | ((first | refine ai (fun hg=>?_) (fun hg=>?_) | refine ax (fun hg=>?_) (fun hg=>?_) | refine ay (fun hg=>?_) (fun hg=>?_)) <;> try simp -implicitDefEqProofs only [hg,Bool.not_true,Bool.not_false]) | ((with_reducible apply And.intro);focus (first | trivial | omega | decide | (simp -implicitDefEqProofs only [maxLen];omega) | (simp [maxLen,af,ak,an,av,aj,au,aq] <;> omega))) | fail)))
 all_goals (refine (hK _ _ ?_).2;clear hK;simp -implicitDefEqProofs only [go_sem,Int.reduceNegSucc,aQ,aS,aX,bn,aI,aG,aF,Ch.cells] <;>(try simp_all [-Int.not_lt,-Int.not_le,aI,aG,aF,bA,Ch.cells]) <;> try omega)
end Go.aL

namespace Go.aL
open Go
theorem Qi:aU Go.Proofs.Tryz.prog 67 130 (fc Go.Proofs.Tryz.prog 67 130 [(.c 8 25 true),(.c 9 9 true),(.t 10)]) [(.c 8 25 true),(.c 9 9 true),(.t 10)]:=bl (by kernel_rfl)
theorem Qe:aU Go.Proofs.Tryz.prog 30 116 (fc Go.Proofs.Tryz.prog 30 116 [(.c 10 25 true),(.c 11 9 true),(.t 12)]) [(.c 10 25 true),(.c 11 9 true),(.t 12)]:=bl (by kernel_rfl)
structure Fm where
 x:Int
 y:Int
 w:Int
 h:Int
 bC:Q4 Int
 pad:Q4 Int
 bD:Q4 Int
 known:Bool
 child:Ch
 deriving DecidableEq,Inhabited
def Fm.cells (f:Fm):List RV:=[.int .i64 f.x,.int .i64 f.y,.int .i64 f.w,.int .i64 f.h]++f.bC.ints++f.pad.ints++f.bD.ints++(.bool f.known::f.child.cells)
structure La where
 L:List (Nat×Fm)
 p:Pl
 ys:List Int
 high:Int
 deriving DecidableEq,Inhabited
def kf (q:Nat×Fm):List RV:=.int .i64 q.1::q.2.cells
def gT (L:List (Nat×Fm)):List (List RV):=L.map kf
def bH:Option La→List RV
 | some t=>.sl 26 (gT t.L) :: .sl 1 (aM t.ys)::(t.p.cells++[.int .i64 t.high])
 | none=>[.cw,.cw,.int .i64 0,.int .i64 0,.int .i64 0,.int .i64 0,.int .i64 0,.bool false,.int .i64 0]
def bR:Option Fm→List RV
 | some f=>f.cells
 | none=>[.int .i64 0,.int .i64 0,.int .i64 0,.int .i64 0,.int .i64 0,.int .i64 0,.int .i64 0,.int .i64 0,.int .i64 0,.int .i64 0,.int .i64 0,.int .i64 0,.int .i64 0,.int .i64 0,.int .i64 0,.int .i64 0,.bool false,.int .i64 0,.int .i64 0,.int .i64 0,.int .i64 0,.int .i64 0,.int .i64 0,.bool false,.int .i64 0]
abbrev mT (r:Option (Fm×La)):SV:=.aO [.agg ((bR (r.map (·.1))).map .rv),.agg ((bH (r.map (·.2))).map .rv),.rv (.bool r.isSome)]
def mA (e:Ed):Sz:=if e.high.auto=true then e.high else ⟨false,jF e.high.n e.least e.most⟩
def pz (e:Ed) (t:La):Int:=if e.high.auto=true then jF t.high e.least e.most else jF e.high.n e.least e.most
def tP (e:Ed) (x:Ao) (kids:Nat) (t:La):Fm:=
 ⟨x.l,0,x.w,pz e t,⟨bh e.bC.a 0,x.r,bh e.bC.c 0,x.l⟩,⟨e.pad.a.n,e.pad.b.n,e.pad.c.n,e.pad.d.n⟩,e.bD,!e.high.auto,pT e kids t.p (ct [ct (jD e),pz e t])⟩
def oX (e:Ed) (x:Ao) (kids:Nat) (r:Option La×Bool):Option (Fm×La):=if r.2=true then r.1.bind fun t=>if fS (jD e)=true∧fS [ct (jD e),pz e t]=true then some (tP e x kids t,t) else none else none
theorem Ul (l:List Nd) (hb:l.length≤8589934592) (n:Int) (e:Ed) (x:Ao) (r:Option La×Bool) (hr:r.2=true→r.1.isSome=true)
 (hI:aK Go.Proofs.Tryz.prog 49 [.rv (cv l),.rv (.int .i64 n),.rv (.int .i64 x.w),(mA e).sv,e.sv,.rv (.int .i64 (-1))] [] [] (.aO [.agg ((bH r.1).map .rv),.rv (.bool r.2)])) :
 aK Go.Proofs.Tryz.prog 67 [.rv (cv l),.rv (.int .i64 n),e.sv,.agg (x.cells.map .rv)] [] [] (mT (oX e x (bw l n).length r)):=by
 refine bu Qi [.rv (cv l),.rv (.int .i64 n),e.sv,.agg (x.cells.map .rv)] _ (by simp) (by simp [aP,aY,bq,aW,bk,aC.sv,Ln.sv,Nd.sv]) (fun K hK=>?_)
 obtain ⟨o,ok⟩:=r
 have hc:=Ii e.high.n e.least e.most
 have hf:=HZ l n hb
 have hfl:=zf (bw l n)
 have o1:=ni e.bC.a 0
 have o2:=ni e.bC.c 0
 have ha:=Ue e
 cases ok with
 | false=>
   have e1:oX e x (bw l n).length (o,false)=none:=rfl
   rw [e1] at hK
   obtain ⟨u,hu,lN⟩:∃ u,bH o=u∧u.length=9:=⟨_,rfl,by cases o <;> rfl⟩
   rw [hu] at hI
   have q1:(u.map SV.rv).length=9:=by simp [lN]
   have q2:(u.map SV.rv).drop 9=[]:=List.drop_of_length_le (by omega)
   have q3:(u.map SV.rv).take 9=u.map SV.rv:=List.take_of_length_le (by omega)
   simp -implicitDefEqProofs only [mA] at hI
   simp -implicitDefEqProofs only [Ed.sv,Ed.cells,Q4.gZ,Q4.ints,Sz.sv,Sz.cells,List.map_cons,List.map_nil,List.cons_append,List.nil_append] at hI
   conv in fc _ _ _ _=>reduce
   simp -implicitDefEqProofs only [Ed.sv,Ed.cells,Q4.gZ,Q4.ints,Ao.cells,go_sem,Int.reduceNegSucc]
   cases hh:e.high.auto <;> simp -implicitDefEqProofs only [hh,Bool.false_eq_true,if_true,if_false] at hI ⊢
   all_goals ((have bf:=hc;have y_2:=hI;repeat' (first | (simp -implicitDefEqProofs only [go_sem,Int.reduceNegSucc,lN,q2,q3,List.length_map,List.append_nil]) | (with_reducible refine aA ?_) | (with_reducible first | refine ag bf ?_ | refine ah bf ?_) | (with_reducible first | refine ag y_2 ?_ | refine ah y_2 ?_) | ((first | refine ai (fun hg=>?_) (fun hg=>?_) | refine ax (fun hg=>?_) (fun hg=>?_) | refine ay (fun hg=>?_) (fun hg=>?_)) <;> try simp -implicitDefEqProofs only [hg,Bool.not_true,Bool.not_false]) | ((with_reducible apply And.intro);focus (first | trivial | omega | decide | (simp -implicitDefEqProofs only [maxLen];omega) | (simp [maxLen,af,ak,an,av,aj,au,aq] <;> omega))) | fail)))
   all_goals (refine (hK _ _ ?_).2;simp -implicitDefEqProofs only [go_sem,Int.reduceNegSucc,aQ,aS,aX,bn,aI,aG,aF,bR,bH,Option.map,Option.isSome])
 | true=>
   obtain ⟨t,rfl⟩:=Option.isSome_iff_exists.1 (hr rfl)
   have e1:oX e x (bw l n).length (some t,true)=if fS (jD e)=true∧fS [ct (jD e),pz e t]=true then some (tP e x (bw l n).length t,t) else none:=rfl
   rw [e1] at hK
   have s1:=fun id=>sZ id [ct (jD e),pz e t] (by simp)
   have lK:=Ii t.high e.least e.most
   have qc:=Ui e (bw l n).length (.sl 1 (aM t.ys)) t.p (ct [ct (jD e),pz e t])
   simp -implicitDefEqProofs only [tP] at hK
   generalize pT e (bw l n).length t.p (ct [ct (jD e),pz e t])=C at *
   generalize bh e.bC.a 0=O1 at *
   generalize bh e.bC.c 0=O2 at *
   generalize jD e=A at *
   simp -implicitDefEqProofs only [mA,pz] at hI s1 qc hK
   simp -implicitDefEqProofs only [kS,bH,lV,Pl.cells,Ed.sv,Ed.cells,Q4.gZ,Q4.ints,Sz.sv,Sz.cells,Ch.cells,List.map_cons,List.map_nil,List.cons_append,List.nil_append,List.length_cons,List.length_nil,Nat.reduceAdd] at hI qc ha o1 o2 s1
   conv in fc _ _ _ _=>reduce
   simp -implicitDefEqProofs only [Ed.sv,Ed.cells,Q4.gZ,Q4.ints,Ao.cells,go_sem,Int.reduceNegSucc]
   cases hh:e.high.auto <;> simp -implicitDefEqProofs only [hh,Bool.false_eq_true,if_true,if_false] at hI ha s1 qc hK ⊢
   all_goals ((have bB:=hc;have bG:=lK;have bI:=hI;have bK:=ha;have bL:=s1;have bO:=o1;have cl:=o2;repeat' (first | (simp -implicitDefEqProofs only [go_sem,Int.reduceNegSucc]) | (with_reducible refine aA ?_) | (with_reducible first | refine ag bB ?_ | refine ah bB ?_) | (with_reducible first | refine ag bG ?_ | refine ah bG ?_) | (with_reducible first | refine ag bI ?_ | refine ah bI ?_) | (with_reducible first | refine ag bK ?_ | refine ah bK ?_) | ((first | refine bQ (bL _) ?_ ?_ ?_ | refine bV (bL _) ?_ ?_ ?_ | fail);(focus (simp [aT,aB] <;> fail));(focus (simp [aZ,aR] <;> fail))) | (with_reducible first | refine ag bO ?_ | refine ah bO ?_) | (with_reducible first | refine ag cl ?_ | refine ah cl ?_) | ((first | refine ai (fun hg=>?_) (fun hg=>?_) | refine ax (fun hg=>?_) (fun hg=>?_) | refine ay (fun hg=>?_) (fun hg=>?_)) <;> try simp -implicitDefEqProofs only [hg,Bool.not_true,Bool.not_false]) | ((with_reducible apply And.intro);focus (first | trivial | omega | decide | (simp -implicitDefEqProofs only [maxLen];omega) | (simp [maxLen,af,ak,an,av,aj,au,aq] <;> omega))) | fail)))
   all_goals first | (refine jX 5 ?_;(have cr:=hf;have fU:=qc;repeat' (first | (simp -implicitDefEqProofs only [go_sem,Int.reduceNegSucc,kj,kk,ko,kr,ku,kz,jT,Int.reduceLT,decide_true,decide_false,Int.reduceToNat,Nat.reduceMul,hfl]) | (with_reducible refine aA ?_) | (with_reducible show G _ _ (It.l _ _::_) _ _ _;refine jW ?_) | (with_reducible first | refine ag cr ?_ | refine ah cr ?_) | (with_reducible first | refine ag fU ?_ | refine ah fU ?_) | ((first | refine ai (fun hg=>?_) (fun hg=>?_) | refine ax (fun hg=>?_) (fun hg=>?_) | refine ay (fun hg=>?_) (fun hg=>?_)) <;> try simp -implicitDefEqProofs only [hg,Bool.not_true,Bool.not_false]) | ((with_reducible apply And.intro);focus (first | trivial | omega | decide | (simp -implicitDefEqProofs only [maxLen];omega) | (simp [maxLen,af,ak,an,av,aj,au,aq] <;> omega))) | fail))) | skip
   all_goals (refine (hK _ _ ?_).2;clear hK;simp -implicitDefEqProofs only [go_sem,Int.reduceNegSucc,aQ,aS,aX,bn,aI,aG,aF,bR,bH,Fm.cells,Q4.ints,Ch.cells,Pl.cells,Option.map,Option.isSome] <;>(try simp_all [-Int.not_lt,-Int.not_le,aI,aG,aF,bA,bR,bH,Fm.cells,Q4.ints,Ch.cells,Pl.cells,Option.map,Option.isSome]) <;> try omega)
end Go.aL

namespace Go.aL
open Go
def cn (l:List Nd) (n:Int) (w:Int) (h:Sz):Ed:=uX (bN l n) w h (decide (n=0) || (bN l n).clip)
def okB (l:List Nd) (n:Int) (w:Int) (h:Sz):Bool:=rW (bN l n) w h && fS (nu (cn l n w h)) && gS (bN l n).width w true && gS (bN l n).jo w true && gS (bN l n).jn w true
def qx (l:List Nd) (n:Int) (w:Int) (h:Sz) (bZ:Bool):Ai:=⟨w,(cn l n w h).bC.d,fR (bN l n).width w true,(cn l n w h).bC.b,ct (nu (cn l n w h)),bZ,bh (fR (bN l n).jo w true) 0,bh (fR (bN l n).jn w true) 1125899906842624⟩
def rQ (l:List Nd) (ins:Ed→Ao→Option La×Bool) (n:Int) (w:Int) (h:Sz) (bZ:Bool):Option (Fm×La):=
 if okB l n w h=true then (nr (qx l n w h bZ)).bind fun x=>oX (cn l n w h) x (bw l n).length (ins (cn l n w h) x) else none
theorem GH {x:Ln} {b d:Int} {has:Bool} (h:gS x b has=true) (hd:bP d=true):bP (bh (fR x b has) d)=true:=by
 unfold fR
 split
 ·simpa [bh] using hd
 ·split
  ·rename_i h1;simpa [bh] using h1.2
  ·split
   ·rename_i h1 h2 h3
    simp [h3] at h1
    simp [gS,h3,h1] at h
    simp -implicitDefEqProofs only [bh,Bool.false_eq_true,if_false,lF,h,if_true]
    unfold kW at h;simp at h;exact h.2
   ·rfl
theorem Uh (l:List Nd) (hb:l.length≤8589934592) (n:Int) (w:Int) (h:Sz) (bZ:Bool) (ins:Ed→Ao→Option La×Bool) (hr:∀ e x,(ins e x).2=true→(ins e x).1.isSome=true)
 (hI:∀ x:Ao,aK Go.Proofs.Tryz.prog 49 [.rv (cv l),.rv (.int .i64 n),.rv (.int .i64 x.w),(mA (cn l n w h)).sv,(cn l n w h).sv,.rv (.int .i64 (-1))] [] [] (.aO [.agg ((bH (ins (cn l n w h) x).1).map .rv),.rv (.bool (ins (cn l n w h) x).2)])) :
 aK Go.Proofs.Tryz.prog 30 [.rv (cv l),.rv (.int .i64 n),.rv (.int .i64 w),h.sv,.rv (.bool bZ)] [] [] (mT (rQ l ins n w h bZ)):=by
 refine bu Qe [.rv (cv l),.rv (.int .i64 n),.rv (.int .i64 w),h.sv,.rv (.bool bZ)] _ (by simp) (by simp [aP,aY,bq,aW,bk,aC.sv,Ln.sv,Nd.sv]) (fun K hK=>?_)
 have hst:=Ie l n
 have h0:((n == 0):Bool)=decide (n=0):=by rw [Bool.eq_iff_iff];simp
 have he:=Uk (bN l n) w h (decide (n=0) || (bN l n).clip)
 have ha:=Uf (cn l n w h)
 have h1:=ry (bN l n).width w true
 have h2:=Iu (bN l n).jo w true
 have h3:=Iv (bN l n).jn w true
 have qL:=fun x=>Ul l hb n (cn l n w h) x (ins (cn l n w h) x) (hr _ _) (hI x)
 have hac:=fun a b=>Ud (qx l n w h bZ) a b
 have f1:=fun hq=>GH (x:=(bN l n).jo) (b:=w) (has:=true) hq (d:=0) rfl
 have f2:=fun hq=>GH (x:=(bN l n).jn) (b:=w) (has:=true) hq (d:=1125899906842624) rfl
 clear hI
 rw [show uX (bN l n) w h (decide (n=0) || (bN l n).clip)=cn l n w h from rfl] at he
 unfold qx at hac
 unfold rQ qx okB at hK
 generalize hee:cn l n w h=e at *
 generalize fR (bN l n).width w true=W at *
 generalize bh (fR (bN l n).jo w true) 0=L at *
 generalize bh (fR (bN l n).jn w true) 1125899906842624=X at *
 generalize bN l n=s at *
 have q1:(s.cells.map SV.rv).length=48:=rfl
 generalize hA:ct (nu e)=A at *
 generalize Wa:fS (nu e)=JS at *
 generalize rW s w h=b1 at *
 generalize gS s.width w true=b2 at *
 generalize gS s.jo w true=b3 at *
 generalize gS s.jn w true=b4 at *
 simp -implicitDefEqProofs only [Ed.sv,Ed.cells,Q4.gZ,Q4.ints,Sz.sv,Sz.cells,Ai.sv,Ai.cells,List.map_cons,List.map_nil,List.cons_append,List.nil_append] at he ha h1 h2 h3 qL hac
 conv in fc _ _ _ _=>reduce
 simp -implicitDefEqProofs only [Sz.sv,Sz.cells,go_sem,Int.reduceNegSucc]
 cases hall:(b1 && JS && b2 && b3 && b4) with
 | true=>
   simp -implicitDefEqProofs only [Bool.and_eq_true] at hall
   obtain ⟨⟨⟨⟨rfl,rfl⟩,rfl⟩,rfl⟩,rfl⟩:=hall
   have hx:=hac (f1 rfl) (f2 rfl)
   simp -implicitDefEqProofs only [Bool.and_self,if_true] at hK
   generalize nr ⟨w,e.bC.d,W,e.bC.b,A,bZ,L,X⟩=o at *
   cases o with
   | none=>
     simp -implicitDefEqProofs only [iq,Option.isSome,Ao.cells,List.map_cons,List.map_nil,Option.bind] at hx hK
     cases hn0:decide (n=0) <;> rw [hn0] at he h0 <;> simp -implicitDefEqProofs only [Bool.true_or,Bool.false_or] at he
     all_goals ((have bf:=hst;have y_2:=he;have bB:=ha;have bG:=h1;have bI:=h2;have bK:=h3;have bL:=hx;repeat' (first | (simp -implicitDefEqProofs only [go_sem,Int.reduceNegSucc,q1,cC,dX,cD,dY,cO,ez,cZ,eL,dx,eX,dH,fo,dI,fq,dJ,fu,dK,fy,dL,fA,cE,dZ,cF,ec,cG,ee,cH,eg,cI,ek,cJ,ep,cK,er,cL,eu,cM,ew,cN,ey,cP,eA,cQ,eC,cR,eD,cS,eE,cT,eF,cU,eG,cV,eH,cW,eI,cX,eJ,cY,eK,dc,eM,de,eN,dg,eO,dh,eP,di,eR,dj,eS,dm,eT,dn,eU,dr,eV,dw,eW,dy,eY,dz,eZ,cA,fe,dA,ff,dB,fh,dD,fj,dF,fk,dG,fm,dR,dM,dN,dO,dP,dQ,dS,dU,dV,dW,cB,cz,af,h0]) | (with_reducible refine aA ?_) | (with_reducible first | refine ag bf ?_ | refine ah bf ?_) | (with_reducible first | refine ag y_2 ?_ | refine ah y_2 ?_) | (with_reducible first | refine ag bB ?_ | refine ah bB ?_) | (with_reducible first | refine ag bG ?_ | refine ah bG ?_) | (with_reducible first | refine ag bI ?_ | refine ah bI ?_) | (with_reducible first | refine ag bK ?_ | refine ah bK ?_) | (with_reducible first | refine ag bL ?_ | refine ah bL ?_) | ((first | refine ai (fun hg=>?_) (fun hg=>?_) | refine ax (fun hg=>?_) (fun hg=>?_) | refine ay (fun hg=>?_) (fun hg=>?_)) <;> try simp -implicitDefEqProofs only [hg,Bool.not_true,Bool.not_false]) | ((with_reducible apply And.intro);focus (first | trivial | omega | decide | (simp -implicitDefEqProofs only [maxLen];omega) | (simp [maxLen,af,ak,an,av,aj,au,aq] <;> omega))) | fail)))
     all_goals (refine (hK _ _ ?_).2;clear hK;simp -implicitDefEqProofs only [go_sem,Int.reduceNegSucc,aQ,aS,aX,bn,aI,aG,aF,bR,bH,Option.map,Option.isSome] <;>(try simp_all [-Int.not_lt,-Int.not_le,aI,aG,aF,bA,bR,bH,Option.map,Option.isSome]) <;> try omega)
   | some x=>
     have hfl:=qL x
     simp -implicitDefEqProofs only [iq,Option.isSome,Ao.cells,List.map_cons,List.map_nil,Option.bind] at hx hK hfl
     generalize oX e x (bw l n).length (ins e x)=r at *
     obtain ⟨u,hu,lN⟩:∃ u,bR (r.map (·.1))=u∧u.length=25:=⟨_,rfl,by cases r <;> rfl⟩
     obtain ⟨v,hv,hvl⟩:∃ v,bH (r.map (·.2))=v∧v.length=9:=⟨_,rfl,by cases r <;> rfl⟩
     simp -implicitDefEqProofs only [mT] at hfl hK
     rw [hu,hv] at hfl hK
     have u1:(u.map SV.rv).drop 25=[]:=List.drop_of_length_le (by simp [lN])
     have u2:(u.map SV.rv).take 25=u.map SV.rv:=List.take_of_length_le (by simp [lN])
     have v1:(v.map SV.rv).drop 9=[]:=List.drop_of_length_le (by simp [hvl])
     have v2:(v.map SV.rv).take 9=v.map SV.rv:=List.take_of_length_le (by simp [hvl])
     cases hn0:decide (n=0) <;> rw [hn0] at he h0 <;> simp -implicitDefEqProofs only [Bool.true_or,Bool.false_or] at he
     all_goals ((have bO:=hst;have cl:=he;have cr:=ha;have fU:=h1;have gx:=h2;have gO:=h3;have gP:=hx;have gQ:=hfl;repeat' (first | (simp -implicitDefEqProofs only [go_sem,Int.reduceNegSucc,q1,cC,dX,cD,dY,cO,ez,cZ,eL,dx,eX,dH,fo,dI,fq,dJ,fu,dK,fy,dL,fA,cE,dZ,cF,ec,cG,ee,cH,eg,cI,ek,cJ,ep,cK,er,cL,eu,cM,ew,cN,ey,cP,eA,cQ,eC,cR,eD,cS,eE,cT,eF,cU,eG,cV,eH,cW,eI,cX,eJ,cY,eK,dc,eM,de,eN,dg,eO,dh,eP,di,eR,dj,eS,dm,eT,dn,eU,dr,eV,dw,eW,dy,eY,dz,eZ,cA,fe,dA,ff,dB,fh,dD,fj,dF,fk,dG,fm,dR,dM,dN,dO,dP,dQ,dS,dU,dV,dW,cB,cz,af,h0,lN,hvl,u1,u2,v1,v2,List.length_map,List.append_nil]) | (with_reducible refine aA ?_) | (with_reducible first | refine ag bO ?_ | refine ah bO ?_) | (with_reducible first | refine ag cl ?_ | refine ah cl ?_) | (with_reducible first | refine ag cr ?_ | refine ah cr ?_) | (with_reducible first | refine ag fU ?_ | refine ah fU ?_) | (with_reducible first | refine ag gx ?_ | refine ah gx ?_) | (with_reducible first | refine ag gO ?_ | refine ah gO ?_) | (with_reducible first | refine ag gP ?_ | refine ah gP ?_) | (with_reducible first | refine ag gQ ?_ | refine ah gQ ?_) | ((first | refine ai (fun hg=>?_) (fun hg=>?_) | refine ax (fun hg=>?_) (fun hg=>?_) | refine ay (fun hg=>?_) (fun hg=>?_)) <;> try simp -implicitDefEqProofs only [hg,Bool.not_true,Bool.not_false]) | ((with_reducible apply And.intro);focus (first | trivial | omega | decide | (simp -implicitDefEqProofs only [maxLen];omega) | (simp [maxLen,af,ak,an,av,aj,au,aq] <;> omega))) | fail)))
     all_goals (refine (hK _ _ ?_).2;simp -implicitDefEqProofs only [go_sem,Int.reduceNegSucc,aQ,aS,aX,bn,aI,aG,aF,fX,lN,hvl,u2,v2,List.length_map,List.drop_zero])
 | false=>
   simp -implicitDefEqProofs only [hall,Bool.false_eq_true,if_false] at hK
   cases hn0:decide (n=0) <;> rw [hn0] at he h0 <;> simp -implicitDefEqProofs only [Bool.true_or,Bool.false_or] at he
   all_goals ((have ir:=hst;have iu:=he;have iw:=ha;have jh:=h1;have ji:=h2;have jQ:=h3;repeat' (first | (simp -implicitDefEqProofs only [go_sem,Int.reduceNegSucc,q1,cC,dX,cD,dY,cO,ez,cZ,eL,dx,eX,dH,fo,dI,fq,dJ,fu,dK,fy,dL,fA,cE,dZ,cF,ec,cG,ee,cH,eg,cI,ek,cJ,ep,cK,er,cL,eu,cM,ew,cN,ey,cP,eA,cQ,eC,cR,eD,cS,eE,cT,eF,cU,eG,cV,eH,cW,eI,cX,eJ,cY,eK,dc,eM,de,eN,dg,eO,dh,eP,di,eR,dj,eS,dm,eT,dn,eU,dr,eV,dw,eW,dy,eY,dz,eZ,cA,fe,dA,ff,dB,fh,dD,fj,dF,fk,dG,fm,dR,dM,dN,dO,dP,dQ,dS,dU,dV,dW,cB,cz,af,h0]) | (with_reducible refine aA ?_) | (with_reducible first | refine ag ir ?_ | refine ah ir ?_) | (with_reducible first | refine ag iu ?_ | refine ah iu ?_) | (with_reducible first | refine ag iw ?_ | refine ah iw ?_) | (with_reducible first | refine ag jh ?_ | refine ah jh ?_) | (with_reducible first | refine ag ji ?_ | refine ah ji ?_) | (with_reducible first | refine ag jQ ?_ | refine ah jQ ?_) | ((first | refine ai (fun hg=>?_) (fun hg=>?_) | refine ax (fun hg=>?_) (fun hg=>?_) | refine ay (fun hg=>?_) (fun hg=>?_)) <;> try simp -implicitDefEqProofs only [hg,Bool.not_true,Bool.not_false]) | ((with_reducible apply And.intro);focus (first | trivial | omega | decide | (simp -implicitDefEqProofs only [maxLen];omega) | (simp [maxLen,af,ak,an,av,aj,au,aq] <;> omega))) | fail)))
   all_goals first | (exfalso;simp_all;done) | skip
   all_goals (refine (hK _ _ ?_).2;clear hK;simp -implicitDefEqProofs only [go_sem,Int.reduceNegSucc,aQ,aS,aX,bn,aI,aG,aF,bR,bH,Option.map,Option.isSome] <;>(try simp_all [-Int.not_lt,-Int.not_le,aI,aG,aF,bA,bR,bH,Option.map,Option.isSome]) <;> try omega)
end Go.aL

namespace Go.aL
open Go
theorem PU:aU Go.Proofs.Tryz.prog 33 115 (fc Go.Proofs.Tryz.prog 33 115 [(.c 8 24 true),(.t 9)]) [(.c 8 24 true),(.t 9)]:=bl (by kernel_rfl)
theorem US (l:List Ch) (o:Bool) (hb:l.length≤1000000) (j v m:Nat) (sD:j≠m):aK Go.Proofs.Tryz.prog 45 [.row j v l.length,.rv (.bool o)] [(j,.row 8 v (aN (gG l)))] (kK m (jr l o)) (.aO [lW m (jr l o),.rv (.bool (jr l o).isSome)]):=by
 refine uR (iO:=[.rv (.sl 8 (gG l)),.rv (.bool o)]) (UQ l o hb m) rfl (fun hp hpre k y r hy hr=>?_) (Ep fun y hy=>?_) (fun q hq=>?_)
 ·match k with
  | 0=>
    cases hy;cases hr
    have:=og (h:=hp) (τ:=fun _=>none) (j:=j) (e:=8) (az:=v) (len:=l.length) (xs:=gG l) (hpre _ (.head _)) rfl (by rw [oa];omega) (fun x hx r hr=>by
     obtain ⟨c,_,rfl⟩:=List.mem_map.1 hx
     simp -implicitDefEqProofs only [Ch.cells,List.mem_cons,List.not_mem_nil,or_false] at hr
     rcases hr with rfl | rfl | rfl | rfl | rfl | rfl | rfl | rfl <;> rfl)
    rw [List.take_of_length_le (by rw [oa];omega)] at this
    exact .fz _ _ this
  | 1=>cases hy;cases hr;exact aG.2 rfl
  | k+2=>simp at hy
 ·simp -implicitDefEqProofs only [List.mem_cons,List.not_mem_nil,or_false] at hy
  rcases hy with rfl | rfl
  ·exact Ht _ _
  ·exact .rv _ (.bool _)
 ·revert hq
  cases jr l o with
  | none=>simp [kK]
  | some z=>
    simp -implicitDefEqProofs only [kK,List.mem_singleton]
    rintro rfl
    refine ⟨JQ _,fun p hp=>?_⟩
    subst hp
    exact sD
structure Kn where
 bC:Q4 Sz
 pad:Q4 Sz
 high:Sz
 least:Int
 most:Int
 top:Bool
 bottom:Bool
 alone:Bool
 empty:Bool
def Kn.cells (e:Kn):List RV:=e.bC.gZ++e.pad.gZ++[.bool e.high.auto,.int .i64 e.high.n,.int .i64 e.least,.int .i64 e.most,.bool e.top,.bool e.bottom,.bool e.alone,.bool e.empty]
abbrev Kn.sv (e:Kn):SV:=.agg (e.cells.map .rv)
def vX (l:List Nd) (n:Int) (w:Int) (h:Sz):Kn:=⟨(cn l n w h).bC,(cn l n w h).pad,(cn l n w h).high,(cn l n w h).least,(cn l n w h).most,rC (bN l n) w,qA (bN l n) w,decide (n=0) || (bN l n).clip,decide ((bw l n).length=0)⟩
theorem II (x:Nd):(x.cells.map SV.rv).take 48=x.s.cells.map SV.rv:=rfl
theorem Uw (l:List Nd) (ht:fT l=true) (hb:l.length≤1000000) (n:Nat) (hn:n<l.length) (w:Int) (h:Sz):aK Go.Proofs.Tryz.prog 33 [.rv (.sl 49 (br l)),.rv (.int .i64 n),.rv (.int .i64 w),h.sv] [] [] (.aO [(vX l n w h).sv,.rv (.bool (rW (bN l n) w h))]):=by
 refine bu PU [.rv (.sl 49 (br l)),.rv (.int .i64 n),.rv (.int .i64 w),h.sv] _ (by simp) (by simp [aP,aY,bq,aW,bk,aC.sv,Ln.sv,Nd.sv]) (fun K hK=>?_)
 have hl:=an l
 have hx:=iM hn
 have hf:=UO l ht (by omega) n hn
 have hfl:=zf (bw l n)
 have jb:bN l n=(l[n]'hn).s:=by simp [bN,sK hn,hn]
 rw [jb] at hK
 have h0:(((n:Int) == 0):Bool)=decide ((n:Int)=0):=by rw [Bool.eq_iff_iff];simp
 have hk:((((bw l n).length:Nat):Int) == 0)=decide ((bw l n).length=0):=by rw [Bool.eq_iff_iff];simp
 simp -implicitDefEqProofs only [vX,cn,uX,jb,rC,qA,we,rW] at hK
 generalize l[n]'hn=x at *
 have x1:=GD x
 have x2:=ak x
 have x3:=II x
 generalize x.s=s at *
 have h1:=Ip s.bC w
 have h2:=Ip s.pad w
 have h3:=ru s.height h.n (!h.auto)
 have h4:=Io s.jM s.jL h.n (!h.auto)
 simp -implicitDefEqProofs only [Q4.gZ,Sz.sv,Sz.cells,List.map_cons,List.map_nil] at h1 h2 h3 h4
 generalize mG s.bC w=M at *
 generalize mG s.pad w=D at *
 generalize fR s.height h.n (!h.auto)=H at *
 generalize bh (fR s.jM h.n (!h.auto)) 0=L at *
 generalize bh (fR s.jL h.n (!h.auto)) 1125899906842624=X at *
 generalize bw l n=FL at *
 conv in fc _ _ _ _=>reduce
 simp -implicitDefEqProofs only [Sz.sv,Sz.cells,go_sem,Int.reduceNegSucc]
 have bf:=h1;have y_2:=h2;have bB:=h3;have bG:=h4;have bI:=hf;repeat' (first | (simp -implicitDefEqProofs only [go_sem,Int.reduceNegSucc,hl,hx,x1,x2,x3,cC,dX,cD,dY,cO,ez,cZ,eL,dx,eX,dH,fo,dI,fq,dJ,fu,dK,fy,dL,fA,cE,dZ,cF,ec,cG,ee,cH,eg,cI,ek,cJ,ep,cK,er,cL,eu,cM,ew,cN,ey,cP,eA,cQ,eC,cR,eD,cS,eE,cT,eF,cU,eG,cV,eH,cW,eI,cX,eJ,cY,eK,dc,eM,de,eN,dg,eO,dh,eP,di,eR,dj,eS,dm,eT,dn,eU,dr,eV,dw,eW,dy,eY,dz,eZ,cA,fe,dA,ff,dB,fh,dD,fj,dF,fk,dG,fm,dR,dM,dN,dO,dP,dQ,dS,dU,dV,dW,cB,cz,af,Q4.ints,hfl,h0,hk]) | (with_reducible refine aA ?_) | (with_reducible first | refine ag bf ?_ | refine ah bf ?_) | (with_reducible first | refine ag y_2 ?_ | refine ah y_2 ?_) | (with_reducible first | refine ag bB ?_ | refine ah bB ?_) | (with_reducible first | refine ag bG ?_ | refine ah bG ?_) | (with_reducible first | refine ag bI ?_ | refine ah bI ?_) | ((first | refine ai (fun hg=>?_) (fun hg=>?_) | refine ax (fun hg=>?_) (fun hg=>?_) | refine ay (fun hg=>?_) (fun hg=>?_)) <;> try simp -implicitDefEqProofs only [hg,Bool.not_true,Bool.not_false]) | ((with_reducible apply And.intro);focus (first | trivial | omega | decide | (simp -implicitDefEqProofs only [maxLen];omega) | (simp [maxLen,af,ak,an,av,aj,au,aq] <;> omega))) | fail)
 all_goals (refine (hK _ _ ?_).2;clear hK;simp -implicitDefEqProofs only [go_sem,Int.reduceNegSucc,aQ,aS,aX,bn,aI,aG,aF,Kn.cells,Q4.gZ] <;>(try simp_all [-Int.not_lt,-Int.not_le,aI,aG,aF,bA,Kn.cells,Q4.gZ]) <;> try omega)
end Go.aL

namespace Go.aL
open Go
theorem PT:aU Go.Proofs.Tryz.prog 40 104 (fc Go.Proofs.Tryz.prog 40 104 [(.c 10 8 true)]) [(.c 10 8 true)]:=bl (by kernel_rfl)
theorem LR (f:Fm):(f.cells.map SV.rv)[4]?=some (.rv (.int .i64 f.bC.a)):=rfl
theorem LS (f:Fm):(f.cells.map SV.rv)[6]?=some (.rv (.int .i64 f.bC.c)):=rfl
theorem UX (k:Kn) (f:Fm) (y:RV) (p:Pl) (ob:Bool) (high:Int) (e:Ed) (kids:Nat) (h1:e.flat=(!k.alone && k.top && k.bottom && (k.least == 0))) (h2:k.empty=decide (kids=0)) (h3:k.high=e.high) (h4:f.bC.a=bh e.bC.a 0) (h5:f.bC.c=bh e.bC.c 0) (h6:ob=e.lE) :
 aK Go.Proofs.Tryz.prog 40 [k.sv,.agg (f.cells.map .rv),.agg ((lV y p).map .rv),.rv (.bool ob),.rv (.int .i64 high)] [] [] (.agg ((pT e kids p high).cells.map .rv)):=by
 refine bu PT [k.sv,.agg (f.cells.map .rv),.agg ((lV y p).map .rv),.rv (.bool ob),.rv (.int .i64 high)] _ (by simp) (by simp [aP,aY,bq,aW,bk,aC.sv,Ln.sv,Nd.sv]) (fun K hK=>?_)
 have s1:=Iq f.bC.a
 have s2:=Iq f.bC.c
 subst h6
 simp -implicitDefEqProofs only [pT,wM,← h3,← h4,← h5,h1] at hK
 have fl:f.cells.length=25:=rfl
 have m0:=LR f
 have m2:=LS f
 generalize (⟨max f.bC.a 0,min f.bC.a 0⟩:Su)=A at *
 generalize (⟨max f.bC.c 0,min f.bC.c 0⟩:Su)=B at *
 have j1:=uB A p.top
 have j2:=uB (fM A p.top) B
 have j3:=uB B p.cur
 obtain ⟨T,hT⟩:∃ T,T=(!k.alone && k.top && k.bottom && (k.least == 0)):=⟨_,rfl⟩
 rw [← hT] at hK
 generalize fM A p.top=I at *
 clear h1 h3 h4 h5
 simp -implicitDefEqProofs only [Kn.sv,Kn.cells,lV,Pl.cells,Q4.gZ,Su.sv,Su.cells,List.map_cons,List.map_nil,List.cons_append,List.nil_append] at s1 s2 j1 j2 j3
 conv in fc _ _ _ _=>reduce
 simp -implicitDefEqProofs only [Kn.sv,Kn.cells,lV,Pl.cells,Q4.gZ,go_sem,Int.reduceNegSucc]
 by_cases yG:kids=0
 ·have hem:k.empty=true:=by rw [h2];simp [yG]
  simp -implicitDefEqProofs only [yG,if_true,Nat.lt_irrefl,and_false,if_false] at hK
  cases om:k.alone <;> cases vJ:k.top <;> cases mu:k.bottom <;> simp -implicitDefEqProofs only [om,vJ,mu,Bool.not_true,Bool.not_false,Bool.false_and,Bool.true_and,Bool.and_false] at hT
  all_goals (try subst hT)
  all_goals ((have bf:=s1;have y_2:=s2;have bB:=j1;have bG:=j2;have bI:=j3;repeat' (first | (simp -implicitDefEqProofs only [go_sem,Int.reduceNegSucc,hem,om,vJ,mu,fl,m0,m2,List.length_map]) | (with_reducible refine aA ?_) | ((first | refine bQ (bf _) ?_ ?_ ?_ | refine bV (bf _) ?_ ?_ ?_ | fail);(focus (simp [aT,aB] <;> fail));(focus (simp [aZ,aR] <;> fail))) | ((first | refine bQ (y_2 _) ?_ ?_ ?_ | refine bV (y_2 _) ?_ ?_ ?_ | fail);(focus (simp [aT,aB] <;> fail));(focus (simp [aZ,aR] <;> fail))) | (with_reducible first | refine ag bB ?_ | refine ah bB ?_) | (with_reducible first | refine ag bG ?_ | refine ah bG ?_) | (with_reducible first | refine ag bI ?_ | refine ah bI ?_) | ((first | refine ai (fun hg=>?_) (fun hg=>?_) | refine ax (fun hg=>?_) (fun hg=>?_) | refine ay (fun hg=>?_) (fun hg=>?_)) <;> try simp -implicitDefEqProofs only [hg,Bool.not_true,Bool.not_false]) | ((with_reducible apply And.intro);focus (first | trivial | omega | decide | (simp -implicitDefEqProofs only [maxLen];omega) | (simp [maxLen,af,ak,an,av,aj,au,aq] <;> omega))) | fail)))
  all_goals (refine (hK _ _ ?_).2;clear hK;simp -implicitDefEqProofs only [go_sem,Int.reduceNegSucc,aQ,aS,aX,bn,aI,aG,aF,Ch.cells] <;>(try simp_all [-Int.not_lt,-Int.not_le,aI,aG,aF,bA,Ch.cells]) <;> try omega)
 ·have hem:k.empty=false:=by rw [h2];simp [yG]
  have hkp:0<kids:=by omega
  simp -implicitDefEqProofs only [yG,hkp,if_false,and_true] at hK
  cases om:k.alone <;> cases vJ:k.top <;> cases mu:k.bottom <;> simp -implicitDefEqProofs only [om,vJ,mu,Bool.not_true,Bool.not_false,Bool.false_and,Bool.true_and,Bool.and_false] at hT
  all_goals (try subst hT)
  all_goals ((have bK:=s1;have bL:=s2;have bO:=j1;have cl:=j2;have cr:=j3;repeat' (first | (simp -implicitDefEqProofs only [go_sem,Int.reduceNegSucc,hem,om,vJ,mu,fl,m0,m2,List.length_map]) | (with_reducible refine aA ?_) | ((first | refine bQ (bK _) ?_ ?_ ?_ | refine bV (bK _) ?_ ?_ ?_ | fail);(focus (simp [aT,aB] <;> fail));(focus (simp [aZ,aR] <;> fail))) | ((first | refine bQ (bL _) ?_ ?_ ?_ | refine bV (bL _) ?_ ?_ ?_ | fail);(focus (simp [aT,aB] <;> fail));(focus (simp [aZ,aR] <;> fail))) | (with_reducible first | refine ag bO ?_ | refine ah bO ?_) | (with_reducible first | refine ag cl ?_ | refine ah cl ?_) | (with_reducible first | refine ag cr ?_ | refine ah cr ?_) | ((first | refine ai (fun hg=>?_) (fun hg=>?_) | refine ax (fun hg=>?_) (fun hg=>?_) | refine ay (fun hg=>?_) (fun hg=>?_)) <;> try simp -implicitDefEqProofs only [hg,Bool.not_true,Bool.not_false]) | ((with_reducible apply And.intro);focus (first | trivial | omega | decide | (simp -implicitDefEqProofs only [maxLen];omega) | (simp [maxLen,af,ak,an,av,aj,au,aq] <;> omega))) | fail)))
  all_goals (refine (hK _ _ ?_).2;clear hK;simp -implicitDefEqProofs only [go_sem,Int.reduceNegSucc,aQ,aS,aX,bn,aI,aG,aF,Ch.cells] <;>(try simp_all [-Int.not_lt,-Int.not_le,aI,aG,aF,bA,Ch.cells]) <;> try omega)
end Go.aL

namespace Go.aL
open Go
theorem Qj:aU Go.Proofs.Tryz.prog 49 160 (fc Go.Proofs.Tryz.prog 49 160 [(.c 12 9 true),(.t 13)]) [(.c 12 9 true),(.t 13)]:=bl (by kernel_rfl)
def nY (r:Nat×Fm×La):List (Nat×Fm):=(r.1,r.2.1)::r.2.2.L
def bT (rs:List (Nat×Fm×La)):List (Nat×Fm):=rs.flatMap nY
def je (rs:List (Nat×Fm×La)):List Int:=(List.range rs.length).map fun i=>((bT (rs.take i)).length:Int)
def gH (rs:List (Nat×Fm×La)):List Ch:=rs.map fun r=>r.2.1.child
def jf:List (Nat×Fm×La)→List Int→List (Nat×Fm)
 | [],_=>[]
 | r::rs,[]=>nY r++jf rs []
 | r::rs,y::ys=>(r.1,{ r.2.1 with y:=y })::(r.2.2.L++jf rs ys)
def kg (bx:Nat→Option (Fm×La)):List Nat→Option (List (Nat×Fm×La))
 | []=>some []
 | m::ms=>match bx m with
   | some q=>(kg bx ms).map ((m,q) :: ·)
   | none=>none
def qU (rs:List (Nat×Fm×La)) (q:Pl×List Int) (ob:Bool):La:=
 ⟨jf rs q.2,q.1,q.2,if q.1.me=true then 0 else (let a:=if ob=true then q.1.iB else IntKind.i64.wrap (q.1.iB+iN q.1.cur);if 0>a then 0 else a)⟩
def kT (bx:Nat→Option (Fm×La)) (kids:List Nat) (ok ot ob:Bool):Option La×Bool:=
 if ok=true then match kg bx kids with
  | some rs=>match jr (gH rs) ot with
    | some q=>if nS q.1.cur=true then (some (qU rs q ob),bP (qU rs q ob).high) else (none,false)
    | none=>(none,false)
  | none=>(none,false)
 else (none,false)
theorem FC {bx:Nat→Option (Fm×La)} {kids:List Nat} {ok ot ob:Bool} (h:(kT bx kids ok ot ob).2=true):(kT bx kids ok ot ob).1.isSome=true:=by
 revert h
 unfold kT
 repeat' split
 all_goals simp
theorem CY {rs:List (Nat×Fm×La)} {r:Nat×Fm×La}:bT (rs++[r])=bT rs++nY r:=by simp [bT]
theorem mE (a:List (Nat×Fm)):(gT a).length=a.length:=by simp [gT]
theorem uj {rs:List (Nat×Fm×La)}:(je rs).length=rs.length:=by simp [je]
theorem GJ {rs:List (Nat×Fm×La)} {r:Nat×Fm×La}:je (rs++[r])=je rs++[((bT rs).length:Int)]:=by
 simp -implicitDefEqProofs only [je,List.length_append,List.length_cons,List.length_nil,Nat.zero_add,List.range_succ,List.map_append,List.map_cons,List.map_nil]
 congr 1
 ·refine List.map_congr_left (fun i hi=>?_)
  rw [List.take_append_of_le_length (by simp at hi;omega)]
 ·simp
theorem GI {rs:List (Nat×Fm×La)} {i:Nat} (h:i<rs.length):(aM (je rs))[i]?.getD []=[.int .i64 ((bT (rs.take i)).length:Int)]:=by simp [aM,je,h]
theorem zx:∀ (rs:List (Nat×Fm×La)),jf rs []=bT rs
 | []=>rfl
 | r::rs=>by rw [jf,zx rs];simp [bT]
theorem qo:∀ (rs:List (Nat×Fm×La)) (ys:List Int),(jf rs ys).length=(bT rs).length
 | [],_=>rfl
 | r::rs,[]=>by rw [zx]
 | r::rs,y::ys=>by rw [jf];simp [bT,nY,qo rs ys]
theorem wF:∀ (rs:List (Nat×Fm×La)) (ys:List Int) (i:Nat) (h:i<rs.length) (h2:i<ys.length),(jf rs (ys.take i))[(bT (rs.take i)).length]?=some ((rs[i]'h).1,(rs[i]'h).2.1)∧
 (jf rs (ys.take i)).set (bT (rs.take i)).length ((rs[i]'h).1,{ (rs[i]'h).2.1 with y:=ys[i]'h2 })=jf rs (ys.take (i+1))
 | [],_,i,h,_=>by simp at h
 | r::rs,[],i,_,h=>by simp at h
 | r::rs,y::ys,0,_,_=>by
   refine ⟨by simp [jf,bT,nY],?_⟩
   simp -implicitDefEqProofs only [List.take_zero,jf,bT,List.flatMap_nil,List.length_nil,nY,List.cons_append,List.set_cons_zero,List.getElem_cons_zero,Nat.zero_add,List.take_succ_cons]
 | r::rs,y::ys,i+1,h,h2=>by
   have ih:=wF rs ys i (by simpa using h) (by simpa using h2)
   have e:(bT ((r::rs).take (i+1))).length=(r.2.2.L.length+(bT (rs.take i)).length)+1:=by simp [bT,nY]
   rw [e]
   simp -implicitDefEqProofs only [List.take_succ_cons,jf,List.getElem?_cons_succ,List.set_cons_succ,List.getElem_cons_succ]
   refine ⟨?_,?_⟩
   ·rw [List.getElem?_append_right (by omega),Nat.add_sub_cancel_left];exact ih.1
   ·rw [List.set_append_right _ _ (by omega),Nat.add_sub_cancel_left,ih.2]
theorem He {rs:List (Nat×Fm×La)} {ys:List Int} {i:Nat} (h:i<rs.length) (h2:i<ys.length):(aN (gT (jf rs (ys.take i))))[(bT (rs.take i)).length]?.getD []=(kf ((rs[i]'h).1,(rs[i]'h).2.1)).map SV.rv:=by
 have:=(wF rs ys i h h2).1
 simp [aN,gT,this]
theorem Hf {rs:List (Nat×Fm×La)} {ys:List Int} {i:Nat} (h:i<rs.length) (h2:i<ys.length):(aN (gT (jf rs (ys.take i)))).set (bT (rs.take i)).length ((kf ((rs[i]'h).1,{ (rs[i]'h).2.1 with y:=ys[i]'h2 })).map SV.rv)=aN (gT (jf rs (ys.take (i+1)))):=by
 rw [← (wF rs ys i h h2).2]
 simp [aN,gT,List.map_set]
theorem IC (q:Nat×Fm) (y:Int):splice ((kf q).map SV.rv) 2 [.rv (.int .i64 y)]=(kf (q.1,{ q.2 with y:=y })).map SV.rv:=rfl
theorem GZ (q:Nat×Fm):(kf q).length=26:=rfl
theorem tN (f:Fm):f.cells.length=25:=rfl
theorem zo (L:List (Nat×Fm)):∀ x∈gT L,∀ r∈x,r.one=true:=by
 intro x hx r hr
 obtain ⟨q,_,rfl⟩:=List.mem_map.1 hx
 simp -implicitDefEqProofs only [kf,Fm.cells,Q4.ints,Ch.cells,List.cons_append,List.nil_append,List.mem_cons,List.not_mem_nil,or_false] at hr
 rcases hr with h | h | h | h | h | h | h | h | h | h | h | h | h | h | h | h | h | h | h | h | h | h | h | h | h | h <;> rw [h] <;> rfl
theorem Dz {rs:List (Nat×Fm×La)} {r:Nat×Fm×La}:gH (rs++[r])=gH rs++[r.2.1.child]:=by simp [gH]
theorem zL:∀ {l:List Ch} {p:Pl} {ys:List Int} {q:Pl×List Int},nQ l p ys=some q→q.2.length=ys.length+l.length
 | [],p,ys,q,h=>by cases h;rfl
 | c::l,p,ys,q,h=>by
   rw [nQ] at h
   split at h
   ·have:=zL h;simp at this ⊢;omega
   ·cases h
end Go.aL

namespace Go.aL
open Go Go.Proofs Go.Shelf
theorem tW {b:Nat} {t:TypeId}:∀ (vs:List Value) (o:Nat) (w:World) (cur:Array Value),w.heap[b]?=some (.cells cur t (0,0))→o+vs.length≤cur.size→
 ∃ cur':Array Value,(w.setCells b o vs).heap[b]?=some (.cells cur' t (0,0))∧cur'.size=cur.size∧(∀ k,k<o∨o+vs.length≤k→cur'[k]?=cur[k]?)∧∀ (j:Nat) (u:Value),vs[j]?=some u→cur'[o+j]?=some u
 | [],o,w,cur,h,hl=>⟨cur,h,rfl,fun _ _=>rfl,fun j u hu=>by simp at hu⟩
 | v::r,o,w,cur,h,hl=>by
   have h1:(w.setCell ⟨b,o,none⟩ v).heap[b]?=some (.cells (cur.setIfInBounds o v) t (0,0)):=heap_setCell_same _ _ _ _ _ _ h
   obtain ⟨cur',g1,g2,g3,g4⟩:=tW r (o+1) _ _ h1 (by simp at hl ⊢;omega)
   refine ⟨cur',g1,by rw [g2];simp,fun k hk=>?_,fun j u hu=>?_⟩
   ·rw [g3 k (by simp at hk;omega),Array.getElem?_setIfInBounds]
    rw [if_neg (by simp at hk;omega)]
   ·cases j with
    | zero=>
      simp at hu;subst hu
      rw [Nat.add_zero,g3 o (by omega),Array.getElem?_setIfInBounds,if_pos rfl,if_pos (by simp at hl;omega)]
    | succ j=>
      simp at hu
      have:=g4 j u hu
      rwa [show o+1+j=o+(j+1) by omega] at this
theorem tX {b:Nat}:∀ (vs:List Value) (o:Nat) (w:World) (k:Nat),k≠b→(w.setCells b o vs).heap[k]?=w.heap[k]?
 | [],_,_,_,_=>rfl
 | v::r,o,w,k,h=>by rw [World.setCells,tX r (o+1) _ k h,heap_setCell_other _ _ _ _ h]
theorem uA {b:Nat}:∀ (vs:List Value) (o:Nat) (w:World),(w.setCells b o vs).os=w.os∧(w.setCells b o vs).tape=w.tape∧(w.setCells b o vs).output=w.output∧(w.setCells b o vs).heap.size=w.heap.size
 | [],_,_=>⟨rfl,rfl,rfl,rfl⟩
 | v::r,o,w=>by
   obtain ⟨h1,h2,h3,h4⟩:=uA r (o+1) (w.setCell ⟨b,o,none⟩ v)
   exact ⟨h1,h2,h3,by rw [World.setCells,h4,World.size_setCell]⟩
def tj (w w':World) (ob:Option Nat) (tg:List Value) (v:Value):Prop:=
 ∃ b cur t cap,v = .slice (some ⟨b,0,none⟩) tg.length cap∧w'.heap[b]?=some (.cells cur t (0,0))∧(∀ k,k<w.heap.size→k≠b→w'.heap[k]?=w.heap[k]?)∧w'.os=w.os∧w'.tape=w.tape∧w'.output=w.output∧w.heap.size≤w'.heap.size∧
  (∀ (j:Nat) (u:Value),tg[j]?=some u→cur[j]?=some u)∧tg.length≤cap∧cap≤maxLen∧cap≤cur.size∧(ob=some b∨w.heap.size≤b)
section
variable {P:Program} {ρ:Ren} (L:Lays2.n21 P ρ) {w:World} {ys:List Int} {i:Nat} {x:Int} {vb vc:Nat} {kZ:Array Value} {vt:TypeId}
abbrev vI (l:List Int):List Value:=l.map fun y=>Value.int .i64 y
theorem Ja {l:List Int}:∀ v∈vI l,v.oneCell'=true:=by
 intro v hv
 obtain ⟨y,_,rfl⟩:=List.mem_map.1 hv
 rfl
theorem tE {b:Nat} {cur:Array Value} {t:TypeId} (h:w.heap[b]?=some (.cells cur t (0,0))) (o:Nat):w.cell? ⟨b,o,none⟩=cur[o]?:=pS h o
theorem CV (n:Nat):(Builtin.zeroCells (Value.int .i64 0).cells n).size=n:=by
 rw [size_zeroCells];show n*1=n;omega
theorem uH {l:List Int} {j:Nat} {u:Value} (h:(vI l)[j]?=some u):∃ y,l[j]?=some y∧u = .int .i64 y:=by
 rw [List.getElem?_map,Option.map_eq_some_iff] at h
 obtain ⟨y,h1,rfl⟩:=h
 exact ⟨y,h1,rfl⟩
theorem wS (hv:w.heap[vb]?=some (.cells kZ vt (0,0))) (h0:kZ[0]?=some (.int .i64 x)) (j:Nat) (v:Value) (hj:[Value.int .i64 x][j]?=some v):w.cell? ⟨vb,0+j,none⟩=some v:=by
 match j with
 | 0=>cases hj;rw [tE hv];simpa using h0
 | j+1=>simp at hj
theorem Dj {A B:List Value} {Z:Array Value} {j:Nat} {u:Value} (h:(A++B)[j]?=some u):((A++B).toArray++Z)[j]?=some u:=by
 rw [Array.getElem?_append_left (by have:=(List.getElem?_eq_some_iff.1 h).1;simpa using this)]
 simpa using h
include L in
theorem Om (hv:w.heap[vb]?=some (.cells kZ vt (0,0))) (h0:kZ[0]?=some (.int .i64 x)) :
 Calls P (ρ.f 21) #[.slice none 0 0,.int .i64 (0:Nat),.slice (some ⟨vb,0,none⟩) 1 vc] w fun e w'=>∃ v,e = .returned v∧tj w w' none (vI [x]) v:=by
 refine (Any2.slices_Insert_int_end_grow L none 0 0 vb 0 1 vc [] [.int .i64 x] w (by omega) (by omega) (by omega) (by omega) rfl rfl (fun _=>rfl) (fun a ha=>by cases ha) (wS hv h0) (by simp;rfl)).mono ?_
 rintro e w' ⟨rfl,rfl⟩
 have hg:=grownCap_ge w (0+1) 0 (ρ.t 3)
 have hm:=grownCap_le_maxLen w (0+1) 0 (ρ.t 3) (by decide)
 refine ⟨_,rfl,w.heap.size,_,ρ.t 3,_,rfl,heap_alloc_new w.drew _,fun k hk _=>heap_alloc_old w.drew _ hk,rfl,rfl,rfl,by simp,fun j u hu=>Dj (by simpa using hu),by simpa using hg,hm,?_,.inr (Nat.le_refl _)⟩
 simp only [Array.size_append,CV,List.size_toArray,List.length_append,List.length_nil,List.length_cons]
 omega
include L in
theorem Oj {b c:Nat} {cur:Array Value} {t:TypeId} (hb:w.heap[b]?=some (.cells cur t (0,0))) (hys:∀ (j:Nat) (y:Int),ys[j]?=some y→cur[j]?=some (.int .i64 y)) (hnc:ys.length≤c) (hc:c<ys.length+1) (hbig:ys.length≤1000000)
 (hv:w.heap[vb]?=some (.cells kZ vt (0,0))) (h0:kZ[0]?=some (.int .i64 x)) :
 Calls P (ρ.f 21) #[.slice (some ⟨b,0,none⟩) ys.length c,.int .i64 ys.length,.slice (some ⟨vb,0,none⟩) 1 vc] w fun e w'=>∃ v,e = .returned v∧tj w w' (some b) (vI (ys++[x])) v:=by
 refine (Any2.slices_Insert_int_end_grow L (some ⟨b,0,none⟩) ys.length c vb 0 1 vc (vI ys) [.int .i64 x] w (by omega) hnc hc (by omega) (by simp) rfl (fun h=>by cases h) (fun a ha j v hj=>by
  cases ha
  obtain ⟨y,hy,rfl⟩:=uH hj
  rw [add_lit,Nat.zero_add,tE hb];exact hys j y hy) (wS hv h0) (by simp;rfl)).mono ?_
 rintro e w' ⟨rfl,rfl⟩
 have hg:=grownCap_ge w (ys.length+1) c (ρ.t 3)
 have hm:=grownCap_le_maxLen w (ys.length+1) c (ρ.t 3) (by simp only [maxLen];omega)
 refine ⟨_,rfl,w.heap.size,_,ρ.t 3,_,by simp,heap_alloc_new w.drew _,fun k hk _=>heap_alloc_old w.drew _ hk,rfl,rfl,rfl,by simp,fun j u hu=>Dj (by simpa using hu),by simpa using hg,hm,?_,.inr (Nat.le_refl _)⟩
 simp only [Array.size_append,CV,List.size_toArray,List.length_append,List.length_map,List.length_nil,List.length_cons]
 omega
include L in
theorem Ok {b c:Nat} {cur:Array Value} {t:TypeId} (hb:w.heap[b]?=some (.cells cur t (0,0))) (hys:∀ (j:Nat) (y:Int),ys[j]?=some y→cur[j]?=some (.int .i64 y)) (hc:ys.length+1≤c) (mW:c≤maxLen) (hcs:c≤cur.size)
 (hv:w.heap[vb]?=some (.cells kZ vt (0,0))) (h0:kZ[0]?=some (.int .i64 x)) :
 Calls P (ρ.f 21) #[.slice (some ⟨b,0,none⟩) ys.length c,.int .i64 ys.length,.slice (some ⟨vb,0,none⟩) 1 vc] w fun e w'=>∃ v,e = .returned v∧tj w w' (some b) (vI (ys++[x])) v:=by
 refine (Any2.slices_Insert_int_end_room L b 0 ys.length c vb 0 1 vc [.int .i64 x] w (by omega) hc (by simp only [maxLen] at mW;omega) rfl (fun j hj=>?_) (fun j hj=>frozen_of_row _ _ _ _ _ hb) (wS hv h0) (by simp;rfl)).mono ?_
 ·rw [tE hb]
  rw [Array.getElem?_eq_getElem (by omega)];rfl
 rintro e w' ⟨rfl,rfl⟩
 obtain ⟨cur',g1,g2,g3,g4⟩:=tW [.int .i64 x] (0+ys.length) w cur hb (by simp;omega)
 obtain ⟨r1,r2,r3,r4⟩:=uA (b:=b) [.int .i64 x] (0+ys.length) w
 refine ⟨_,rfl,b,cur',t,c,by simp,g1,fun k hk hne=>tX _ _ _ k hne,r1,r2,r3,by rw [r4];exact Nat.le_refl _,fun j u hu=>?_,by simpa using hc,mW,by omega,.inl rfl⟩
 obtain ⟨y,hy,rfl⟩:=uH hu
 rcases Nat.lt_or_ge j ys.length with hj | hj
 ·rw [g3 j (by omega)]
  rw [List.getElem?_append_left hj] at hy
  exact hys j y hy
 ·rw [List.getElem?_append_right hj] at hy
  have Bj:j - ys.length=0:=by have:=(List.getElem?_eq_some_iff.1 hy).1;simpa using this
  rw [Bj] at hy
  simp at hy;subst hy
  have:=g4 0 _ rfl
  rw [show 0+ys.length+0=j by omega] at this
  exact this
abbrev kH (ys:List Int) (i:Nat) (x:Int):List Int:=ys.take i++x::ys.drop i
theorem FA {ys:List Int} {i:Nat} {x:Int} (hi:i≤ys.length) {j:Nat} {y:Int} (h:(kH ys i x)[j]?=some y):(j<i∧ys[j]?=some y)∨(j=i∧y=x)∨(i<j∧ys[j - 1]?=some y):=by
 have hl:(ys.take i).length=i:=by simp;omega
 rcases Nat.lt_trichotomy j i with hj | hj | hj
 ·rw [List.getElem?_append_left (by omega),List.getElem?_take_of_lt hj] at h
  exact .inl ⟨hj,h⟩
 ·rw [List.getElem?_append_right (by omega),hl,hj,Nat.sub_self] at h
  simp at h
  exact .inr (.inl ⟨hj,h.symm⟩)
 ·rw [List.getElem?_append_right (by omega),hl,show j - i=(j - i - 1)+1 by omega,List.getElem?_cons_succ,List.getElem?_drop,show i+(j - i - 1)=j - 1 by omega] at h
  exact .inr (.inr ⟨hj,h⟩)
theorem vP (ys:List Int) (i:Nat) (x:Int) (hi:i≤ys.length):(kH ys i x).length=ys.length+1:=by simp;omega
include L in
theorem On {b c:Nat} {cur:Array Value} {t:TypeId} (hi:i<ys.length) (hb:w.heap[b]?=some (.cells cur t (0,0))) (hys:∀ (j:Nat) (y:Int),ys[j]?=some y→cur[j]?=some (.int .i64 y)) (hc:ys.length+1≤c) (mW:c≤maxLen) (hcs:c≤cur.size)
 (hv:w.heap[vb]?=some (.cells kZ vt (0,0))) (h0:kZ[0]?=some (.int .i64 x)) (hne:vb≠b) :
 Calls P (ρ.f 21) #[.slice (some ⟨b,0,none⟩) ys.length c,.int .i64 i,.slice (some ⟨vb,0,none⟩) 1 vc] w fun e w'=>∃ v,e = .returned v∧tj w w' (some b) (vI (kH ys i x)) v:=by
 refine (Any2.slices_Insert_int_shift L b 0 ys.length c i vb 0 1 vc (vI ys) [.int .i64 x] w hi (by omega) hc (by simp only [maxLen] at mW;omega) hne (by simp) rfl (fun j v hj=>by
  obtain ⟨y,hy,rfl⟩:=uH hj
  rw [Nat.zero_add,tE hb];exact hys j y hy) (fun j hj=>?_) (fun j hj=>frozen_of_row _ _ _ _ _ hb) (wS hv h0) Ja (by simp;rfl) vt t kZ.size cur.size ?_ ?_ (by omega) (frozen_of_row _ _ _ _ _ hv) (frozen_of_row _ _ _ _ _ hv)).mono ?_
 ·rw [tE hb]
  rw [Array.getElem?_eq_getElem (by omega)];rfl
 ·simp [World.shape?,hv]
 ·simp [World.shape?,hb]
 rintro e w' ⟨rfl,rfl⟩
 have hb':w.drew.heap[b]?=some (.cells cur t (0,0)):=hb
 have hdl:((vI ys).drop i).length=ys.length - i:=by simp
 obtain ⟨xW,g1,g2,g3,g4⟩:=tW ((vI ys).drop i) (0+(i+1)) w.drew cur hb' (by rw [hdl];omega)
 obtain ⟨r1,r2,r3,r4⟩:=uA (b:=b) ((vI ys).drop i) (0+(i+1)) w.drew
 obtain ⟨Ar,k1,k2,k3,k4⟩:=tW [.int .i64 x] (0+i) _ xW g1 (by simp;omega)
 obtain ⟨s1,s2,s3,s4⟩:=uA (b:=b) [.int .i64 x] (0+i) (w.drew.setCells b (0+(i+1)) ((vI ys).drop i))
 refine ⟨_,rfl,b,Ar,t,c,by rw [List.length_map,vP _ _ _ (by omega)],k1,fun k hk hne=>by rw [tX _ _ _ k hne,tX _ _ _ k hne];rfl,s1.trans r1,s2.trans r2,s3.trans r3,by rw [s4,r4];exact Nat.le_refl _,fun j u hu=>?_,by rw [List.length_map,vP _ _ _ (by omega)];exact hc,mW,by omega,.inl rfl⟩
 obtain ⟨y,hy,rfl⟩:=uH hu
 rcases FA (by omega) hy with ⟨hj,fL⟩ | ⟨rfl,rfl⟩ | ⟨hj,fL⟩
 ·rw [k3 j (by simp;omega),g3 j (by omega)]
  exact hys j y fL
 ·have:=k4 0 _ rfl
  rwa [show 0+j+0=j by omega] at this
 ·rw [k3 j (by simp;omega)]
  have:=g4 (j - 1 - i) (.int .i64 y) (by rw [List.getElem?_drop,List.getElem?_map,show i+(j - 1 - i)=j - 1 by omega,fL];rfl)
  rwa [show 0+(i+1)+(j - 1 - i)=j by omega] at this
include L in
theorem Ol {b c:Nat} {cur:Array Value} {t:TypeId} (hi:i<ys.length) (hb:w.heap[b]?=some (.cells cur t (0,0))) (hys:∀ (j:Nat) (y:Int),ys[j]?=some y→cur[j]?=some (.int .i64 y)) (hnc:ys.length≤c) (hc:c<ys.length+1) (hbig:ys.length≤1000000)
 (hv:w.heap[vb]?=some (.cells kZ vt (0,0))) (h0:kZ[0]?=some (.int .i64 x)) :
 Calls P (ρ.f 21) #[.slice (some ⟨b,0,none⟩) ys.length c,.int .i64 i,.slice (some ⟨vb,0,none⟩) 1 vc] w fun e w'=>∃ v,e = .returned v∧tj w w' (some b) (vI (kH ys i x)) v:=by
 refine (Any2.slices_Insert_int_grow L b 0 ys.length c i vb 0 1 vc (vI ys) [.int .i64 x] w hi (by omega) hnc hc (by omega) (by simp) rfl (fun j v hj=>by
  obtain ⟨y,hy,rfl⟩:=uH hj
  rw [Nat.zero_add,tE hb];exact hys j y hy) (wS hv h0) Ja (by simp;rfl)).mono ?_
 rintro e w' ⟨rfl,rfl⟩
 have hg:=grownCap_ge w (ys.length+1) c (ρ.t 3)
 have hm:=grownCap_le_maxLen w (ys.length+1) c (ρ.t 3) (by simp only [maxLen];omega)
 generalize hG:grownCap w (ys.length+1) c (ρ.t 3)=G at *
 generalize hA:((vI ys).take i).toArray++Builtin.zeroCells (Value.int .i64 0).cells (ys.length+1 - i)++Builtin.zeroCells (Value.int .i64 0).cells (G - (ys.length+1))=A at *
 have Wb:A.size=G:=by
  rw [← hA]
  simp only [Array.size_append,CV,List.size_toArray,List.length_take,List.length_map]
  omega
 have MS:∀ (j:Nat) (y:Int),j<i→ys[j]?=some y→A[j]?=some (.int .i64 y):=fun j y hj hy=>by
  have hjl:j<ys.length:=by omega
  rw [← hA,Array.getElem?_append_left (by simp;omega),Array.getElem?_append_left (by simp;omega)]
  simp [List.getElem?_take_of_lt hj,hy]
 have hb1:(w.alloc (.cells A (ρ.t 3))).drew.heap[w.heap.size]?=some (.cells A (ρ.t 3) (0,0)):=heap_alloc_new w _
 obtain ⟨xW,g1,g2,g3,g4⟩:=tW [.int .i64 x] i _ A hb1 (by simp;omega)
 obtain ⟨r1,r2,r3,r4⟩:=uA (b:=w.heap.size) [.int .i64 x] i (w.alloc (.cells A (ρ.t 3))).drew
 have hb2:(((w.alloc (.cells A (ρ.t 3))).drew.setCells w.heap.size i [.int .i64 x]).drew).heap[w.heap.size]?=some (.cells xW (ρ.t 3) (0,0)):=g1
 have hdl:((vI ys).drop i).length=ys.length - i:=by simp
 obtain ⟨Ar,k1,k2,k3,k4⟩:=tW ((vI ys).drop i) (i+1) _ xW hb2 (by rw [hdl];omega)
 obtain ⟨s1,s2,s3,s4⟩:=uA (b:=w.heap.size) ((vI ys).drop i) (i+1) ((w.alloc (.cells A (ρ.t 3))).drew.setCells w.heap.size i [.int .i64 x]).drew
 refine ⟨_,rfl,w.heap.size,Ar,ρ.t 3,G,by rw [List.length_map,vP _ _ _ (by omega)],k1,fun k hk hne=>?_,s1.trans r1,s2.trans r2,s3.trans r3,?_,fun j u hu=>?_,by rw [List.length_map,vP _ _ _ (by omega)];exact hg,hm,by omega,.inr (Nat.le_refl _)⟩
 ·rw [tX _ _ _ k hne]
  show (((w.alloc (.cells A (ρ.t 3))).drew.setCells w.heap.size i [.int .i64 x])).heap[k]?=_
  rw [tX _ _ _ k hne]
  exact heap_alloc_old w _ hk
 ·rw [s4]
  show w.heap.size≤(((w.alloc (.cells A (ρ.t 3))).drew.setCells w.heap.size i [.int .i64 x])).heap.size
  rw [r4]
  simp
 obtain ⟨y,hy,rfl⟩:=uH hu
 rcases FA (by omega) hy with ⟨hj,fL⟩ | ⟨rfl,rfl⟩ | ⟨hj,fL⟩
 ·rw [k3 j (by omega),g3 j (by omega)]
  exact MS j y hj fL
 ·rw [k3 j (by omega)]
  have:=g4 0 _ rfl
  rwa [Nat.add_zero] at this
 ·have:=k4 (j - 1 - i) (.int .i64 y) (by rw [List.getElem?_drop,List.getElem?_map,show i+(j - 1 - i)=j - 1 by omega,fL];rfl)
  rwa [show i+1+(j - 1 - i)=j by omega] at this
end
abbrev oy (l:List Int):List (List SV):=l.map fun y=>[SV.rv (.int .i64 y)]
theorem HE {w:World} {ok:Nat→Prop} {aa:Nat→Option Nat} {hp:Hp} {cur:Array Value} {v:Nat} {l:List Int} (h:jR w ok aa hp cur (.row 1 v (oy l))):∀ (j:Nat) (y:Int),l[j]?=some y→cur[j]?=some (.int .i64 y):=by
 intro j y hy
 obtain ⟨_,_,h3⟩:=h
 obtain ⟨u,h4,_,h5⟩:=h3 j [.rv (.int .i64 y)] (by simp [hy]) 0 (.rv (.int .i64 y)) rfl
 rw [show j*1+0=j by omega] at h4
 cases h5 with
 | rv _ _ h6=>cases h6;exact h4
theorem KL {P:Program} {ρ:Ren} (L:Lays2.n21 P ρ) (hcb:tC P (ρ.f 21)=true) (j j2 v v2 i n:Nat) (x:Int) (xs:List Int) (hj:j≠j2) (hn:n≤xs.length) (hi:i≤n) (hbig:n≤1000000) :
 aK P (ρ.f 21) [.row j v n,.rv (.int .i64 i),.row j2 v2 1] [(j,.row 1 v (oy xs)),(j2,.row 1 v2 (oy [x]))] [(j,.row 1 (v+1) (oy (kH (xs.take n) i x)))] (.row j (v+1) (n+1)):=by
 refine ⟨hcb,fun C hp w aa vs hpre hnew R hl hvs=>?_⟩
 have ja:=hpre (j,.row 1 v (oy xs)) (.head _)
 have hpk:=hpre (j2,.row 1 v2 (oy [x])) (.tail _ (.head _))
 obtain ⟨a0,a1,a2,rfl⟩:∃ a b c,vs=[a,b,c]:=by
  match vs,hl with
  | [a,b,c],_=>exact ⟨a,b,c,rfl⟩
 have h0:=hvs 0 _ rfl
 have h1:=hvs 1 _ rfl
 have h2:=hvs 2 _ rfl
 simp only [List.getD_cons_zero,List.getD_cons_succ] at h0 h1 h2
 obtain rfl:a1 = .int .i64 i:=by
  cases h1 with
  | rv _ _ h=>cases h;rfl
 obtain ⟨vb,vc,kZ,vt,rfl,hv,vK,NM⟩:∃ vb vc kZ vt,a2 = .slice (some ⟨vb,0,none⟩) 1 vc∧w.heap[vb]?=some (.cells kZ vt (0,0))∧kZ[0]?=some (.int .i64 x)∧aa j2=some vb:=by
  cases h2 with
  | row _ _ _ _ g1 g0 gv gh=>
    rcases gh 1 _ hpk with ⟨_,_,h⟩ | ⟨b,cap,cur,t,e1,e2,e3,_⟩
    ·cases h
    ·rcases R.heap j2 _ hpk with ⟨hn,_⟩ | ⟨b',cur',t',f1,f2,f3⟩
     ·rw [hn] at e1;cases e1
     ·rw [e1] at f1;cases f1
      rw [e3] at f2;cases f2
      exact ⟨b,cap,cur,t,e2,e3,HE f3 0 x rfl,e1⟩
 have hys:∀ (k:Nat) (y:Int),(xs.take n)[k]?=some y→xs[k]?=some y:=fun k y hy=>by
  rw [List.getElem?_take] at hy
  split at hy
  ·exact hy
  ·cases hy
 have mC:(xs.take n).length=n:=by simp;omega
 have vo:∀ (ob:Option Nat) (tg:List Int) (w':World) (u:Value),tg=kH (xs.take n) i x→tj w w' ob (vI tg) u→(∀ b,ob=some b→aa j=some b)→∃ v' aJ,Ending.returned u=Ending.returned v'∧Step C hp (bM hp [(j,.row 1 (v+1) (oy (kH (xs.take n) i x)))]) w w' aa aJ∧Rp w' (aH C aJ (bM hp [(j,.row 1 (v+1) (oy (kH (xs.take n) i x)))])) aJ (bM hp [(j,.row 1 (v+1) (oy (kH (xs.take n) i x)))]) (.row j (v+1) (n+1)) v':=by
  rintro ob tg w' u rfl ⟨b,cur,t,cap,rfl,e1,e2,e3,e4,e5,e6,e7,e8,e9,VW,Lo⟩ mZ
  have hlen:(kH (xs.take n) i x).length=n+1:=by rw [vP _ _ _ (by omega),mC]
  have htl:(vI (kH (xs.take n) i x)).length=n+1:=by rw [List.length_map,hlen]
  rw [htl] at e8
  have S:Step C hp (up hp j (some (.row 1 (v+1) (oy (kH (xs.take n) i x))))) w w' aa (up aa j (some b)):=by
   refine R.replace j _ b cur t e3 e4 e5 e6 e1 e2 ?_ (fun hb hq=>?_) (fun hq=>?_) ⟨fun z hz=>?_,?_,fun k z hz=>?_⟩
   ·rcases Lo with h | h
    ·exact .inl ⟨by rw [ja];rfl,mZ _ h⟩
    ·exact .inr h
   ·rw [ja] at hq;cases hq
    exact ⟨by omega,fun h=>by omega⟩
   ·rw [ja] at hq;cases hq
   ·obtain ⟨y,_,rfl⟩:=List.mem_map.1 hz;rfl
   ·rw [List.length_map,hlen];omega
   ·rw [List.getElem?_map,Option.map_eq_some_iff] at hz
    obtain ⟨y,hy,rfl⟩:=hz
    intro q z hq
    match q with
    | 0=>
      cases hq
      refine ⟨.int .i64 y,?_,rfl,.rv _ _ (.int _ _)⟩
      have:=e7 k (.int .i64 y) (by rw [List.getElem?_map,hy];rfl)
      rwa [show k*1+0=k by omega]
    | q+1=>simp at hq
  refine ⟨_,up aa j (some b),rfl,S,.row j (v+1) (n+1) _ rfl (by simp [bM]) (fun e fY gC h=>?_) (fun e gC h=>.inr ⟨b,cap,cur,t,cq _ _ _,by rw [htl],e1,e8,e9,?_⟩)⟩
  ·simp only [bM,cq] at h;cases h;exact Nat.le_refl _
  ·simp only [bM,cq] at h;cases h;omega
 cases h0 with
 | row _ _ _ _ g1 g0 gv gh=>
   rcases gh 1 _ ja with ⟨_,rfl,hn0⟩ | ⟨b,cap,cur,t,e1,rfl,e3,e4,e5,e6⟩
   ·subst hn0
    obtain rfl:i=0:=by omega
    refine (Om L hv vK).mono ?_
    rintro e w' ⟨u,rfl,hu⟩
    exact vo none [x] w' u rfl hu (fun b h=>by cases h)
   ·have hf:∀ (k:Nat) (y:Int),(xs.take n)[k]?=some y→cur[k]?=some (.int .i64 y):=by
     rcases R.heap j _ ja with ⟨hn,_⟩ | ⟨b',cur',t',f1,f2,f3⟩
     ·rw [hn] at e1;cases e1
     ·rw [e1] at f1;cases f1
      rw [e3] at f2;cases f2
      exact fun k y hy=>HE f3 k y (hys k y hy)
    have hne:vb≠b:=fun h=>by
     subst h
     exact hj (R.inj j j2 vb (by rw [ja];rfl) (by rw [hpk];rfl) e1 NM)
    have mZ:∀ b',some b=some b'→aa j=some b':=fun b' h=>by cases h;exact e1
    rw [Nat.mul_one] at e6
    have yA:=fun tg w' u=>vo (some b) tg w' u
    rcases Nat.lt_or_ge i n with hin | hin
    ·rcases Nat.lt_or_ge cap (n+1) with hc | hc
     ·have:=Ol L (ys:=xs.take n) (i:=i) (x:=x) (vc:=vc) (c:=cap) (by omega) e3 hf (by omega) (by omega) (by omega) hv vK
      rw [mC] at this
      refine this.mono ?_
      rintro e w' ⟨u,rfl,hu⟩
      exact yA _ w' u rfl hu mZ
     ·have:=On L (ys:=xs.take n) (i:=i) (x:=x) (vc:=vc) (c:=cap) (by omega) e3 hf (by omega) e5 e6 hv vK hne
      rw [mC] at this
      refine this.mono ?_
      rintro e w' ⟨u,rfl,hu⟩
      exact yA _ w' u rfl hu mZ
    ·obtain rfl:i=n:=by omega
     have vq:kH (xs.take i) i x=xs.take i++[x]:=by
      unfold kH
      rw [List.take_of_length_le (by omega),List.drop_of_length_le (by omega)]
     rcases Nat.lt_or_ge cap (i+1) with hc | hc
     ·have:=Oj L (ys:=xs.take i) (x:=x) (vc:=vc) (c:=cap) e3 hf (by omega) (by omega) (by omega) hv vK
      rw [mC] at this
      refine this.mono ?_
      rintro e w' ⟨u,rfl,hu⟩
      exact yA _ w' u vq.symm hu mZ
     ·have:=Ok L (ys:=xs.take i) (x:=x) (vc:=vc) (c:=cap) e3 hf (by omega) e5 e6 hv vK
      rw [mC] at this
      refine this.mono ?_
      rintro e w' ⟨u,rfl,hu⟩
      exact yA _ w' u vq.symm hu mZ
theorem VF {p X:Prop} (h1:X→p) (h2:X):p:=h1 h2
theorem Lt {n0:Nat} {env env':List (Nat×SV)} {h' C:List (Option HB)} {n j e az len:Nat} {xs:List (List RV)} (hn:n0≤h'.length) (hC:lf (mP h'.length) h') (hr:lk env n = .row j az len) (hj:h'.length≤j)
 (hg:aB (h'++C) j=some (.row e az (aN xs))) (hl:len≤xs.length) (h1:∀ x∈xs,∀ r∈x,r.one=true) (he:hJ h'.length env env'):fV n0 ⟨env,h'++C⟩ ⟨(n,.rv (.sl e (xs.take len)))::env',h'⟩:=by
 refine AE (gD h'.length) hn (fun j i hj=>?_) (fun j hj=>?_) (fun j=>?_) (wh (fun x=>.dead x) (fun p hp=>?_))
 ·unfold gD at hj;split at hj <;> cases hj;rfl
 ·unfold gD at hj;split at hj
  ·cases hj
  ·omega
 ·by_cases hj:j<h'.length
  ·obtain ⟨hb,g1,g2⟩:=hC.get j hj
   exact .inl ⟨hb,hb,by simp [gD,hj],pn.2 (by rw [List.getElem?_append_left hj];exact g1),pn.2 g1,g2.rn⟩
  ·refine .inr ⟨?_,.inl (by simp [gD,hj])⟩
   unfold aB
   rw [List.getElem?_eq_none (by omega)]
 ·rcases List.mem_cons.1 hp with rfl | hp
  ·dsimp only
   rw [hr]
   exact .fz _ _ (og hg (by simp [gD];omega) hl h1)
  ·rcases he.get p hp with h | ⟨h1,h2⟩
   ·rw [h];exact .dead _
   ·rw [h1];exact h2.rn
theorem Lu {n0:Nat} {env env':List (Nat×SV)} {h' C:List (Option HB)} {n j e az len:Nat} {xs ys:List (List RV)} (hys:xs.take len=ys) (hn:n0≤h'.length) (hC:lf (mP h'.length) h') (hr:lk env n = .row j az len) (hj:h'.length≤j)
 (hg:aB (h'++C) j=some (.row e az (aN xs))) (hl:len≤xs.length) (h1:∀ x∈xs,∀ r∈x,r.one=true) (he:hJ h'.length env env'):fV n0 ⟨env,h'++C⟩ ⟨(n,.rv (.sl e ys))::env',h'⟩:=by
 rw [← hys];exact Lt hn hC hr hj hg hl h1 he
end Go.aL

namespace Go.aL
open Go Go.Proofs Go.Shelf
theorem Pg:aU Go.Proofs.Tryz.prog 121 6 (fc Go.Proofs.Tryz.prog 121 6 [(.t 2)]) [(.t 2)]:=bl (by kernel_rfl)
theorem Pf:aU Go.Proofs.Tryz.prog 103 17 (fc Go.Proofs.Tryz.prog 103 17 [(.t 4)]) [(.t 4)]:=bl (by kernel_rfl)
theorem QS:aU Go.Proofs.Tryz.prog 104 6 (fc Go.Proofs.Tryz.prog 104 6 [(.t 2)]) [(.t 2)]:=bl (by kernel_rfl)
theorem QH:aU Go.Proofs.Tryz.prog 77 54 (fc Go.Proofs.Tryz.prog 77 54 [(.t 4),(.t 5)]) [(.t 4),(.t 5)]:=bl (by kernel_rfl)
def SZ:Ren:=⟨fun x=>if x=21 then 78 else if x=27 then 105 else if x=28 then 106 else if x=35 then 122 else if x=39 then 125 else x,
 fun t=>if t=3 then 3 else if t=4 then 4 else if t=22 then 90 else t,fun x=>x⟩
theorem Ru:Lays2.n21 Go.Proofs.Tryz.prog SZ where
 mixed:=by kernel_rfl
 f21:=by kernel_rfl
 f27:=by kernel_rfl
 f28:=by kernel_rfl
 f35:=by kernel_rfl
 f39:=by kernel_rfl
 t0:=Tryz.underlying0
 a0:=Tryz.isAgg0
 z0:=fun w=>by rw [jq (n:=1) (by kernel_rfl)]
 v0:=Tryz.zeroValue0
 t3:=Tryz.underlying3
 a3:=Tryz.isAgg3
 z3:=Tryz.sizeOf3
 v3:=Tryz.zeroValue3
 t4:=Tryz.underlying4
 a4:=Tryz.isAgg4
 z4:=Tryz.sizeOf4
 v4:=Tryz.zeroValue4
 t22:=Tryz.underlying90
 a22:=Tryz.isAgg90
 z22:=Tryz.sizeOf90
 v22:=Tryz.zeroValue90
 i3:=by kernel_rfl
theorem Fw (xs:List Int):oy xs=aN (aM xs):=by simp [aN,aM]
theorem TR (j j2 v v2 i n:Nat) (x:Int) (xs:List Int) (hj:j≠j2) (hn:n≤xs.length) (hi:i≤n) (hbig:n≤1000000) :
 aK Go.Proofs.Tryz.prog 78 [.row j v n,.rv (.int .i64 i),.row j2 v2 1] [(j,.row 1 v (aN (aM xs))),(j2,.row 1 v2 [[.rv (.int .i64 x)]])] [(j,.row 1 (v+1) (aN (aM (kH (xs.take n) i x))))] (.row j (v+1) (n+1)):=by
 have:=KL (P:=Go.Proofs.Tryz.prog) Ru (by kernel_rfl) j j2 v v2 i n x xs hj hn hi hbig
 rw [Fw xs,Fw (kH (xs.take n) i x)] at this
 exact this
theorem Us (a:Int):aK Go.Proofs.Tryz.prog 121 [.rv (.int .i64 a)] [] [] (.rv (.bool false)):=by
 refine bu Pg [.rv (.int .i64 a)] _ (by simp) (by simp [aP,aY,bq,aW,bk,aC.sv,Ln.sv,Nd.sv]) (fun K hK=>?_)
 have h:(a != a)=false:=by simp
 conv in fc _ _ _ _=>reduce
 simp -implicitDefEqProofs only [go_sem,Int.reduceNegSucc]
 repeat' (first | (simp -implicitDefEqProofs only [go_sem,Int.reduceNegSucc,h]) | (with_reducible refine aA ?_) | ((first | refine ai (fun hg=>?_) (fun hg=>?_) | refine ax (fun hg=>?_) (fun hg=>?_) | refine ay (fun hg=>?_) (fun hg=>?_)) <;> try simp -implicitDefEqProofs only [hg,Bool.not_true,Bool.not_false]) | ((with_reducible apply And.intro);focus (first | trivial | omega | decide | (simp -implicitDefEqProofs only [maxLen];omega) | (simp [maxLen,af,ak,an,av,aj,au,aq] <;> omega))) | fail)
 exact (hK _ _ (bS rfl)).2
theorem Uj (a b:Int):aK Go.Proofs.Tryz.prog 103 [.rv (.int .i64 a),.rv (.int .i64 b)] [] [] (.rv (.bool (decide (a<b)))):=by
 refine bu Pf [.rv (.int .i64 a),.rv (.int .i64 b)] _ (by simp) (by simp [aP,aY,bq,aW,bk,aC.sv,Ln.sv,Nd.sv]) (fun K hK=>?_)
 conv in fc _ _ _ _=>reduce
 simp -implicitDefEqProofs only [go_sem,Int.reduceNegSucc]
 have bf:=Us a;repeat' (first | (simp -implicitDefEqProofs only [go_sem,Int.reduceNegSucc]) | (with_reducible refine aA ?_) | (with_reducible first | refine ag bf ?_ | refine ah bf ?_) | ((first | refine ai (fun hg=>?_) (fun hg=>?_) | refine ax (fun hg=>?_) (fun hg=>?_) | refine ay (fun hg=>?_) (fun hg=>?_)) <;> try simp -implicitDefEqProofs only [hg,Bool.not_true,Bool.not_false]) | ((with_reducible apply And.intro);focus (first | trivial | omega | decide | (simp -implicitDefEqProofs only [maxLen];omega) | (simp [maxLen,af,ak,an,av,aj,au,aq] <;> omega))) | fail)
 exact (hK _ _ (bS rfl)).2
theorem Ut (a:Int):aK Go.Proofs.Tryz.prog 104 [.rv (.int .i64 a)] [] [] (.rv (.bool false)):=by
 refine bu QS [.rv (.int .i64 a)] _ (by simp) (by simp [aP,aY,bq,aW,bk,aC.sv,Ln.sv,Nd.sv]) (fun K hK=>?_)
 have h:(a != a)=false:=by simp
 conv in fc _ _ _ _=>reduce
 simp -implicitDefEqProofs only [go_sem,Int.reduceNegSucc]
 repeat' (first | (simp -implicitDefEqProofs only [go_sem,Int.reduceNegSucc,h]) | (with_reducible refine aA ?_) | ((first | refine ai (fun hg=>?_) (fun hg=>?_) | refine ax (fun hg=>?_) (fun hg=>?_) | refine ay (fun hg=>?_) (fun hg=>?_)) <;> try simp -implicitDefEqProofs only [hg,Bool.not_true,Bool.not_false]) | ((with_reducible apply And.intro);focus (first | trivial | omega | decide | (simp -implicitDefEqProofs only [maxLen];omega) | (simp [maxLen,af,ak,an,av,aj,au,aq] <;> omega))) | fail)
 exact (hK _ _ (bS rfl)).2
def jV (ks:List Nat) (x:Nat):Nat:=(ks.filter fun y=>decide (y<x)).length
def yp (ks:List Nat) (x:Nat):Bool:=if h:jV ks x<ks.length then ((ks[jV ks x]'h:Nat):Int) ==(x:Int) else false
theorem DJ (ks:List Nat) (x:Nat):jV ks x≤ks.length:=List.length_filter_le _ _
theorem Lg {ks:List Nat} {x i:Nat} (hi:i≤ks.length) (h1:∀ j (h:j<ks.length),j<i→ks[j]<x) (h2:∀ j (h:j<ks.length),i≤j→x≤ks[j]):jV ks x=i:=by
 unfold jV
 have e1:(ks.take i).filter (fun y=>decide (y<x))=ks.take i:=List.filter_eq_self.2 fun a ha=>by
  obtain ⟨j,hj,rfl⟩:=List.getElem_of_mem ha
  simp -implicitDefEqProofs only [List.length_take] at hj
  rw [List.getElem_take]
  exact decide_eq_true (h1 j (by omega) (by omega))
 have e2:(ks.drop i).filter (fun y=>decide (y<x))=[]:=List.filter_eq_nil_iff.2 fun a ha=>by
  obtain ⟨j,hj,rfl⟩:=List.getElem_of_mem ha
  simp -implicitDefEqProofs only [List.length_drop] at hj
  rw [List.getElem_drop]
  have:=h2 (i+j) (by omega) (by omega)
  simp;omega
 have e3:=List.take_append_drop i ks
 rw [← e3,List.filter_append,e1,e2,List.append_nil,List.length_take]
 omega
theorem EH (a:Int):a.fdiv (2 ^ min 1 64)=a / 2:=by
 rw [Int.fdiv_eq_ediv_of_nonneg _ (by decide)];rfl
theorem VI {n:Int} (h1:0≤n) (h2:n<18446744073709551616):IntKind.u64.wrap n=n:=by
 have:IntKind.u64.wrap n=n % 18446744073709551616:=by rfl
 rw [this];omega
theorem TD (ks:List Nat) (x:Nat) (hb:ks.length≤1000000) (hp:ks.Pairwise (·< ·)):aK Go.Proofs.Tryz.prog 77 [.rv (.sl 1 (aM (bp ks))),.rv (.int .i64 x)] [] [] (.aO [.rv (.int .i64 (jV ks x)),.rv (.bool (yp ks x))]):=by
 refine bu QH [.rv (.sl 1 (aM (bp ks))),.rv (.int .i64 x)] _ (by simp) (by simp [aP,aY,bq,aW,bk,aC.sv,Ln.sv,Nd.sv]) (fun K hK=>?_)
 have hl:=zf ks
 conv in fc _ _ _ _=>reduce
 simp -implicitDefEqProofs only [go_sem,Int.reduceNegSucc]
 repeat' (first | (simp -implicitDefEqProofs only [go_sem,Int.reduceNegSucc,hl]) | (with_reducible refine aA ?_) | ((first | refine ai (fun hg=>?_) (fun hg=>?_) | refine ax (fun hg=>?_) (fun hg=>?_) | refine ay (fun hg=>?_) (fun hg=>?_)) <;> try simp -implicitDefEqProofs only [hg,Bool.not_true,Bool.not_false]) | ((with_reducible apply And.intro);focus (first | trivial | omega | decide | (simp -implicitDefEqProofs only [maxLen];omega) | (simp [maxLen,af,ak,an,av,aj,au,aq] <;> omega))) | fail)
 refine fH (ι:=Nat×Nat) (fun q=>[(7,.rv (.int .i64 q.1)),(8,.rv (.int .i64 q.2)),(6,.rv (.int .i64 ks.length)),(0,.rv (.sl 1 (aM (bp ks)))),(1,.rv (.int .i64 x))]) (fun _=>[])
  (fun q=>q.1≤q.2∧q.2≤ks.length∧(∀ j (h:j<ks.length),j<q.1→ks[j]<x)∧∀ j (h:j<ks.length),q.2≤j→x≤ks[j]) (fun q=>q.2 - q.1) (0,ks.length) ⟨Nat.zero_le _,Nat.le_refl _,fun j h h2=>absurd h2 (by simp),fun j h h2=>absurd h2 (by simp;omega)⟩ (bg (by simp [lk])) (fun q hq K' hN hX hR=>?_)
 obtain ⟨i,j⟩:=q
 obtain ⟨h1,h2,h3,h4⟩:=hq
 dsimp at h1 h2 h3 h4 ⊢
 simp -implicitDefEqProofs only [go_sem,Int.reduceNegSucc]
 refine ai (fun hg=>?_) (fun hg=>?_)
 ·have hij:i<j:=by simp at hg;omega
  have w1:IntKind.i64.wrap ((i:Int)+j)=(i:Int)+j:=wrap_i64 (by omega) (by omega)
  have w2:IntKind.u64.wrap ((i:Int)+j)=(i:Int)+j:=VI (by omega) (by omega)
  obtain ⟨m,hm⟩:∃ m:Nat,m=(i+j) / 2:=⟨_,rfl⟩
  have w3:((i:Int)+j) / 2=(m:Int):=by omega
  have w4:IntKind.i64.wrap (m:Int)=m:=wrap_i64 (by omega) (by omega)
  have w5:=fB (k:=m) (by omega)
  have hml:m<ks.length:=by omega
  have hx:(aM (bp ks))[m]?.getD []=[.int .i64 (ks[m]:Nat)]:=by simp [aM,bp,hml]
  have hc:=Uj (ks[m]:Nat) x
  have hlt:∀ a b (ha:a<ks.length) (hb:b<ks.length),a<b→ks[a]<ks[b]:=fun a b ha hb hab=>List.pairwise_iff_getElem.1 hp a b ha hb hab
  by_cases mW:ks[m]<x
  ·have e:decide (((ks[m]:Nat):Int)<(x:Int))=true:=decide_eq_true (by omega)
   rw [e] at hc
   have y_2:=hc;repeat' (first | (simp -implicitDefEqProofs only [go_sem,Int.reduceNegSucc,hl,w1,w2,EH,w3,w4,w5,hx]) | (with_reducible refine aA ?_) | (with_reducible first | refine ag y_2 ?_ | refine ah y_2 ?_) | ((first | refine ai (fun hg=>?_) (fun hg=>?_) | refine ax (fun hg=>?_) (fun hg=>?_) | refine ay (fun hg=>?_) (fun hg=>?_)) <;> try simp -implicitDefEqProofs only [hg,Bool.not_true,Bool.not_false]) | ((with_reducible apply And.intro);focus (first | trivial | omega | decide | (simp -implicitDefEqProofs only [maxLen];omega) | (simp [maxLen,af,ak,an,av,aj,au,aq] <;> omega) | (omega;done))) | fail)
   refine hN (m+1,j) _ _ ⟨by dsimp;omega,h2,fun a ha Bo=>?_,h4⟩ (by dsimp;omega) (bg (by simp [lk]))
   dsimp at Bo
   rcases Nat.lt_or_ge a m with h | h
   ·have:=hlt a m ha hml h;omega
   ·obtain rfl:a=m:=by omega
    exact mW
  ·have e:decide (((ks[m]:Nat):Int)<(x:Int))=false:=decide_eq_false (by omega)
   rw [e] at hc
   have bB:=hc;repeat' (first | (simp -implicitDefEqProofs only [go_sem,Int.reduceNegSucc,hl,w1,w2,EH,w3,w4,w5,hx]) | (with_reducible refine aA ?_) | (with_reducible first | refine ag bB ?_ | refine ah bB ?_) | ((first | refine ai (fun hg=>?_) (fun hg=>?_) | refine ax (fun hg=>?_) (fun hg=>?_) | refine ay (fun hg=>?_) (fun hg=>?_)) <;> try simp -implicitDefEqProofs only [hg,Bool.not_true,Bool.not_false]) | ((with_reducible apply And.intro);focus (first | trivial | omega | decide | (simp -implicitDefEqProofs only [maxLen];omega) | (simp [maxLen,af,ak,an,av,aj,au,aq] <;> omega) | (omega;done))) | fail)
   refine hN (i,m) _ _ ⟨by dsimp;omega,by dsimp;omega,h3,fun a ha Bo=>?_⟩ (by dsimp;omega) (bg (by simp [lk]))
   dsimp at Bo
   rcases Nat.lt_or_ge m a with h | h
   ·have:=hlt m a hml ha h;omega
   ·obtain rfl:a=m:=by omega
    omega
 ·have hij:i=j:=by simp at hg;omega
  subst hij
  simp -implicitDefEqProofs only [go_sem,Int.reduceNegSucc]
  refine hX _ _ _ ?_
  clear hN hX hR
  have vk:=Lg h2 h3 h4
  have jy:yp ks x=if h:i<ks.length then ((ks[i]'h:Nat):Int) ==(x:Int) else false:=by unfold yp;simp -implicitDefEqProofs only [vk]
  rw [vk,jy] at hK
  by_cases fG:i<ks.length
  ·have e:decide ((i:Int)<(ks.length:Int))=true:=decide_eq_true (by omega)
   have hx:(aM (bp ks))[i]?.getD []=[.int .i64 (ks[i]:Nat)]:=by simp [aM,bp,fG]
   rw [dif_pos fG] at hK
   have hn:=Ut (ks[i]:Nat)
   cases hq:(((ks[i]:Nat):Int) ==(x:Int)) with
   | true=>
     rw [hq] at hK
     have bG:=hn;repeat' (first | (simp -implicitDefEqProofs only [go_sem,Int.reduceNegSucc,hl,e,hx,hq]) | (with_reducible refine aA ?_) | (with_reducible first | refine ag bG ?_ | refine ah bG ?_) | ((first | refine ai (fun hg=>?_) (fun hg=>?_) | refine ax (fun hg=>?_) (fun hg=>?_) | refine ay (fun hg=>?_) (fun hg=>?_)) <;> try simp -implicitDefEqProofs only [hg,Bool.not_true,Bool.not_false]) | ((with_reducible apply And.intro);focus (first | trivial | omega | decide | (simp -implicitDefEqProofs only [maxLen];omega) | (simp [maxLen,af,ak,an,av,aj,au,aq] <;> omega))) | fail)
     refine (hK _ _ (gj ?_ ?_)).2 <;> rfl
   | false=>
     rw [hq] at hK
     have bI:=hn;repeat' (first | (simp -implicitDefEqProofs only [go_sem,Int.reduceNegSucc,hl,e,hx,hq]) | (with_reducible refine aA ?_) | (with_reducible first | refine ag bI ?_ | refine ah bI ?_) | ((first | refine ai (fun hg=>?_) (fun hg=>?_) | refine ax (fun hg=>?_) (fun hg=>?_) | refine ay (fun hg=>?_) (fun hg=>?_)) <;> try simp -implicitDefEqProofs only [hg,Bool.not_true,Bool.not_false]) | ((with_reducible apply And.intro);focus (first | trivial | omega | decide | (simp -implicitDefEqProofs only [maxLen];omega) | (simp [maxLen,af,ak,an,av,aj,au,aq] <;> omega))) | fail)
     refine (hK _ _ (gj ?_ ?_)).2 <;> rfl
  ·have e:decide ((i:Int)<(ks.length:Int))=false:=decide_eq_false (by omega)
   rw [dif_neg fG] at hK
   repeat' (first | (simp -implicitDefEqProofs only [go_sem,Int.reduceNegSucc,hl,e]) | (with_reducible refine aA ?_) | ((first | refine ai (fun hg=>?_) (fun hg=>?_) | refine ax (fun hg=>?_) (fun hg=>?_) | refine ay (fun hg=>?_) (fun hg=>?_)) <;> try simp -implicitDefEqProofs only [hg,Bool.not_true,Bool.not_false]) | ((with_reducible apply And.intro);focus (first | trivial | omega | decide | (simp -implicitDefEqProofs only [maxLen];omega) | (simp [maxLen,af,ak,an,av,aj,au,aq] <;> omega))) | fail)
   refine (hK _ _ (gj ?_ ?_)).2 <;> rfl
def jK (ks:List Nat) (x:Nat):List Nat:=ks.take (jV ks x)++x::ks.drop (jV ks x)
theorem yU (ks:List Nat) (x:Nat):(jK ks x).length=ks.length+1:=by
 have:=DJ ks x
 simp [jK];omega
theorem vO {ks:List Nat} {x m:Nat}:m∈jK ks x↔m=x∨m∈ks:=by
 unfold jK
 rw [List.mem_append,List.mem_cons]
 conv=>rhs;rw [← List.take_append_drop (jV ks x) ks,List.mem_append]
 constructor
 ·rintro (h | h | h)
  ·exact .inr (.inl h)
  ·exact .inl h
  ·exact .inr (.inr h)
 ·rintro (h | h | h)
  ·exact .inr (.inl h)
  ·exact .inl h
  ·exact .inr (.inr h)
theorem Oh (ks:List Nat) (x:Nat):kH (bp ks) (jV ks x) x=bp (jK ks x):=by simp [kH,bp,jK]
theorem Lc (ks:List Int) (p:Int→Bool):(mj ks p).take (ig ks p).length=ig ks p:=by
 unfold mj;rw [List.take_left]
section
variable (l:List Nd) (n:Int)
def qC:List Int:=mj (bp (ic l n)) fun m=>!iA l m
theorem An:(qC l n).take (bw l n).length=bp (bw l n):=by
 have hfl:(ig (bp (ic l n)) fun m=>!iA l m)=bp (bw l n):=by
  unfold ig bw bp
  rw [List.filter_map]
  simp [Function.comp_def]
 have pG:(bw l n).length=(ig (bp (ic l n)) fun m=>!iA l m).length:=by rw [hfl];simp [bp]
 rw [pG,qC,Lc,hfl]
theorem DI:(bw l n).length≤(qC l n).length:=by
 have:=congrArg List.length (An l n)
 rw [GC,List.length_take] at this
 omega
theorem TF (hb:(bw l n).length≤1000000) (hp:(bw l n).Pairwise (·< ·)) (j v x:Nat):aK Go.Proofs.Tryz.prog 77 [.row j v (bw l n).length,.rv (.int .i64 x)] [(j,.row 1 v (aN (aM (qC l n))))] [] (.aO [.rv (.int .i64 (jV (bw l n) x)),.rv (.bool (yp (bw l n) x))]):=by
 refine uR (iO:=[.rv (.sl 1 (aM (bp (bw l n)))),.rv (.int .i64 x)]) (TD (bw l n) x hb hp) rfl (fun hp hpre k y r hy hr=>?_) (.aO _ fun k y hy=>?_) (by simp)
 ·match k with
  | 0=>
    cases hy;cases hr
    have:=og (h:=hp) (τ:=fun _=>none) (j:=j) (e:=1) (az:=v) (len:=(bw l n).length) (xs:=aM (qC l n)) (hpre _ (.head _)) rfl (by rw [aj];exact DI l n) (kI _)
    rw [show (aM (qC l n)).take (bw l n).length=aM (bp (bw l n)) by rw [← An];simp [aM,List.map_take]] at this
    exact .fz _ _ this
  | 1=>cases hy;cases hr;exact aG.2 rfl
  | k+2=>simp at hy
 ·match k with
  | 0=>cases hy;exact .rv _ (.int _ _)
  | 1=>cases hy;exact .rv _ (.bool _)
  | k+2=>simp at hy
end
end Go.aL

namespace Go.aL
open Go
theorem LC {l:List Nd} (hs:gF l) {n:Int} {m:Nat} (h:m∈bw l n):n<m∧m<l.length:=by
 have h:=(List.mem_filter.1 h).1
 unfold ic at h
 split at h
 ·rename_i hin
  obtain ⟨k,rfl,hk⟩:=qi hin
  obtain ⟨h1,h2,h3⟩:=qV.1 h
  have:=hs.up m h1 h2
  simp -implicitDefEqProofs only [Int.toNat_natCast] at h3
  omega
 ·simp at h
theorem va (l:List Nd) (n:Int):(bw l n).length≤l.length:=by
 have h1:=List.length_filter_le (fun (m:Nat)=>iA l m) (ic l n)
 have h2:=Gc l n
 unfold bw;omega
theorem Ay (e:Ed):(e.cells.map SV.rv)[26]?=some (.rv (.bool e.nM)):=rfl
theorem Lp (e:Ed):(e.cells.map SV.rv)[27]?=some (.rv (.bool e.lE)):=rfl
theorem rX (e:Ed):e.cells.length=28:=rfl
theorem tO (f:Fm):(f.cells.map SV.rv).take 25=f.cells.map SV.rv:=rfl
theorem ym (f:Fm):f.cells.take 25=f.cells:=rfl
theorem yl (f:Fm):(f.cells.map SV.rv).drop 25=[]:=rfl
theorem Ew (f:Fm):((f.cells.map SV.rv).drop 17).take 8=f.child.cells.map SV.rv:=rfl
theorem DC (c:Ch):c.cells.length=8:=rfl
theorem Dg {X:List (Nat×Fm)} {m:Nat} {f:Fm}:aN (gT X)++[SV.rv (.int .i64 m)::f.cells.map SV.rv]=aN (gT (X++[(m,f)])):=by simp [aN,gT,kf]
theorem Dh {X Y:List (Nat×Fm)}:aN (gT X)++aN (gT Y)=aN (gT (X++Y)):=by simp [aN,gT]
theorem Df {X:List Ch} {c:Ch}:aN (gG X)++[c.cells.map SV.rv]=aN (gG (X++[c])):=by simp [aN,gG]
theorem IK {X:List (Nat×Fm)}:(gT X).take X.length=gT X:=List.take_of_length_le (by rw [mE];omega)
theorem IL {X:List (Nat×Fm)} {y:Nat×Fm}:(gT (X++[y])).take (X.length+1)=gT (X++[y]):=List.take_of_length_le (by rw [mE];simp)
def xj:List SV:=[.rv .cw,.rv .cw,.rv (.int .i64 0),.rv (.int .i64 0),.rv (.int .i64 0),.rv (.int .i64 0),.rv (.int .i64 0),.rv (.bool false),.rv (.int .i64 0)]
def qP (h:Sz) (e:Ed) (k n:Nat) (o:List Int) (c:List Ch) (L:List (Nat×Fm)):List (Option HB):=
 [some (.var (h.cells.map .rv)),some (.var (e.cells.map .rv)),some (.var xj),some (.var [.row 6 (2*k) n,.rv .cw,.rv (.int .i64 0),.rv (.int .i64 0),.rv (.int .i64 0),.rv (.int .i64 0),.rv (.int .i64 0),.rv (.bool false),.rv (.int .i64 0)]),
  some (.row 1 k (aN (aM o))),some (.row 8 k (aN (gG c))),some (.row 26 (2*k) (aN (gT L)))]
def yS (h:Sz) (e:Ed) (rs:List (Nat×Fm×La)):List (Option HB):=qP h e rs.length (bT rs).length (je rs) (gH rs) (bT rs)
theorem Oe (h:Sz) (e:Ed) (k n:Nat) (o:List Int) (c:List Ch) (L:List (Nat×Fm)):lf (mP 7) (qP h e k n o c L):=
 ⟨jw,jw,jw (rs:=bH none),⟨jx.2 (by decide),jw (rs:=[.cw,.int .i64 0,.int .i64 0,.int .i64 0,.int .i64 0,.int .i64 0,.bool false,.int .i64 0])⟩,iP,iP,iP,trivial⟩
theorem Er (l:List Nd) (n:Int):(bw l n).Pairwise (·< ·):=by
 unfold bw ic
 split
 ·unfold ie bE
  exact (List.pairwise_lt_range.filter _).filter _
 ·exact .nil
theorem Og (h:Sz) (e:Ed):lf (mP 3) [some (.var (h.cells.map .rv)),some (.var (e.cells.map .rv)),some (.var xj)]:=⟨jw,jw,jw (rs:=bH none),trivial⟩
theorem Ik (l:List Nd) (hb:l.length≤1000) (n:Int) (w:Int) (h:Sz) (e:Ed) (bx:Nat→Option (Fm×La)) (more:Int) (ks:List Nat) (hks:(more<0∧ks=bw l n)∨∃ x:Nat,more=x∧ks=jK (bw l n) x) (VX:ks.length≤1000)
 (hlen:∀ m∈ks,∀ q,bx m=some q→q.2.L.length≤1000)
 (hB:iL w h=true→∀ m∈ks,aK Go.Proofs.Tryz.prog 30 [.rv (cv l),.rv (.int .i64 m),.rv (.int .i64 w),h.sv,.rv (.bool (bN l n).bZ)] [] [] (mT (bx m))) :
 aK Go.Proofs.Tryz.prog 49 [.rv (cv l),.rv (.int .i64 n),.rv (.int .i64 w),h.sv,e.sv,.rv (.int .i64 more)] [] [] (.aO [.agg ((bH (kT bx ks (iL w h) e.nM e.lE).1).map .rv),.rv (.bool (kT bx ks (iL w h) e.nM e.lE).2)]):=by
 refine bu Qj [.rv (cv l),.rv (.int .i64 n),.rv (.int .i64 w),h.sv,e.sv,.rv (.int .i64 more)] _ (by simp) (by simp [aP,aY,bq,aW,bk,aC.sv,Ln.sv,Nd.sv]) (fun K hK=>?_)
 have hm:=Ij w h
 have hfl:=zf ks
 have hst:=Ie l n
 unfold kT at hK
 cases hmay:iL w h with
 | false=>
   rw [hmay] at hm
   simp -implicitDefEqProofs only [hmay,Bool.false_eq_true,if_false] at hK
   conv in fc _ _ _ _=>reduce
   simp -implicitDefEqProofs only [Sz.sv,Sz.cells,Ed.sv,go_sem,Int.reduceNegSucc] at hm ⊢
   have bf:=hm;repeat' (first | (simp -implicitDefEqProofs only [go_sem,Int.reduceNegSucc,rX]) | (with_reducible refine aA ?_) | (with_reducible first | refine ag bf ?_ | refine ah bf ?_) | ((first | refine ai (fun hg=>?_) (fun hg=>?_) | refine ax (fun hg=>?_) (fun hg=>?_) | refine ay (fun hg=>?_) (fun hg=>?_)) <;> try simp -implicitDefEqProofs only [hg,Bool.not_true,Bool.not_false]) | ((with_reducible apply And.intro);focus (first | trivial | omega | decide | (simp -implicitDefEqProofs only [maxLen];omega) | (simp [maxLen,af,ak,an,av,aj,au,aq] <;> omega))) | fail)
   all_goals (refine (hK _ _ ?_).2;clear hK;simp -implicitDefEqProofs only [go_sem,Int.reduceNegSucc,aQ,aS,aX,bn,aI,aG,aF,bH] <;>(try simp_all [-Int.not_lt,-Int.not_le,aI,aG,aF,bA,bH]) <;> try omega)
 | true=>
   rw [hmay] at hm
   simp -implicitDefEqProofs only [hmay,if_true] at hK
   have hB:=hB hmay
   conv in fc _ _ _ _=>reduce
   simp -implicitDefEqProofs only [Sz.sv,Sz.cells,Ed.sv,go_sem,Int.reduceNegSucc] at hm ⊢
   have flb:=va l n
   apply VF
   ·intro main
    rcases hks with ⟨hm0,hk⟩ | ⟨x,rfl,hk⟩
    ·have g0:decide (more≥0)=false:=decide_eq_false (by clear main;omega)
     have hf:=HZ l n (by clear main;omega)
     rw [← hk] at hf
     have y_2:=hm;have bB:=hf;repeat' (first | (simp -implicitDefEqProofs only [go_sem,Int.reduceNegSucc,g0,rX]) | (with_reducible first | refine ag y_2 ?_ | refine ah y_2 ?_) | (with_reducible first | refine ag bB ?_ | refine ah bB ?_) | ((first | refine ai (fun hg=>?_) (fun hg=>?_) | refine ax (fun hg=>?_) (fun hg=>?_) | refine ay (fun hg=>?_) (fun hg=>?_)) <;> try simp -implicitDefEqProofs only [hg,Bool.not_true,Bool.not_false]) | ((with_reducible apply And.intro);focus (first | trivial | omega | decide | (simp -implicitDefEqProofs only [maxLen];omega) | (simp [maxLen,af,ak,an,av,aj,au,aq] <;> omega))) | fail)
     refine jl [(14,.rv (.sl 1 (aM (bp ks)))),(0,.rv (cv l)),(1,.rv (.int .i64 n)),(2,.rv (.int .i64 w)),(9,.ptr 0 0),(10,.ptr 1 0),(12,.ptr 2 0)] [some (.var (h.cells.map .rv)),some (.var (e.cells.map .rv)),some (.var xj)] (bg (by simp [lk])) main
    ·have g0:decide ((x:Int)≥0)=true:=decide_eq_true (by clear main;omega)
     have hf:=HY l n (by clear main;omega) 3
     have mo:=TF l n (by clear main;omega) (Er l n) 3 1 x
     have hin:=TR 3 4 1 0 (jV (bw l n) x) (bw l n).length x (qC l n) (by decide) (DI l n) (DJ _ _) (by clear main;omega)
     rw [An,Oh,← hk] at hin
     rw [show (mj (bp (ic l n)) fun m=>!iA l m)=qC l n from rfl] at hf
     have gI:ks.length=(bw l n).length+1:=by rw [hk,yU]
     have bG:=hm;have bI:=hf;have bK:=mo;have bL:=hin;repeat' (first | (simp -implicitDefEqProofs only [go_sem,Int.reduceNegSucc,g0,rX]) | (with_reducible first | refine ag bG ?_ | refine ah bG ?_) | (refine bQ bI ?_ ?_ ?_;(focus (simp [aT,aB] <;> fail));(focus (simp [aZ,aR] <;> fail))) | (refine bV bI ?_ ?_ ?_;(focus (simp [aT,aB] <;> fail));(focus (simp [aZ,aR] <;> fail))) | (refine bQ bK ?_ ?_ ?_;(focus (simp [aT,aB] <;> fail));(focus (simp [aZ,aR] <;> fail))) | (refine bV bK ?_ ?_ ?_;(focus (simp [aT,aB] <;> fail));(focus (simp [aZ,aR] <;> fail))) | (refine bQ bL ?_ ?_ ?_;(focus (simp [aT,aB] <;> fail));(focus (simp [aZ,aR] <;> fail))) | (refine bV bL ?_ ?_ ?_;(focus (simp [aT,aB] <;> fail));(focus (simp [aZ,aR] <;> fail))) | ((first | refine ai (fun hg=>?_) (fun hg=>?_) | refine ax (fun hg=>?_) (fun hg=>?_) | refine ay (fun hg=>?_) (fun hg=>?_)) <;> try simp -implicitDefEqProofs only [hg,Bool.not_true,Bool.not_false]) | ((with_reducible apply And.intro);focus (first | trivial | omega | decide | (simp -implicitDefEqProofs only [maxLen];omega) | (simp [maxLen,af,ak,an,av,aj,au,aq] <;> omega))) | fail)
     have htl:(aM (bp ks)).take ((bw l n).length+1)=aM (bp ks):=List.take_of_length_le (by clear main;rw [hfl];omega)
     refine jl _ _ ?_ main
     refine Lu (j:=3) (e:=1) (az:=2) (len:=(bw l n).length+1) (xs:=aM (bp ks)) (h':=[some (.var (h.cells.map .rv)),some (.var (e.cells.map .rv)),some (.var xj)]) (C:=[some (.row 1 2 (aN (aM (bp ks)))),some (.row 1 0 [[.rv (.int .i64 x)]])]) htl (Nat.zero_le _) (Og h e) ?_ (by simp) rfl (by clear main;rw [hfl];omega) (kI _) ?_
     ·rfl
     ·simp [hJ,lk,jE,lJ]
   clear hks hm
   repeat' (first | (simp -implicitDefEqProofs only [go_sem,Int.reduceNegSucc,hfl]) | (with_reducible refine aA ?_) | ((first | refine ai (fun hg=>?_) (fun hg=>?_) | refine ax (fun hg=>?_) (fun hg=>?_) | refine ay (fun hg=>?_) (fun hg=>?_)) <;> try simp -implicitDefEqProofs only [hg,Bool.not_true,Bool.not_false]) | ((with_reducible apply And.intro);focus (first | trivial | omega | decide | (simp -implicitDefEqProofs only [maxLen];omega) | (simp [maxLen,af,ak,an,av,aj,au,aq] <;> omega))) | fail)
   refine fH (ι:=List (Nat×Fm×La)) (fun rs=>[(54,.rv (.int .i64 rs.length)),(53,.rv (.int .i64 ks.length)),(52,.rv (.sl 1 (aM (bp ks)))),(17,.ptr 3 0),(18,.row 4 rs.length rs.length),(19,.row 5 rs.length rs.length),(12,.ptr 2 0),(9,.ptr 0 0),(10,.ptr 1 0),(0,.rv (cv l)),(1,.rv (.int .i64 n)),(2,.rv (.int .i64 w))]) (yS h e)
    (fun rs=>rs.length≤ks.length∧(bT rs).length≤1001*rs.length∧kg bx ks=(kg bx (ks.drop rs.length)).map (rs ++ ·)) (fun rs=>ks.length - rs.length) [] ⟨Nat.zero_le _,by simp [bT],by cases hq:kg bx ks <;> simp [hq]⟩
    ((qG 18 1 0 rfl).trans ((qG 19 8 0 rfl).trans ((tJ 3 26 0 rfl rfl).trans (bg (by simp [lk,aR]))))) (fun rs NO K' hN hX hR=>?_)
   obtain ⟨Fk,tZ,gR⟩:=NO
   simp -implicitDefEqProofs only [yS,qP,Sz.cells,go_sem,Int.reduceNegSucc]
   refine ai (fun hg=>?_) (fun hg=>?_)
   ·have aE:rs.length<ks.length:=by simp at hg;omega
    have wu:=fB (k:=rs.length) (by omega)
    have hx:(aM (bp ks))[rs.length]?.getD []=[.int .i64 (ks[rs.length]:Nat)]:=by simp [aM,bp,aE]
    have kG:=hB _ (List.getElem_mem aE)
    rw [List.drop_eq_getElem_cons aE,kg] at gR
    have sE:=hlen _ (List.getElem_mem aE)
    have ED:=cA (bN l n)
    have q1:((bN l n).cells.map SV.rv).length=48:=rfl
    generalize ks[rs.length]=m at *
    cases su:bx m with
    | none=>
      rw [su] at kG gR
      simp -implicitDefEqProofs only [Option.map] at gR
      rw [gR] at hK
      simp -implicitDefEqProofs only [mT,bR,bH,Option.map,Option.isSome,List.map_cons,List.map_nil,Sz.sv,Sz.cells] at kG
      have bO:=hst;have cl:=kG;repeat' (first | (simp -implicitDefEqProofs only [go_sem,Int.reduceNegSucc,hfl,hx,ED,q1,af]) | (with_reducible refine aA ?_) | (with_reducible first | refine ag bO ?_ | refine ah bO ?_) | (with_reducible first | refine ag cl ?_ | refine ah cl ?_) | ((first | refine ai (fun hg=>?_) (fun hg=>?_) | refine ax (fun hg=>?_) (fun hg=>?_) | refine ay (fun hg=>?_) (fun hg=>?_)) <;> try simp -implicitDefEqProofs only [hg,Bool.not_true,Bool.not_false]) | ((with_reducible apply And.intro);focus (first | trivial | omega | decide | (simp -implicitDefEqProofs only [maxLen];omega) | (simp [maxLen,af,ak,an,av,aj,au,aq] <;> omega))) | fail)
      refine hR _ _ (hK _ _ ?_).2
      simp -implicitDefEqProofs only [go_sem,Int.reduceNegSucc,aQ,aS,aX,bn,aI,aG,aF,bH]
    | some q=>
      rw [su] at kG gR
      obtain ⟨f,t⟩:=q
      have Bn:=sE _ su
      simp -implicitDefEqProofs only [Option.map_map] at gR
      have Bm:(bT rs).length≤1001000:=by omega
      have hrl:rs.length≤1000:=by omega
      have hv:2*rs.length+1+1=2*(rs.length+1):=by omega
      have ho:=GJ (rs:=rs) (r:=(m,f,t))
      have hc:=Dz (rs:=rs) (r:=(m,f,t))
      have hls:bT rs++[(m,f)]++t.L=bT (rs++[(m,f,t)]):=by rw [CY];simp [nY]
      have By:(aM (je rs)).take rs.length=aM (je rs):=List.take_of_length_le (by rw [aj,uj];omega)
      have Bz:(gG (gH rs)).take rs.length=gG (gH rs):=List.take_of_length_le (by rw [oa];simp [gH])
      have l1:(aM (je rs)).length=rs.length:=by rw [aj,uj]
      have l2:(gG (gH rs)).length=rs.length:=by rw [oa];simp [gH]
      have l3:=mE (bT rs)
      have l4:=mE t.L
      have l5:(gT (bT rs++[(m,f)])).length=(bT rs).length+1:=by rw [mE];simp
      simp only at Bn
      simp -implicitDefEqProofs only [mT,bR,bH,Option.map,Option.isSome,Pl.cells,List.map_cons,List.map_nil,List.cons_append,List.nil_append,Sz.sv,Sz.cells] at kG
      have cr:=hst;have fU:=kG;repeat' (first | (simp -implicitDefEqProofs only [go_sem,Int.reduceNegSucc,hfl,hx,ED,q1,af,tN,tO,ym,yl,Ew,DC,Dg,Dh,Df,mF,IK,IL,By,Bz,l1,l2,l3,l4,l5,wu,hv]) | (with_reducible refine aA ?_) | (with_reducible first | refine ag cr ?_ | refine ah cr ?_) | (with_reducible first | refine ag fU ?_ | refine ah fU ?_) | ((first | refine ai (fun hg=>?_) (fun hg=>?_) | refine ax (fun hg=>?_) (fun hg=>?_) | refine ay (fun hg=>?_) (fun hg=>?_)) <;> try simp -implicitDefEqProofs only [hg,Bool.not_true,Bool.not_false]) | ((with_reducible apply And.intro);focus (first | trivial | omega | decide | (simp -implicitDefEqProofs only [maxLen];omega) | (simp [maxLen,af,ak,an,av,aj,au,aq] <;> omega) | (omega;done))) | fail)
      have hq:yS h e (rs++[(m,f,t)])=qP h e (rs.length+1) ((bT rs).length+1+t.L.length) (je rs++[((bT rs).length:Int)]) (gH rs++[f.child]) (bT rs++[(m,f)]++t.L):=by
       unfold yS
       rw [ho,hc,← hls]
       simp -implicitDefEqProofs only [List.length_append,List.length_cons,List.length_nil,Nat.zero_add]
      refine hN (rs++[(m,f,t)]) _ _ ⟨by simp;omega,by rw [← hls];simp;omega,?_⟩ (by simp;omega) ?_
      ·rw [gR]
       simp -implicitDefEqProofs only [List.length_append,List.length_cons,List.length_nil,Nat.zero_add]
       congr 1
       funext x
       simp
      ·rw [hq]
       exact ny (h':=qP h e (rs.length+1) ((bT rs).length+1+t.L.length) (je rs++[((bT rs).length:Int)]) (gH rs++[f.child]) (bT rs++[(m,f)]++t.L)) (Nat.zero_le _) (Oe _ _ _ _ _ _ _) (by simp [hJ,lk,jE,jx,lJ,qP])
   ·have aE:rs.length=ks.length:=by simp at hg;omega
    rw [aE,List.drop_length] at gR
    simp -implicitDefEqProofs only [kg,Option.map,List.append_nil] at gR
    rw [gR] at hK
    simp -implicitDefEqProofs only [gR] at hK
    simp -implicitDefEqProofs only [go_sem,Int.reduceNegSucc]
    refine hX _ _ _ ?_
    clear hN hX hR
    have hrl:rs.length≤1000:=by omega
    have hcl:(gH rs).length=rs.length:=by simp [gH]
    have hS:=Ub (gH rs) e.nM (by omega) 5 rs.length 7 (by decide)
    rw [hcl] at hS
    cases ow:jr (gH rs) e.nM with
    | none=>
      rw [ow] at hS
      simp -implicitDefEqProofs only [ow] at hK
      have hv:=CG ⟨0,0⟩
      simp -implicitDefEqProofs only [lW,kK,Option.isSome,Su.sv,Su.cells,List.map_cons,List.map_nil] at hS hv
      have gx:=hS;have gO:=hv;repeat' (first | (simp -implicitDefEqProofs only [go_sem,Int.reduceNegSucc,Ay,rX]) | (with_reducible refine aA ?_) | (refine bQ gx ?_ ?_ ?_;(focus (simp [aT,aB] <;> fail));(focus (simp [aZ,aR] <;> fail))) | (refine bV gx ?_ ?_ ?_;(focus (simp [aT,aB] <;> fail));(focus (simp [aZ,aR] <;> fail))) | (with_reducible first | refine ag gO ?_ | refine ah gO ?_) | ((first | refine ai (fun hg=>?_) (fun hg=>?_) | refine ax (fun hg=>?_) (fun hg=>?_) | refine ay (fun hg=>?_) (fun hg=>?_)) <;> try simp -implicitDefEqProofs only [hg,Bool.not_true,Bool.not_false]) | ((with_reducible apply And.intro);focus (first | trivial | omega | decide | (simp -implicitDefEqProofs only [maxLen];omega) | (simp [maxLen,af,ak,an,av,aj,au,aq] <;> omega))) | fail)
      all_goals (refine (hK _ _ ?_).2;clear hK;simp -implicitDefEqProofs only [go_sem,Int.reduceNegSucc,aQ,aS,aX,bn,aI,aG,aF,bH] <;>(try simp_all [-Int.not_lt,-Int.not_le,aI,aG,aF,bA,bH]) <;> try omega)
    | some q=>
      obtain ⟨p,ys⟩:=q
      rw [ow] at hS
      simp -implicitDefEqProofs only [ow] at hK
      have mC:=zL ow
      simp -implicitDefEqProofs only [List.length_nil,Nat.zero_add,hcl] at mC
      have hv:=CG p.cur
      simp -implicitDefEqProofs only [lW,kK,lG,Option.isSome,Pl.cells,Su.sv,Su.cells,List.map_cons,List.map_nil] at hS hv
      cases qh:nS p.cur with
      | false=>
        rw [qh] at hv
        simp -implicitDefEqProofs only [qh,Bool.false_eq_true,if_false] at hK
        have gP:=hS;have gQ:=hv;repeat' (first | (simp -implicitDefEqProofs only [go_sem,Int.reduceNegSucc,Ay,rX]) | (with_reducible refine aA ?_) | (refine bQ gP ?_ ?_ ?_;(focus (simp [aT,aB] <;> fail));(focus (simp [aZ,aR] <;> fail))) | (refine bV gP ?_ ?_ ?_;(focus (simp [aT,aB] <;> fail));(focus (simp [aZ,aR] <;> fail))) | (with_reducible first | refine ag gQ ?_ | refine ah gQ ?_) | ((first | refine ai (fun hg=>?_) (fun hg=>?_) | refine ax (fun hg=>?_) (fun hg=>?_) | refine ay (fun hg=>?_) (fun hg=>?_)) <;> try simp -implicitDefEqProofs only [hg,Bool.not_true,Bool.not_false]) | ((with_reducible apply And.intro);focus (first | trivial | omega | decide | (simp -implicitDefEqProofs only [maxLen];omega) | (simp [maxLen,af,ak,an,av,aj,au,aq] <;> omega))) | fail)
        all_goals (refine (hK _ _ ?_).2;clear hK;simp -implicitDefEqProofs only [go_sem,Int.reduceNegSucc,aQ,aS,aX,bn,aI,aG,aF,bH] <;>(try simp_all [-Int.not_lt,-Int.not_le,aI,aG,aF,bA,bH]) <;> try omega)
      | true=>
        rw [qh] at hv
        simp -implicitDefEqProofs only [qh,if_true] at hK
        have ir:=hS;have iu:=hv;repeat' (first | (simp -implicitDefEqProofs only [go_sem,Int.reduceNegSucc,Ay,rX]) | (with_reducible refine aA ?_) | (refine bQ ir ?_ ?_ ?_;(focus (simp [aT,aB] <;> fail));(focus (simp [aZ,aR] <;> fail))) | (refine bV ir ?_ ?_ ?_;(focus (simp [aT,aB] <;> fail));(focus (simp [aZ,aR] <;> fail))) | (with_reducible first | refine ag iu ?_ | refine ah iu ?_) | ((first | refine ai (fun hg=>?_) (fun hg=>?_) | refine ax (fun hg=>?_) (fun hg=>?_) | refine ay (fun hg=>?_) (fun hg=>?_)) <;> try simp -implicitDefEqProofs only [hg,Bool.not_true,Bool.not_false]) | ((with_reducible apply And.intro);focus (first | trivial | omega | decide | (simp -implicitDefEqProofs only [maxLen];omega) | (simp [maxLen,af,ak,an,av,aj,au,aq] <;> omega))) | fail)
        have BD:=aj ys
        have qg:=zx rs
        refine fH (ι:=Nat) (fun i=>[(119,.rv (.int .i64 i)),(118,.rv (.int .i64 rs.length)),(117,.row 4 rs.length rs.length),(17,.ptr 3 0),(25,.ptr 8 0),(27,.rv (.int .i64 (iN p.cur))),(10,.ptr 1 0),(12,.ptr 2 0)])
         (fun i=>qP h e rs.length (bT rs).length (je rs) (gH rs) (jf rs (ys.take i))++[some (.row 1 ys.length (aN (aM ys))),some (.var [.row 7 ys.length ys.length,.rv (.int .i64 p.iB),.rv (.int .i64 p.top.p),.rv (.int .i64 p.top.n),.rv (.int .i64 p.cur.p),.rv (.int .i64 p.cur.n),.rv (.bool p.me)])])
         (fun i=>i≤rs.length) (fun i=>rs.length - i) 0 (Nat.zero_le _) (by rw [List.take_zero,qg];exact bg (by simp [lk])) (fun i hi K' hN hX hR=>?_)
        simp -implicitDefEqProofs only [qP,Sz.cells,go_sem,Int.reduceNegSucc]
        refine ai (fun hg=>?_) (fun hg=>?_)
        ·have hi4:i<rs.length:=by simp at hg;omega
         have wu:=fB (k:=i) (by omega)
         have ho:=GI hi4
         have Bq:=uj (rs:=rs)
         have hy:=pK (show i<ys.length by omega)
         have iR:=He hi4 (show i<ys.length by omega)
         have jb:=Hf hi4 (show i<ys.length by omega)
         have hlt:(bT (rs.take i)).length<(bT rs).length:=by
          have:=(wF rs ys i hi4 (by omega)).1
          have:=(List.getElem?_eq_some_iff.1 this).1
          rwa [qo] at this
         have gd:(gT (jf rs (ys.take i))).length=(bT rs).length:=by rw [mE,qo]
         have fG:=aj (je rs)
         have CJ:=IC (rs[i].1,rs[i].2.1) ys[i]
         have vE:=GZ (rs[i].1,rs[i].2.1)
         repeat' (first | (simp -implicitDefEqProofs only [go_sem,Int.reduceNegSucc,ho,hy,iR,jb,gd,fG,Bq,CJ,vE,wu,BD]) | (with_reducible refine aA ?_) | ((first | refine ai (fun hg=>?_) (fun hg=>?_) | refine ax (fun hg=>?_) (fun hg=>?_) | refine ay (fun hg=>?_) (fun hg=>?_)) <;> try simp -implicitDefEqProofs only [hg,Bool.not_true,Bool.not_false]) | ((with_reducible apply And.intro);focus (first | trivial | omega | decide | (simp -implicitDefEqProofs only [maxLen];omega) | (simp [maxLen,af,ak,an,av,aj,au,aq] <;> omega) | (omega;done))) | fail)
         exact hN (i+1) _ _ (by omega) (by omega) (bg (by simp [lk]))
        ·have hi4:i=rs.length:=by simp at hg;omega
         have jc:ys.take i=ys:=List.take_of_length_le (by omega)
         rw [jc]
         clear jc hg
         simp -implicitDefEqProofs only [go_sem,Int.reduceNegSucc]
         refine hX _ _ _ ?_
         clear hN hX hR
         have hfit:=lY (qU rs (p,ys) e.lE).high
         have gd:(gT (jf rs ys)).length=(bT rs).length:=by rw [mE,qo]
         simp -implicitDefEqProofs only [qU] at hfit hK
         cases iR:p.me <;> cases mZ:e.lE <;> simp -implicitDefEqProofs only [iR,mZ,Bool.false_eq_true,if_true,if_false] at hfit hK
         all_goals ((have iw:=hfit;repeat' (first | (simp -implicitDefEqProofs only [go_sem,Int.reduceNegSucc,Lp,rX,iR,mZ]) | (with_reducible refine aA ?_) | (with_reducible first | refine ag iw ?_ | refine ah iw ?_) | ((first | refine ai (fun hg=>?_) (fun hg=>?_) | refine ax (fun hg=>?_) (fun hg=>?_) | refine ay (fun hg=>?_) (fun hg=>?_)) <;> try simp -implicitDefEqProofs only [hg,Bool.not_true,Bool.not_false]) | ((with_reducible apply And.intro);focus (first | trivial | omega | decide | (simp -implicitDefEqProofs only [maxLen];omega) | (simp [maxLen,af,ak,an,av,aj,au,aq] <;> omega))) | fail)))
         all_goals (refine (hK _ _ ?_).2;simp -implicitDefEqProofs only [go_sem,Int.reduceNegSucc,aQ,aS,aX,bn,aI,aG,aF,bH,Pl.cells,iR])
         all_goals (refine ⟨pN rfl rfl (by rw [gd]) (zo _),pN rfl rfl (by rw [aj]) (kI _)⟩)
theorem Ur (l:List Nd) (hb:l.length≤1000) (n:Int) (w:Int) (h:Sz) (e:Ed) (bx:Nat→Option (Fm×La)) (hlen:∀ m∈bw l n,∀ q,bx m=some q→q.2.L.length≤1000)
 (hB:∀ m∈bw l n,aK Go.Proofs.Tryz.prog 30 [.rv (cv l),.rv (.int .i64 m),.rv (.int .i64 w),h.sv,.rv (.bool (bN l n).bZ)] [] [] (mT (bx m))) :
 aK Go.Proofs.Tryz.prog 49 [.rv (cv l),.rv (.int .i64 n),.rv (.int .i64 w),h.sv,e.sv,.rv (.int .i64 (-1))] [] [] (.aO [.agg ((bH (kT bx (bw l n) (iL w h) e.nM e.lE).1).map .rv),.rv (.bool (kT bx (bw l n) (iL w h) e.nM e.lE).2)]):=
 Ik l hb n w h e bx (-1) (bw l n) (.inl ⟨by decide,rfl⟩) (by have:=va l n;omega) hlen (fun _=>hB)
end Go.aL

namespace Go.aL
open Go
def yT (l:List Nd) (bd:Nat→Int→Sz→Bool→Option (Fm×La)) (n:Nat) (e:Ed) (x:Ao):Option La×Bool:=
 kT (fun m=>bd m x.w (mA e) (bN l n).bZ) (bw l n) (iL x.w (mA e)) e.nM e.lE
def mS (l:List Nd):Nat→Nat→Int→Sz→Bool→Option (Fm×La)
 | 0,_,_,_,_=>none
 | d+1,n,w,h,bZ=>rQ l (yT l (mS l d) n) n w h bZ
def VP (l:List Nd) (n:Int) (w:Int) (h:Sz) (bZ:Bool):Option (Fm×La):=if (iE l n && iL w h)=true then mS l (l.length+1) n.toNat w h bZ else none
theorem LP (l:List Nd) (n:Int):(bw l n).Pairwise (·< ·):=by
 unfold bw ic
 split
 ·unfold ie bE
  exact (List.pairwise_lt_range.filter _).filter _
 ·exact .nil
theorem oY {l:List Nd} {n:Nat} {m:Nat} (h:m∈bw l n):0<m∧m<l.length∧bz l m=n:=by
 have h:=(List.mem_filter.1 h).1
 unfold ic at h
 split at h
 ·exact qV.1 (by simpa using h)
 ·simp at h
theorem LQ {l:List Nd} (hs:gF l) {n:Nat} (hn:n<l.length):(bw l n).Pairwise (fun x y=>hU l x≤y)∧∀ m∈bw l n,n+1≤m∧m≤hU l m∧hU l m≤hU l n:=by
 have hwf:=hs.wf
 refine ⟨?_,fun m hm=>?_⟩
 ·refine List.Pairwise.imp_of_mem (fun {x y} hx hy hlt=>?_) (LP l n)
  obtain ⟨x1,x2,x3⟩:=oY hx
  obtain ⟨y1,y2,y3⟩:=oY hy
  have Wn:=hs.up x x1 x2
  apply Classical.byContradiction
  intro hc
  have:=(hs.below x2 y2).2 ⟨by omega,by omega⟩
  rcases (sN hwf y1 y2).1 this with h | h
  ·omega
  ·rw [y3] at h
   have:=uo _ _ h
   simp at this
   omega
 ·obtain ⟨m1,m2,m3⟩:=oY hm
  have hu:=hs.up m m1 m2
  obtain ⟨g1,g2⟩:=hs.rY m2
  refine ⟨by omega,by omega,?_⟩
  have h1:=(hs.below m2 (show hU l m - 1<l.length by omega)).2 ⟨by omega,by omega⟩
  have h2:n∈bt l m:=(sN hwf m1 m2).2 (.inr (by rw [m3];simpa using zb))
  have:=(hs.below hn (show hU l m - 1<l.length by omega)).1 (Ck h1 n h2)
  omega
theorem IB (e:Nat→Nat):∀ (ks:List Nat) (a b:Nat),ks.Pairwise (fun x y=>e x≤y)→(∀ k∈ks,a≤k∧k≤e k∧e k≤b)→(ks.map fun k=>e k - k).sum≤b - a
 | [],_,_,_,_=>by simp
 | k::ks,a,b,hp,hk=>by
   rw [List.pairwise_cons] at hp
   have:=IB e ks (e k) b hp.2 (fun x hx=>⟨hp.1 x hx,(hk x (.tail _ hx)).2⟩)
   have:=hk k (.head _)
   simp -implicitDefEqProofs only [List.map_cons,List.sum_cons]
   omega
theorem Cs {bx:Nat→Option (Fm×La)} {g:Nat→Nat}:∀ {ks:List Nat} {rs:List (Nat×Fm×La)},kg bx ks=some rs→(∀ m∈ks,∀ q,bx m=some q→q.2.L.length+1≤g m)→(bT rs).length≤(ks.map g).sum
 | [],rs,h,_=>by cases h;simp [bT]
 | m::ks,rs,h,hg=>by
   rw [kg] at h
   split at h
   ·rename_i q hq
    rw [Option.map_eq_some_iff] at h
    obtain ⟨rs',h1,rfl⟩:=h
    have:=Cs h1 (fun x hx=>hg x (.tail _ hx))
    have:=hg m (.head _) q hq
    show (nY (m,q)++bT rs').length≤_
    simp -implicitDefEqProofs only [nY,List.length_append,List.length_cons,List.map_cons,List.sum_cons]
    omega
   ·cases h
theorem FB {bx:Nat→Option (Fm×La)} {ks:List Nat} {ok ot ob:Bool} {t:La} (h:(kT bx ks ok ot ob).1=some t):∃ rs q,kg bx ks=some rs∧jr (gH rs) ot=some q∧t=qU rs q ob:=by
 unfold kT at h
 repeat' split at h
 all_goals first | (cases h;done) | (cases h;exact ⟨_,_,by assumption,by assumption,rfl⟩)
theorem KC {l:List Nd} {ins:Ed→Ao→Option La×Bool} {n w:Int} {h:Sz} {bZ:Bool} {q:Fm×La} (hq:rQ l ins n w h bZ=some q):∃ x,nr (qx l n w h bZ)=some x∧okB l n w h=true∧(ins (cn l n w h) x)=(some q.2,true)∧q.1=tP (cn l n w h) x (bw l n).length q.2:=by
 unfold rQ at hq
 split at hq
 ·rename_i hok
  rw [Option.bind_eq_some_iff] at hq
  obtain ⟨x,hx,hf⟩:=hq
  unfold oX at hf
  split at hf
  ·rename_i h2
   rw [Option.bind_eq_some_iff] at hf
   obtain ⟨t,ht,hf⟩:=hf
   split at hf
   ·cases hf;exact ⟨x,hx,hok,Prod.ext ht h2,rfl⟩
   ·cases hf
  ·cases hf
 ·cases hq
theorem tw {l:List Nd} (hs:gF l):∀ (d n:Nat) (w:Int) (h:Sz) (bZ:Bool) (q:Fm×La),n<l.length→mS l d n w h bZ=some q→q.2.L.length+1≤hU l n - n
 | 0,_,_,_,_,_,_,h=>by cases h
 | d+1,n,w,h,bZ,q,hn,hq=>by
   obtain ⟨x,_,_,hi,_⟩:=KC hq
   obtain ⟨rs,z,h1,h2,h3⟩:=FB (t:=q.2) (by rw [show kT _ _ _ _ _=yT l (mS l d) n (cn l n w h) x from rfl,hi])
   obtain ⟨p1,p2⟩:=LQ hs hn
   have hl:=Cs (g:=fun m=>hU l m - m) h1 (fun m hm r hr=>tw hs d m _ _ _ r (oY hm).2.1 hr)
   have Wm:=IB (hU l) _ (n+1) (hU l n) p1 p2
   have:=(hs.rY hn).1
   rw [h3]
   simp -implicitDefEqProofs only [qU,qo]
   omega
theorem Ih (l:List Nd) (hs:gF l) (hb:l.length≤1000):∀ (d n:Nat) (w:Int) (h:Sz) (bZ:Bool),n<l.length→l.length<n+d→aK Go.Proofs.Tryz.prog 30 [.rv (cv l),.rv (.int .i64 n),.rv (.int .i64 w),h.sv,.rv (.bool bZ)] [] [] (mT (mS l d n w h bZ))
 | 0,n,w,h,bZ,hn,hd=>by omega
 | d+1,n,w,h,bZ,hn,hd=>by
   refine Uh l (by omega) n w h bZ (yT l (mS l d) n) (fun e x hq=>FC hq) (fun x=>?_)
   refine Ur l hb n x.w (mA (cn l n w h)) (cn l n w h) (fun m=>mS l d m x.w (mA (cn l n w h)) (bN l n).bZ) (fun m hm q hq=>?_) (fun m hm=>?_)
   ·have:=tw hs d m _ _ _ q (oY hm).2.1 hq
    have:=(hs.rY (oY hm).2.1).2
    omega
   ·obtain ⟨h1,h2,h3⟩:=oY hm
    have:=hs.up m h1 h2
    exact Ih l hs hb d m _ _ _ h2 (by omega)
end Go.aL

namespace Go.aL
open Go
theorem PR:aU Go.Proofs.Tryz.prog 18 168 (fc Go.Proofs.Tryz.prog 18 168 [(.c 14 9 true),(.t 15)]) [(.c 14 9 true),(.t 15)]:=bl (by kernel_rfl)
def sV (l:List Nd) (n more:Int) (k:Nat):Bool:=decide (k≠0) && decide (bz l k=n) && (decide ((k:Int)=more) || iA l k)
def lQ (l:List Nd) (n more:Int):List Nat:=(List.range l.length).filter (sV l n more)
theorem Rl (l:List Nd) (n:Nat) (hn:n<l.length):lQ l n (-1)=bw l n:=by
 unfold lQ bw ic
 rw [if_pos (sK hn)]
 unfold ie bE
 rw [List.filter_filter]
 refine List.filter_congr fun k hk=>?_
 unfold sV
 have:((k:Int) = -1)=False:=eq_false (by omega)
 simp -implicitDefEqProofs only [this,decide_false,Bool.false_or,Int.toNat_natCast]
 rw [Bool.and_comm]
 congr 1
 rw [Bool.eq_iff_iff];simp <;> try omega
def qQ (h:Sz) (k n:Nat) (o:List Int) (c:List Ch) (L:List (Nat×Fm)):List (Option HB):=
 [some (.var (h.cells.map .rv)),some (.var xj),some (.var [.row 5 (2*k) n,.rv .cw,.rv (.int .i64 0),.rv (.int .i64 0),.rv (.int .i64 0),.rv (.int .i64 0),.rv (.int .i64 0),.rv (.bool false),.rv (.int .i64 0)]),
  some (.row 1 k (aN (aM o))),some (.row 8 k (aN (gG c))),some (.row 26 (2*k) (aN (gT L)))]
def yR (h:Sz) (rs:List (Nat×Fm×La)):List (Option HB):=qQ h rs.length (bT rs).length (je rs) (gH rs) (bT rs)
theorem Of (h:Sz) (k n:Nat) (o:List Int) (c:List Ch) (L:List (Nat×Fm)):lf (mP 6) (qQ h k n o c L):=
 ⟨jw,jw (rs:=bH none),⟨jx.2 (by decide),jw (rs:=[.cw,.int .i64 0,.int .i64 0,.int .i64 0,.int .i64 0,.int .i64 0,.bool false,.int .i64 0])⟩,iP,iP,iP,trivial⟩
theorem Sh (x:Nd):(x.cells.drop 42)[0]?=some (.bool x.s.bZ):=rfl
theorem Ir (l:List Nd) (ht:fT l=true) (hb:l.length≤1000) (n:Nat) (hn:n<l.length) (more:Int) (w:Int) (h:Sz) (ot ob:Bool) (bx:Nat→Option (Fm×La)) (hlen:∀ m∈lQ l n more,∀ q,bx m=some q→q.2.L.length≤1000)
 (hB:iL w h=true→∀ m∈lQ l n more,aK Go.Proofs.Tryz.prog 11 [.rv (.sl 49 (br l)),.rv (.int .i64 m),.rv (.int .i64 w),h.sv,.rv (.bool (bN l n).bZ)] [] [] (mT (bx m))) :
 aK Go.Proofs.Tryz.prog 18 [.rv (.sl 49 (br l)),.rv (.int .i64 n),.rv (.int .i64 more),.rv (.int .i64 w),h.sv,.rv (.bool ot),.rv (.bool ob)] [] [] (.aO [.agg ((bH (kT bx (lQ l n more) (iL w h) ot ob).1).map .rv),.rv (.bool (kT bx (lQ l n more) (iL w h) ot ob).2)]):=by
 refine bu PR [.rv (.sl 49 (br l)),.rv (.int .i64 n),.rv (.int .i64 more),.rv (.int .i64 w),h.sv,.rv (.bool ot),.rv (.bool ob)] _ (by simp) (by simp [aP,aY,bq,aW,bk,aC.sv,Ln.sv,Nd.sv]) (fun K hK=>?_)
 have hm:=CF w h
 have hl:=an l
 have Fu:=iM hn
 have jb:bN l n=(l[n]'hn).s:=by simp [bN,sK hn,hn]
 rw [jb] at hB
 unfold kT at hK
 cases hmay:iL w h with
 | false=>
   rw [hmay] at hm
   simp -implicitDefEqProofs only [hmay,Bool.false_eq_true,if_false] at hK
   conv in fc _ _ _ _=>reduce
   simp -implicitDefEqProofs only [Sz.sv,Sz.cells,go_sem,Int.reduceNegSucc] at hm ⊢
   have bf:=hm;repeat' (first | (simp -implicitDefEqProofs only [go_sem,Int.reduceNegSucc]) | (with_reducible refine aA ?_) | (with_reducible first | refine ag bf ?_ | refine ah bf ?_) | ((first | refine ai (fun hg=>?_) (fun hg=>?_) | refine ax (fun hg=>?_) (fun hg=>?_) | refine ay (fun hg=>?_) (fun hg=>?_)) <;> try simp -implicitDefEqProofs only [hg,Bool.not_true,Bool.not_false]) | ((with_reducible apply And.intro);focus (first | trivial | omega | decide | (simp -implicitDefEqProofs only [maxLen];omega) | (simp [maxLen,af,ak,an,av,aj,au,aq] <;> omega))) | fail)
   all_goals (refine (hK _ _ ?_).2;clear hK;simp -implicitDefEqProofs only [go_sem,Int.reduceNegSucc,aQ,aS,aX,bn,aI,aG,aF,bH] <;>(try simp_all [-Int.not_lt,-Int.not_le,aI,aG,aF,bA,bH]) <;> try omega)
 | true=>
   have hB:=hB hmay
   rw [hmay] at hm
   simp -implicitDefEqProofs only [hmay,if_true] at hK
   conv in fc _ _ _ _=>reduce
   simp -implicitDefEqProofs only [Sz.sv,Sz.cells,go_sem,Int.reduceNegSucc] at hm ⊢
   have y_2:=hm;repeat' (first | (simp -implicitDefEqProofs only [go_sem,Int.reduceNegSucc,hl]) | (with_reducible refine aA ?_) | (with_reducible first | refine ag y_2 ?_ | refine ah y_2 ?_) | ((first | refine ai (fun hg=>?_) (fun hg=>?_) | refine ax (fun hg=>?_) (fun hg=>?_) | refine ay (fun hg=>?_) (fun hg=>?_)) <;> try simp -implicitDefEqProofs only [hg,Bool.not_true,Bool.not_false]) | ((with_reducible apply And.intro);focus (first | trivial | omega | decide | (simp -implicitDefEqProofs only [maxLen];omega) | (simp [maxLen,af,ak,an,av,aj,au,aq] <;> omega))) | fail)
   refine fH (ι:=Nat×List (Nat×Fm×La)) (fun q=>[(35,.rv (.int .i64 q.1)),(34,.rv (.int .i64 l.length)),(16,.ptr 2 0),(18,.row 3 q.2.length q.2.length),(17,.row 4 q.2.length q.2.length),(14,.ptr 1 0),(11,.ptr 0 0),(0,.rv (.sl 49 (br l))),(1,.rv (.int .i64 n)),(2,.rv (.int .i64 more)),(3,.rv (.int .i64 w)),(5,.rv (.bool ot)),(6,.rv (.bool ob))]) (fun q=>yR h q.2)
    (fun q=>q.1≤l.length∧q.2.length≤q.1∧(bT q.2).length≤1001*q.2.length∧kg bx (lQ l n more)=(kg bx (((List.range l.length).drop q.1).filter (sV l n more))).map (q.2 ++ ·)) (fun q=>l.length - q.1) (0,[]) ⟨Nat.zero_le _,Nat.zero_le _,by simp [bT],by show kg bx (lQ l n more)=(kg bx (lQ l n more)).map _;cases hq:kg bx (lQ l n more) <;> simp [hq]⟩
    ((qG 18 1 0 rfl).trans ((qG 17 8 0 rfl).trans ((tJ 2 26 0 rfl rfl).trans (bg (by simp [lk,aR]))))) (fun q hq K' hN hX hR=>?_)
   obtain ⟨k,rs⟩:=q
   obtain ⟨fJ,hk2,tZ,gR⟩:=hq
   dsimp at fJ hk2 tZ gR ⊢
   simp -implicitDefEqProofs only [yR,qQ,Sz.cells,go_sem,Int.reduceNegSucc]
   refine ai (fun hg=>?_) (fun hg=>?_)
   ·have aE:k<l.length:=by simp at hg;omega
    have wu:=fB (k:=k) (by omega)
    have WA:=fB (k:=rs.length) (by omega)
    have hx:=iM aE
    have yM:bz l k=(l[k]'aE).parent:=(lU aE).symm
    have lM:=zK l ht k
    have vD:=CC l ht k
    have ES:(List.range l.length).drop k=k::(List.range l.length).drop (k+1):=by
     rw [List.drop_eq_getElem_cons (by simpa using aE)];simp
    rw [ES,List.filter_cons] at gR
    have hmem:sV l n more k=true→k∈lQ l n more:=fun hp=>List.mem_filter.2 ⟨List.mem_range.2 aE,hp⟩
    have hpk:sV l n more k=(decide (k≠0) && decide ((l[k]'aE).parent=n) && (decide ((k:Int)=more) || (iE l k && !jO l k))):=by rw [← yM];rfl
    have x1:=ak (l[k]'aE)
    have x2:=kJ (l[k]'aE)
    have y1:=ak (l[n]'hn)
    have y2:=Sh (l[n]'hn)
    generalize l[k]'aE=x at *
    generalize l[n]'hn=xn at *
    generalize iE l k=M at *
    generalize jO l k=O at *
    clear yM ES
    cases hp:sV l n more k with
    | false=>
      rw [hp] at gR hpk
      simp -implicitDefEqProofs only [Bool.false_eq_true,if_false] at gR
      have e4:k=0∨(k≠0∧x.parent≠n)∨(k≠0∧x.parent=n∧(k:Int)≠more∧M=false)∨(k≠0∧x.parent=n∧(k:Int)≠more∧M=true∧O=true):=by
       by_cases a:k=0
       ·exact .inl a
       by_cases b:x.parent=n
       ·by_cases c:(k:Int)=more
        ·simp [a,b,c] at hpk
        ·cases hM:M
         ·exact .inr (.inr (.inl ⟨a,b,c,rfl⟩))
         ·cases hO:O
          ·simp [a,b,c,hM,hO] at hpk
          ·exact .inr (.inr (.inr ⟨a,b,c,rfl,rfl⟩))
       ·exact .inr (.inl ⟨a,b⟩)
      have done:=hN (k+1,rs)
      rcases e4 with h0 | ⟨h0,h1⟩ | ⟨h0,h1,h2,h3⟩ | ⟨h0,h1,h2,h3,h4⟩
      ·have g0:(((k:Int)) == 0)=true:=by simp [h0]
       repeat' (first | (simp -implicitDefEqProofs only [go_sem,Int.reduceNegSucc,hl,hx,x1,x2,g0,List.length_drop,wu]) | (with_reducible refine aA ?_) | ((first | refine ai (fun hg=>?_) (fun hg=>?_) | refine ax (fun hg=>?_) (fun hg=>?_) | refine ay (fun hg=>?_) (fun hg=>?_)) <;> try simp -implicitDefEqProofs only [hg,Bool.not_true,Bool.not_false]) | ((with_reducible apply And.intro);focus (first | trivial | omega | decide | (simp -implicitDefEqProofs only [maxLen];omega) | (simp [maxLen,af,ak,an,av,aj,au,aq] <;> omega))) | fail)
       exact done _ _ ⟨aE,by dsimp;omega,tZ,gR⟩ (by dsimp;omega) (bg (by simp [lk]))
      ·have g0:(((k:Int)) == 0)=false:=by simp [h0]
       have g1:(x.parent !=(n:Int))=true:=by simp [h1]
       repeat' (first | (simp -implicitDefEqProofs only [go_sem,Int.reduceNegSucc,hl,hx,x1,x2,g0,g1,List.length_drop,wu]) | (with_reducible refine aA ?_) | ((first | refine ai (fun hg=>?_) (fun hg=>?_) | refine ax (fun hg=>?_) (fun hg=>?_) | refine ay (fun hg=>?_) (fun hg=>?_)) <;> try simp -implicitDefEqProofs only [hg,Bool.not_true,Bool.not_false]) | ((with_reducible apply And.intro);focus (first | trivial | omega | decide | (simp -implicitDefEqProofs only [maxLen];omega) | (simp [maxLen,af,ak,an,av,aj,au,aq] <;> omega))) | fail)
       exact done _ _ ⟨aE,by dsimp;omega,tZ,gR⟩ (by dsimp;omega) (bg (by simp [lk]))
      ·have g0:(((k:Int)) == 0)=false:=by simp [h0]
       have g1:(x.parent !=(n:Int))=false:=by simp [h1]
       have g2:((k:Int) != more)=true:=by simp [h2]
       rw [h3] at lM
       have bB:=lM;repeat' (first | (simp -implicitDefEqProofs only [go_sem,Int.reduceNegSucc,hl,hx,x1,x2,g0,g1,g2,List.length_drop,wu]) | (with_reducible refine aA ?_) | (with_reducible first | refine ag bB ?_ | refine ah bB ?_) | ((first | refine ai (fun hg=>?_) (fun hg=>?_) | refine ax (fun hg=>?_) (fun hg=>?_) | refine ay (fun hg=>?_) (fun hg=>?_)) <;> try simp -implicitDefEqProofs only [hg,Bool.not_true,Bool.not_false]) | ((with_reducible apply And.intro);focus (first | trivial | omega | decide | (simp -implicitDefEqProofs only [maxLen];omega) | (simp [maxLen,af,ak,an,av,aj,au,aq] <;> omega))) | fail)
       exact done _ _ ⟨aE,by dsimp;omega,tZ,gR⟩ (by dsimp;omega) (bg (by simp [lk]))
      ·have g0:(((k:Int)) == 0)=false:=by simp [h0]
       have g1:(x.parent !=(n:Int))=false:=by simp [h1]
       have g2:((k:Int) != more)=true:=by simp [h2]
       rw [h3] at lM
       rw [h4] at vD
       have bG:=lM;have bI:=vD;repeat' (first | (simp -implicitDefEqProofs only [go_sem,Int.reduceNegSucc,hl,hx,x1,x2,g0,g1,g2,List.length_drop,wu]) | (with_reducible refine aA ?_) | (with_reducible first | refine ag bG ?_ | refine ah bG ?_) | (with_reducible first | refine ag bI ?_ | refine ah bI ?_) | ((first | refine ai (fun hg=>?_) (fun hg=>?_) | refine ax (fun hg=>?_) (fun hg=>?_) | refine ay (fun hg=>?_) (fun hg=>?_)) <;> try simp -implicitDefEqProofs only [hg,Bool.not_true,Bool.not_false]) | ((with_reducible apply And.intro);focus (first | trivial | omega | decide | (simp -implicitDefEqProofs only [maxLen];omega) | (simp [maxLen,af,ak,an,av,aj,au,aq] <;> omega))) | fail)
       exact done _ _ ⟨aE,by dsimp;omega,tZ,gR⟩ (by dsimp;omega) (bg (by simp [lk]))
    | true=>
      rw [hp] at gR hpk
      simp -implicitDefEqProofs only [if_true] at gR
      rw [kg] at gR
      have kG:=hB _ (hmem hp)
      have sE:=hlen _ (hmem hp)
      have Bi:k≠0∧x.parent=n∧∃ c:Bool,((k:Int) != more)=c∧(c=true→M=true∧O=false):=by
       simp at hpk
       refine ⟨hpk.1.1,hpk.1.2,_,rfl,fun hc=>?_⟩
       have:¬ (k:Int)=more:=by simpa using hc
       simpa [this] using hpk.2
      obtain ⟨h0,h1,c,g2,Nh⟩:=Bi
      cases c
      case' true=>
       obtain ⟨hM,hO⟩:=Nh rfl
       rw [hM] at lM
       rw [hO] at vD
      all_goals
       have g0:(((k:Int)) == 0)=false:=by simp [h0]
       have g1:(x.parent !=(n:Int))=false:=by simp [h1]
       cases su:bx k with
       | none=>
         rw [su] at kG gR
         simp -implicitDefEqProofs only [Option.map] at gR
         rw [gR] at hK
         simp -implicitDefEqProofs only [mT,bR,bH,Option.map,Option.isSome,List.map_cons,List.map_nil,Sz.sv,Sz.cells] at kG
         have bK:=lM;have bL:=vD;have bO:=kG;repeat' (first | (simp -implicitDefEqProofs only [go_sem,Int.reduceNegSucc,hl,hx,Fu,x1,x2,y1,y2,g0,g1,g2,List.length_drop,wu]) | (with_reducible refine aA ?_) | (with_reducible first | refine ag bK ?_ | refine ah bK ?_) | (with_reducible first | refine ag bL ?_ | refine ah bL ?_) | (with_reducible first | refine ag bO ?_ | refine ah bO ?_) | ((first | refine ai (fun hg=>?_) (fun hg=>?_) | refine ax (fun hg=>?_) (fun hg=>?_) | refine ay (fun hg=>?_) (fun hg=>?_)) <;> try simp -implicitDefEqProofs only [hg,Bool.not_true,Bool.not_false]) | ((with_reducible apply And.intro);focus (first | trivial | omega | decide | (simp -implicitDefEqProofs only [maxLen];omega) | (simp [maxLen,af,ak,an,av,aj,au,aq] <;> omega))) | fail)
         refine hR _ _ (hK _ _ ?_).2
         simp -implicitDefEqProofs only [go_sem,Int.reduceNegSucc,aQ,aS,aX,bn,aI,aG,aF,bH]
       | some q=>
         rw [su] at kG gR
         obtain ⟨f,t⟩:=q
         have Bn:=sE _ su
         simp -implicitDefEqProofs only [Option.map_map] at gR
         have hrl:rs.length≤1000:=by omega
         have Bm:(bT rs).length≤1001000:=by omega
         have hv:2*rs.length+1+1=2*(rs.length+1):=by omega
         have ho:=GJ (rs:=rs) (r:=(k,f,t))
         have hc:=Dz (rs:=rs) (r:=(k,f,t))
         have hls:bT rs++[(k,f)]++t.L=bT (rs++[(k,f,t)]):=by rw [CY];simp [nY]
         have By:(aM (je rs)).take rs.length=aM (je rs):=List.take_of_length_le (by rw [aj,uj];omega)
         have Bz:(gG (gH rs)).take rs.length=gG (gH rs):=List.take_of_length_le (by rw [oa];simp [gH])
         have l1:(aM (je rs)).length=rs.length:=by rw [aj,uj]
         have l2:(gG (gH rs)).length=rs.length:=by rw [oa];simp [gH]
         have l3:=mE (bT rs)
         have l4:=mE t.L
         have l5:(gT (bT rs++[(k,f)])).length=(bT rs).length+1:=by rw [mE];simp
         simp only at Bn
         simp -implicitDefEqProofs only [mT,bR,bH,Option.map,Option.isSome,Pl.cells,List.map_cons,List.map_nil,List.cons_append,List.nil_append,Sz.sv,Sz.cells] at kG
         have cl:=lM;have cr:=vD;have fU:=kG;repeat' (first | (simp -implicitDefEqProofs only [go_sem,Int.reduceNegSucc,hl,hx,Fu,x1,x2,y1,y2,g0,g1,g2,List.length_drop,tN,tO,ym,yl,Ew,DC,Dg,Dh,Df,mF,IK,IL,By,Bz,l1,l2,l3,l4,l5,wu,hv]) | (with_reducible refine aA ?_) | (with_reducible first | refine ag cl ?_ | refine ah cl ?_) | (with_reducible first | refine ag cr ?_ | refine ah cr ?_) | (with_reducible first | refine ag fU ?_ | refine ah fU ?_) | ((first | refine ai (fun hg=>?_) (fun hg=>?_) | refine ax (fun hg=>?_) (fun hg=>?_) | refine ay (fun hg=>?_) (fun hg=>?_)) <;> try simp -implicitDefEqProofs only [hg,Bool.not_true,Bool.not_false]) | ((with_reducible apply And.intro);focus (first | trivial | omega | decide | (simp -implicitDefEqProofs only [maxLen];omega) | (simp [maxLen,af,ak,an,av,aj,au,aq] <;> omega) | (omega;done))) | fail)
         have hq:yR h (rs++[(k,f,t)])=qQ h (rs.length+1) ((bT rs).length+1+t.L.length) (je rs++[((bT rs).length:Int)]) (gH rs++[f.child]) (bT rs++[(k,f)]++t.L):=by
          unfold yR
          rw [ho,hc,← hls]
          simp -implicitDefEqProofs only [List.length_append,List.length_cons,List.length_nil,Nat.zero_add]
         refine hN (k+1,rs++[(k,f,t)]) _ _ ⟨by dsimp;omega,by simp;omega,by dsimp;rw [← hls];simp;omega,?_⟩ (by dsimp;omega) ?_
         ·rw [gR]
          congr 1
          funext x
          simp
         ·dsimp
          rw [hq]
          exact ny (h':=qQ h (rs.length+1) ((bT rs).length+1+t.L.length) (je rs++[((bT rs).length:Int)]) (gH rs++[f.child]) (bT rs++[(k,f)]++t.L)) (Nat.zero_le _) (Of _ _ _ _ _ _) (by simp [hJ,lk,jE,jx,lJ,qQ])
   ·have aE:k=l.length:=by simp at hg;omega
    subst aE
    simp -implicitDefEqProofs only [go_sem,Int.reduceNegSucc]
    have Fl:kg bx (lQ l n more)=some rs:=by rw [gR,List.drop_of_length_le (by simp)];simp [kg]
    rw [Fl] at hK
    clear gR Fl
    refine hX _ _ _ ?_
    clear hN hX hR
    have hcl:(gH rs).length=rs.length:=by simp [gH]
    have hrl:rs.length≤1000:=by omega
    have hS:=US (gH rs) ot (by omega) 4 rs.length 6 (by decide)
    rw [hcl] at hS
    cases ow:jr (gH rs) ot with
    | none=>
      rw [ow] at hS
      simp -implicitDefEqProofs only [ow] at hK
      have hv:=CD ⟨0,0⟩
      simp -implicitDefEqProofs only [lW,kK,Option.isSome,Su.sv,Su.cells,List.map_cons,List.map_nil] at hS hv
      have gx:=hS;have gO:=hv;repeat' (first | (simp -implicitDefEqProofs only [go_sem,Int.reduceNegSucc]) | (with_reducible refine aA ?_) | (refine bQ gx ?_ ?_ ?_;(focus (simp [aT,aB] <;> fail));(focus (simp [aZ,aR] <;> fail))) | (refine bV gx ?_ ?_ ?_;(focus (simp [aT,aB] <;> fail));(focus (simp [aZ,aR] <;> fail))) | (with_reducible first | refine ag gO ?_ | refine ah gO ?_) | ((first | refine ai (fun hg=>?_) (fun hg=>?_) | refine ax (fun hg=>?_) (fun hg=>?_) | refine ay (fun hg=>?_) (fun hg=>?_)) <;> try simp -implicitDefEqProofs only [hg,Bool.not_true,Bool.not_false]) | ((with_reducible apply And.intro);focus (first | trivial | omega | decide | (simp -implicitDefEqProofs only [maxLen];omega) | (simp [maxLen,af,ak,an,av,aj,au,aq] <;> omega))) | fail)
      all_goals (refine (hK _ _ ?_).2;clear hK;simp -implicitDefEqProofs only [go_sem,Int.reduceNegSucc,aQ,aS,aX,bn,aI,aG,aF,bH] <;>(try simp_all [-Int.not_lt,-Int.not_le,aI,aG,aF,bA,bH]) <;> try omega)
    | some q=>
      obtain ⟨p,ys⟩:=q
      rw [ow] at hS
      simp -implicitDefEqProofs only [ow] at hK
      have mC:=zL ow
      simp -implicitDefEqProofs only [List.length_nil,Nat.zero_add,hcl] at mC
      have hv:=CD p.cur
      simp -implicitDefEqProofs only [lW,kK,lG,Option.isSome,Pl.cells,Su.sv,Su.cells,List.map_cons,List.map_nil] at hS hv
      cases qh:nS p.cur with
      | false=>
        rw [qh] at hv
        simp -implicitDefEqProofs only [qh,Bool.false_eq_true,if_false] at hK
        have gP:=hS;have gQ:=hv;repeat' (first | (simp -implicitDefEqProofs only [go_sem,Int.reduceNegSucc]) | (with_reducible refine aA ?_) | (refine bQ gP ?_ ?_ ?_;(focus (simp [aT,aB] <;> fail));(focus (simp [aZ,aR] <;> fail))) | (refine bV gP ?_ ?_ ?_;(focus (simp [aT,aB] <;> fail));(focus (simp [aZ,aR] <;> fail))) | (with_reducible first | refine ag gQ ?_ | refine ah gQ ?_) | ((first | refine ai (fun hg=>?_) (fun hg=>?_) | refine ax (fun hg=>?_) (fun hg=>?_) | refine ay (fun hg=>?_) (fun hg=>?_)) <;> try simp -implicitDefEqProofs only [hg,Bool.not_true,Bool.not_false]) | ((with_reducible apply And.intro);focus (first | trivial | omega | decide | (simp -implicitDefEqProofs only [maxLen];omega) | (simp [maxLen,af,ak,an,av,aj,au,aq] <;> omega))) | fail)
        all_goals (refine (hK _ _ ?_).2;clear hK;simp -implicitDefEqProofs only [go_sem,Int.reduceNegSucc,aQ,aS,aX,bn,aI,aG,aF,bH] <;>(try simp_all [-Int.not_lt,-Int.not_le,aI,aG,aF,bA,bH]) <;> try omega)
      | true=>
        rw [qh] at hv
        simp -implicitDefEqProofs only [qh,if_true] at hK
        have ir:=hS;have iu:=hv;repeat' (first | (simp -implicitDefEqProofs only [go_sem,Int.reduceNegSucc]) | (with_reducible refine aA ?_) | (refine bQ ir ?_ ?_ ?_;(focus (simp [aT,aB] <;> fail));(focus (simp [aZ,aR] <;> fail))) | (refine bV ir ?_ ?_ ?_;(focus (simp [aT,aB] <;> fail));(focus (simp [aZ,aR] <;> fail))) | (with_reducible first | refine ag iu ?_ | refine ah iu ?_) | ((first | refine ai (fun hg=>?_) (fun hg=>?_) | refine ax (fun hg=>?_) (fun hg=>?_) | refine ay (fun hg=>?_) (fun hg=>?_)) <;> try simp -implicitDefEqProofs only [hg,Bool.not_true,Bool.not_false]) | ((with_reducible apply And.intro);focus (first | trivial | omega | decide | (simp -implicitDefEqProofs only [maxLen];omega) | (simp [maxLen,af,ak,an,av,aj,au,aq] <;> omega))) | fail)
        have BD:=aj ys
        have qg:=zx rs
        refine fH (ι:=Nat) (fun i=>[(127,.rv (.int .i64 i)),(126,.rv (.int .i64 rs.length)),(18,.row 3 rs.length rs.length),(16,.ptr 2 0),(23,.ptr 7 0),(25,.rv (.int .i64 (iN p.cur))),(14,.ptr 1 0),(11,.ptr 0 0),(6,.rv (.bool ob))])
         (fun i=>qQ h rs.length (bT rs).length (je rs) (gH rs) (jf rs (ys.take i))++[some (.row 1 ys.length (aN (aM ys))),some (.var [.row 6 ys.length ys.length,.rv (.int .i64 p.iB),.rv (.int .i64 p.top.p),.rv (.int .i64 p.top.n),.rv (.int .i64 p.cur.p),.rv (.int .i64 p.cur.n),.rv (.bool p.me)])])
         (fun i=>i≤rs.length) (fun i=>rs.length - i) 0 (Nat.zero_le _) (by rw [List.take_zero,qg];exact bg (by simp [lk])) (fun i hi K' hN hX hR=>?_)
        simp -implicitDefEqProofs only [qQ,Sz.cells,go_sem,Int.reduceNegSucc]
        refine ai (fun hg=>?_) (fun hg=>?_)
        ·have hi4:i<rs.length:=by simp at hg;omega
         have wu:=fB (k:=i) (by omega)
         have ho:=GI hi4
         have Bq:=uj (rs:=rs)
         have hy:=pK (show i<ys.length by omega)
         have iR:=He hi4 (show i<ys.length by omega)
         have jb:=Hf hi4 (show i<ys.length by omega)
         have hlt:(bT (rs.take i)).length<(bT rs).length:=by
          have:=(wF rs ys i hi4 (by omega)).1
          have:=(List.getElem?_eq_some_iff.1 this).1
          rwa [qo] at this
         have gd:(gT (jf rs (ys.take i))).length=(bT rs).length:=by rw [mE,qo]
         have fG:=aj (je rs)
         have CJ:=IC (rs[i].1,rs[i].2.1) ys[i]
         have vE:=GZ (rs[i].1,rs[i].2.1)
         repeat' (first | (simp -implicitDefEqProofs only [go_sem,Int.reduceNegSucc,ho,hy,iR,jb,gd,fG,Bq,CJ,vE,wu,BD]) | (with_reducible refine aA ?_) | ((first | refine ai (fun hg=>?_) (fun hg=>?_) | refine ax (fun hg=>?_) (fun hg=>?_) | refine ay (fun hg=>?_) (fun hg=>?_)) <;> try simp -implicitDefEqProofs only [hg,Bool.not_true,Bool.not_false]) | ((with_reducible apply And.intro);focus (first | trivial | omega | decide | (simp -implicitDefEqProofs only [maxLen];omega) | (simp [maxLen,af,ak,an,av,aj,au,aq] <;> omega) | (omega;done))) | fail)
         exact hN (i+1) _ _ (by omega) (by omega) (bg (by simp [lk]))
        ·have hi4:i=rs.length:=by simp at hg;omega
         have jc:ys.take i=ys:=List.take_of_length_le (by omega)
         rw [jc]
         clear jc hg
         simp -implicitDefEqProofs only [go_sem,Int.reduceNegSucc]
         refine hX _ _ _ ?_
         clear hN hX hR
         have hfit:=jP (qU rs (p,ys) ob).high
         have gd:(gT (jf rs ys)).length=(bT rs).length:=by rw [mE,qo]
         simp -implicitDefEqProofs only [qU] at hfit hK
         have LV:decide ((0:Int)<0)=false:=rfl
         cases iR:p.me with
         | true=>
           simp -implicitDefEqProofs only [iR,if_true] at hfit hK
           have iw:=hfit;repeat' (first | (simp -implicitDefEqProofs only [go_sem,Int.reduceNegSucc,iR,LV]) | (with_reducible refine aA ?_) | (with_reducible first | refine ag iw ?_ | refine ah iw ?_) | ((first | refine ai (fun hg=>?_) (fun hg=>?_) | refine ax (fun hg=>?_) (fun hg=>?_) | refine ay (fun hg=>?_) (fun hg=>?_)) <;> try simp -implicitDefEqProofs only [hg,Bool.not_true,Bool.not_false]) | ((with_reducible apply And.intro);focus (first | trivial | omega | decide | (simp -implicitDefEqProofs only [maxLen];omega) | (simp [maxLen,af,ak,an,av,aj,au,aq] <;> omega))) | fail)
           all_goals (refine (hK _ _ ?_).2;simp -implicitDefEqProofs only [go_sem,Int.reduceNegSucc,aQ,aS,aX,bn,aI,aG,aF,bH,Pl.cells,iR])
           all_goals (refine ⟨pN rfl rfl (by rw [gd]) (zo _),pN rfl rfl (by rw [aj]) (kI _)⟩)
         | false=>
           cases mZ:ob <;> simp -implicitDefEqProofs only [iR,mZ,Bool.false_eq_true,if_true,if_false] at hfit hK
           case' false=>obtain ⟨A,hA⟩:∃ A,A=IntKind.i64.wrap (p.iB+iN p.cur):=⟨_,rfl⟩
           case' true=>obtain ⟨A,hA⟩:∃ A,A=p.iB:=⟨_,rfl⟩
           all_goals
            rw [← hA] at hfit hK
            by_cases hneg:0>A
            ·have g1:decide (A<0)=true:=decide_eq_true hneg
             rw [if_pos hneg] at hfit hK
             rw [hA] at g1
             have jh:=hfit;repeat' (first | (simp -implicitDefEqProofs only [go_sem,Int.reduceNegSucc,iR,mZ,g1]) | (with_reducible refine aA ?_) | (with_reducible first | refine ag jh ?_ | refine ah jh ?_) | ((first | refine ai (fun hg=>?_) (fun hg=>?_) | refine ax (fun hg=>?_) (fun hg=>?_) | refine ay (fun hg=>?_) (fun hg=>?_)) <;> try simp -implicitDefEqProofs only [hg,Bool.not_true,Bool.not_false]) | ((with_reducible apply And.intro);focus (first | trivial | omega | decide | (simp -implicitDefEqProofs only [maxLen];omega) | (simp [maxLen,af,ak,an,av,aj,au,aq] <;> omega))) | fail)
             all_goals (refine (hK _ _ ?_).2;simp -implicitDefEqProofs only [go_sem,Int.reduceNegSucc,aQ,aS,aX,bn,aI,aG,aF,bH,Pl.cells,iR])
             all_goals (refine ⟨pN rfl rfl (by rw [gd]) (zo _),pN rfl rfl (by rw [aj]) (kI _)⟩)
            ·have g1:decide (A<0)=false:=decide_eq_false hneg
             rw [if_neg hneg] at hfit hK
             rw [hA] at g1 hfit hK
             have ji:=hfit;repeat' (first | (simp -implicitDefEqProofs only [go_sem,Int.reduceNegSucc,iR,mZ,g1]) | (with_reducible refine aA ?_) | (with_reducible first | refine ag ji ?_ | refine ah ji ?_) | ((first | refine ai (fun hg=>?_) (fun hg=>?_) | refine ax (fun hg=>?_) (fun hg=>?_) | refine ay (fun hg=>?_) (fun hg=>?_)) <;> try simp -implicitDefEqProofs only [hg,Bool.not_true,Bool.not_false]) | ((with_reducible apply And.intro);focus (first | trivial | omega | decide | (simp -implicitDefEqProofs only [maxLen];omega) | (simp [maxLen,af,ak,an,av,aj,au,aq] <;> omega))) | fail)
             all_goals (refine (hK _ _ ?_).2;simp -implicitDefEqProofs only [go_sem,Int.reduceNegSucc,aQ,aS,aX,bn,aI,aG,aF,bH,Pl.cells,iR])
             all_goals (refine ⟨pN rfl rfl (by rw [gd]) (zo _),pN rfl rfl (by rw [aj]) (kI _)⟩)
end Go.aL

namespace Go.aL
open Go
theorem PM:aU Go.Proofs.Tryz.prog 71 132 (fc Go.Proofs.Tryz.prog 71 132 [(.c 4 3 true),(.t 5)]) [(.c 4 3 true),(.t 5)]:=bl (by kernel_rfl)
theorem PN:aU Go.Proofs.Tryz.prog 37 78 (fc Go.Proofs.Tryz.prog 37 78 [(.c 2 3 true),(.t 3)]) [(.c 2 3 true),(.t 3)]:=bl (by kernel_rfl)
def sk (i:Ai) (s:Sz):Ao:=if bP (iX i s).w=true then iX i s else ⟨0,0,0⟩
theorem CE (i:Ai) (s:Sz) (hf:Fit i):aK Go.Proofs.Tryz.prog 71 [i.sv,s.sv] [] [] (.aO [.agg ((sk i s).cells.map .rv),.rv (.bool (mR i s))]):=by
 refine bu PM [i.sv,s.sv] _ (by simp) (by simp [aP,aY,bq,aW,bk,aC.sv,Ln.sv,Nd.sv]) (fun K hK=>?_)
 have o1:=oM i.left 0
 have o2:=oM i.right 0
 have o3:=oM ⟨false,bh i.left 0⟩ 0
 have o4:=oM ⟨false,bh i.right 0⟩ 0
 have q1:=iZ.1 hf.b
 have q2:=iZ.1 hf.a
 have q3:=iZ.1 hf.l
 have q4:=iZ.1 hf.r
 have n1:i.left.auto=false→i.left.n=bh i.left 0:=fun h=>(Cg h 0).symm
 have n2:i.right.auto=false→i.right.n=bh i.right 0:=fun h=>(Cg h 0).symm
 have e3:bh ⟨false,bh i.left 0⟩ 0=bh i.left 0:=rfl
 have e4:bh ⟨false,bh i.right 0⟩ 0=bh i.right 0:=rfl
 rw [e3] at o3
 rw [e4] at o4
 have fl:=hf.l
 have fr:=hf.r
 simp -implicitDefEqProofs only [sk,mR,iX] at hK
 obtain ⟨sa,W⟩:=s
 dsimp at hK
 cases hs:sa with
 | true=>
   simp -implicitDefEqProofs only [hs,if_true] at hK
   generalize bh i.left 0=L at *
   generalize bh i.right 0=R at *
   have w1:IntKind.i64.wrap (i.base - i.around)=i.base - i.around:=wrap_i64 (by omega) (by omega)
   have w2:IntKind.i64.wrap (i.base - i.around - L)=i.base - i.around - L:=wrap_i64 (by omega) (by omega)
   have w3:IntKind.i64.wrap (i.base - i.around - L - R)=i.base - i.around - L - R:=wrap_i64 (by omega) (by omega)
   have f1:=jP (i.base - i.around - L - R)
   rw [fl,fr] at hK
   simp -implicitDefEqProofs only [Bool.true_and,Bool.and_true] at hK
   conv in fc _ _ _ _=>reduce
   simp -implicitDefEqProofs only [Ai.sv,Ai.cells,Sz.sv,Sz.cells,go_sem,Int.reduceNegSucc]
   simp -implicitDefEqProofs only [Ai.cells,Ao.cells,Sz.sv,Sz.cells,List.map_cons,List.map_nil] at o1 o2 o3 o4 hK
   cases sC:bP (i.base - i.around - L - R) with
   | false=>
     rw [sC] at f1 hK
     simp -implicitDefEqProofs only [Bool.false_eq_true,if_false] at hK
     have bf:=o1;have y_2:=o2;have bB:=o3;have bG:=o4;have bI:=f1;repeat' (first | (simp -implicitDefEqProofs only [go_sem,Int.reduceNegSucc,w1,w2,w3,hs]) | (with_reducible refine aA ?_) | (with_reducible first | refine ag bf ?_ | refine ah bf ?_) | (with_reducible first | refine ag y_2 ?_ | refine ah y_2 ?_) | (with_reducible first | refine ag bB ?_ | refine ah bB ?_) | (with_reducible first | refine ag bG ?_ | refine ah bG ?_) | (with_reducible first | refine ag bI ?_ | refine ah bI ?_) | ((first | refine ai (fun hg=>?_) (fun hg=>?_) | refine ax (fun hg=>?_) (fun hg=>?_) | refine ay (fun hg=>?_) (fun hg=>?_)) <;> try simp -implicitDefEqProofs only [hg,Bool.not_true,Bool.not_false]) | ((with_reducible apply And.intro);focus (first | trivial | omega | decide | (simp -implicitDefEqProofs only [maxLen];omega) | (simp [maxLen,af,ak,an,av,aj,au,aq] <;> omega))) | fail)
     all_goals (refine (hK _ _ ?_).2;clear hK;simp -implicitDefEqProofs only [go_sem,Int.reduceNegSucc,aQ,aS,aX,bn,aI,aG,aF] <;>(try simp_all [-Int.not_lt,-Int.not_le,aI,aG,aF,bA]) <;> try omega)
   | true=>
     rw [sC] at f1 hK
     simp -implicitDefEqProofs only [if_true] at hK
     obtain ⟨W,hW⟩:∃ W',W'=i.base - i.around - L - R:=⟨_,rfl⟩
     have q5:=iZ.1 sC
     have w4:IntKind.i64.wrap (L+i.around)=L+i.around:=wrap_i64 (by omega) (by omega)
     have w5:IntKind.i64.wrap (L+i.around+W)=L+i.around+W:=wrap_i64 (by omega) (by omega)
     have w6:IntKind.i64.wrap (L+i.around+W+R)=i.base:=by rw [wrap_i64 (by omega) (by omega)];omega
     have w7:IntKind.i64.wrap (i.base - i.around - W)=i.base - i.around - W:=wrap_i64 (by omega) (by omega)
     have w8:IntKind.i64.wrap (i.base - i.around - W - R)=L:=by rw [wrap_i64 (by omega) (by omega)];omega
     have w9:IntKind.i64.wrap (i.base - i.around - W - L)=R:=by rw [wrap_i64 (by omega) (by omega)];omega
     have g1:decide (i.base>i.base)=false:=decide_eq_false (by omega)
     have f2:=jP L
     have f3:=jP R
     rw [fl] at f2
     rw [fr] at f3
     replace w3:=w3.trans hW.symm
     rw [← hW] at f1 hK
     clear hW
     cases hr:i.bZ
     all_goals ((have bK:=o1;have bL:=o2;have bO:=o3;have cl:=o4;have cr:=f1;have fU:=f2;have gx:=f3;repeat' (first | (simp -implicitDefEqProofs only [go_sem,Int.reduceNegSucc,w1,w2,w3,hs,w4,w5,w6,w7,w8,w9,g1,hr]) | (with_reducible refine aA ?_) | (with_reducible first | refine ag bK ?_ | refine ah bK ?_) | (with_reducible first | refine ag bL ?_ | refine ah bL ?_) | (with_reducible first | refine ag bO ?_ | refine ah bO ?_) | (with_reducible first | refine ag cl ?_ | refine ah cl ?_) | (with_reducible first | refine ag cr ?_ | refine ah cr ?_) | (with_reducible first | refine ag fU ?_ | refine ah fU ?_) | (with_reducible first | refine ag gx ?_ | refine ah gx ?_) | ((first | refine ai (fun hg=>?_) (fun hg=>?_) | refine ax (fun hg=>?_) (fun hg=>?_) | refine ay (fun hg=>?_) (fun hg=>?_)) <;> try simp -implicitDefEqProofs only [hg,Bool.not_true,Bool.not_false]) | ((with_reducible apply And.intro);focus (first | trivial | omega | decide | (simp -implicitDefEqProofs only [maxLen];omega) | (simp [maxLen,af,ak,an,av,aj,au,aq] <;> omega))) | fail)))
     all_goals all_goals (refine (hK _ _ ?_).2;clear hK;simp -implicitDefEqProofs only [go_sem,Int.reduceNegSucc,aQ,aS,aX,bn,aI,aG,aF] <;>(try simp_all [-Int.not_lt,-Int.not_le,aI,aG,aF,bA]) <;> try omega)
 | false=>
   simp -implicitDefEqProofs only [hs,Bool.false_eq_true,if_false] at hK
   simp -implicitDefEqProofs only [uf] at hK
   generalize bh i.left 0=L at *
   generalize bh i.right 0=R at *
   have f1:=jP W
   conv in fc _ _ _ _=>reduce
   simp -implicitDefEqProofs only [Ai.sv,Ai.cells,Sz.sv,Sz.cells,go_sem,Int.reduceNegSucc]
   simp -implicitDefEqProofs only [Ai.cells,Ao.cells,Sz.sv,Sz.cells,List.map_cons,List.map_nil] at o1 o2 o3 o4 hK
   cases sC:bP W with
   | false=>
     rw [sC] at f1 hK
     simp -implicitDefEqProofs only [Bool.false_eq_true,if_false,Bool.and_false,Bool.false_and] at hK
     have gO:=o1;have gP:=o2;have gQ:=o3;have ir:=o4;have iu:=f1;repeat' (first | (simp -implicitDefEqProofs only [go_sem,Int.reduceNegSucc,hs]) | (with_reducible refine aA ?_) | (with_reducible first | refine ag gO ?_ | refine ah gO ?_) | (with_reducible first | refine ag gP ?_ | refine ah gP ?_) | (with_reducible first | refine ag gQ ?_ | refine ah gQ ?_) | (with_reducible first | refine ag ir ?_ | refine ah ir ?_) | (with_reducible first | refine ag iu ?_ | refine ah iu ?_) | ((first | refine ai (fun hg=>?_) (fun hg=>?_) | refine ax (fun hg=>?_) (fun hg=>?_) | refine ay (fun hg=>?_) (fun hg=>?_)) <;> try simp -implicitDefEqProofs only [hg,Bool.not_true,Bool.not_false]) | ((with_reducible apply And.intro);focus (first | trivial | omega | decide | (simp -implicitDefEqProofs only [maxLen];omega) | (simp [maxLen,af,ak,an,av,aj,au,aq] <;> omega))) | fail)
     all_goals (refine (hK _ _ ?_).2;clear hK;simp -implicitDefEqProofs only [go_sem,Int.reduceNegSucc,aQ,aS,aX,bn,aI,aG,aF] <;>(try simp_all [-Int.not_lt,-Int.not_le,aI,aG,aF,bA]) <;> try omega)
   | true=>
     rw [sC] at f1 hK
     simp -implicitDefEqProofs only [if_true,Bool.and_true] at hK
     have q5:=iZ.1 sC
     have w1:IntKind.i64.wrap (i.base - i.around)=i.base - i.around:=wrap_i64 (by omega) (by omega)
     have w4:IntKind.i64.wrap (L+i.around)=L+i.around:=wrap_i64 (by omega) (by omega)
     have w5:IntKind.i64.wrap (L+i.around+W)=L+i.around+W:=wrap_i64 (by omega) (by omega)
     have w6:IntKind.i64.wrap (L+i.around+W+R)=L+i.around+W+R:=by rw [wrap_i64 (by omega) (by omega)]
     have w7:IntKind.i64.wrap (i.base - i.around - W)=i.base - i.around - W:=wrap_i64 (by omega) (by omega)
     have w8:IntKind.i64.wrap (i.base - i.around - W - R)=i.base - i.around - W - R:=wrap_i64 (by omega) (by omega)
     have w9:IntKind.i64.wrap (i.base - i.around - W - L)=i.base - i.around - W - L:=wrap_i64 (by omega) (by omega)
     have h5:=UC (i.base - i.around - W) (by omega) (by omega)
     have VG:IntKind.i64.wrap (i.base - i.around - W - (i.base - i.around - W) / 2)=i.base - i.around - W - (i.base - i.around - W) / 2:=wrap_i64 (by omega) (by omega)
     have yK:(i.base - i.around - W - L - R<0)↔(L+i.around+W+R>i.base):=by omega
     simp -implicitDefEqProofs only [yK] at hK
     have f2:=jP (L)
     have f3:=jP (R)
     have f4:=jP ((i.base - i.around - W) / 2)
     have f5:=jP (i.base - i.around - W - (i.base - i.around - W) / 2)
     have f6:=jP (i.base - i.around - W - R)
     have f7:=jP (i.base - i.around - W - L)
     cases hl:i.left.auto <;> cases hr:i.right.auto <;> cases ht:i.bZ <;> simp -implicitDefEqProofs only [hl,hr,ht,true_implies,Bool.false_eq_true,reduceCtorEq,false_implies] at o1 o2 n1 n2 hK ⊢ <;> by_cases EV:L+i.around+W+R>i.base <;> simp -implicitDefEqProofs only [EV,decide_true,decide_false,not_true_eq_false,not_false_eq_true,false_and,true_and,and_true,and_self,false_or,true_or,or_false,or_true,if_true,if_false,and_false] at hK ⊢
     all_goals (try rw [n1] at o1)
     all_goals (try rw [n2] at o2)
     all_goals ((have iw:=o1;have jh:=o2;have ji:=o3;have jQ:=o4;have mL:=f1;have mM:=h5;have oO:=f2;have rD:=f3;have rE:=f4;have rF:=f5;have rG:=f6;have rH:=f7;repeat' (first | (simp -implicitDefEqProofs only [go_sem,Int.reduceNegSucc,hs,w1,w4,w5,w6,w7,w8,w9,VG,EV,decide_true,decide_false,n1,n2]) | (with_reducible refine aA ?_) | (with_reducible first | refine ag iw ?_ | refine ah iw ?_) | (with_reducible first | refine ag jh ?_ | refine ah jh ?_) | (with_reducible first | refine ag ji ?_ | refine ah ji ?_) | (with_reducible first | refine ag jQ ?_ | refine ah jQ ?_) | (with_reducible first | refine ag mL ?_ | refine ah mL ?_) | (with_reducible first | refine ag mM ?_ | refine ah mM ?_) | (with_reducible first | refine ag oO ?_ | refine ah oO ?_) | (with_reducible first | refine ag rD ?_ | refine ah rD ?_) | (with_reducible first | refine ag rE ?_ | refine ah rE ?_) | (with_reducible first | refine ag rF ?_ | refine ah rF ?_) | (with_reducible first | refine ag rG ?_ | refine ah rG ?_) | (with_reducible first | refine ag rH ?_ | refine ah rH ?_) | ((first | refine ai (fun hg=>?_) (fun hg=>?_) | refine ax (fun hg=>?_) (fun hg=>?_) | refine ay (fun hg=>?_) (fun hg=>?_)) <;> try simp -implicitDefEqProofs only [hg,Bool.not_true,Bool.not_false]) | ((with_reducible apply And.intro);focus (first | trivial | omega | decide | (simp -implicitDefEqProofs only [maxLen];omega) | (simp [maxLen,af,ak,an,av,aj,au,aq] <;> omega))) | fail)))
     all_goals all_goals (refine (hK _ _ ?_).2;clear hK;simp -implicitDefEqProofs only [go_sem,Int.reduceNegSucc,aQ,aS,aX,bn,aI,aG,aF] <;>(try simp_all [-Int.not_lt,-Int.not_le,aI,aG,aF,bA]) <;> try omega)
end Go.aL

namespace Go.aL
open Go
theorem AM {i:Ai} {s:Sz} (h:mR i s=true):sk i s=iX i s:=by
 simp -implicitDefEqProofs only [mR,Bool.and_eq_true] at h
 simp [sk,h.1.2]
theorem UU (i:Ai):aK Go.Proofs.Tryz.prog 37 [i.sv] [] [] (.aO [.agg ((iq (nr i)).cells.map .rv),.rv (.bool (nr i).isSome)]):=by
 refine bu PN [i.sv] _ (by simp) (by simp [aP,aY,bq,aW,bk,aC.sv,Ln.sv,Nd.sv]) (fun K hK=>?_)
 have o1:=oM i.left 0
 have o2:=oM i.wide 0
 have o3:=oM i.right 0
 have f1:=jP i.base
 have f2:=jP i.around
 have f3:=jP (bh i.left 0)
 have f4:=jP (bh i.wide 0)
 have f5:=jP (bh i.right 0)
 cases h5:sj i with
 | true=>
   obtain ⟨hF,hw⟩:=Eo h5
   have a0:=CE i i.wide hF
   have a1:=CE i ⟨false,i.most⟩ hF
   have a2:=CE i ⟨false,i.least⟩ hF
   rw [hF.b] at f1
   rw [hF.a] at f2
   rw [hF.l] at f3
   rw [hw] at f4
   rw [hF.r] at f5
   simp -implicitDefEqProofs only [nr,h5,if_true,uL,rB] at hK
   simp -implicitDefEqProofs only [Ao.cells,Ai.sv,Ai.cells,Sz.sv,Sz.cells,List.map_cons,List.map_nil] at a0 a1 a2 o1 o2 o3
   conv in fc _ _ _ _=>reduce
   simp -implicitDefEqProofs only [Ai.sv,Ai.cells,Sz.sv,Sz.cells,go_sem,Int.reduceNegSucc]
   have bf:=o1;have y_2:=o2;have bB:=o3;repeat' (first | (simp -implicitDefEqProofs only [go_sem,Int.reduceNegSucc]) | (with_reducible refine aA ?_) | (with_reducible first | refine ag bf ?_ | refine ah bf ?_) | (with_reducible first | refine ag y_2 ?_ | refine ah y_2 ?_) | (with_reducible first | refine ag bB ?_ | refine ah bB ?_) | ((first | refine ai (fun hg=>?_) (fun hg=>?_) | refine ax (fun hg=>?_) (fun hg=>?_) | refine ay (fun hg=>?_) (fun hg=>?_)) <;> try simp -implicitDefEqProofs only [hg,Bool.not_true,Bool.not_false]) | ((with_reducible apply And.intro);focus (first | trivial | omega | decide | (simp -implicitDefEqProofs only [maxLen];omega) | (simp [maxLen,af,ak,an,av,aj,au,aq] <;> omega))) | fail)
   refine jX 6 ?_
   have bG:=f1;have bI:=f2;have bK:=f3;have bL:=f4;have bO:=f5;repeat' (first | (simp -implicitDefEqProofs only [go_sem,Int.reduceNegSucc,kj,kk,ko,kr,ku,kz,jT,Int.reduceLT,decide_true,decide_false,Int.reduceToNat,Nat.reduceMul]) | (with_reducible refine aA ?_) | (with_reducible show G _ _ (It.l _ _::_) _ _ _;refine jW ?_) | (with_reducible first | refine ag bG ?_ | refine ah bG ?_) | (with_reducible first | refine ag bI ?_ | refine ah bI ?_) | (with_reducible first | refine ag bK ?_ | refine ah bK ?_) | (with_reducible first | refine ag bL ?_ | refine ah bL ?_) | (with_reducible first | refine ag bO ?_ | refine ah bO ?_) | ((first | refine ai (fun hg=>?_) (fun hg=>?_) | refine ax (fun hg=>?_) (fun hg=>?_) | refine ay (fun hg=>?_) (fun hg=>?_)) <;> try simp -implicitDefEqProofs only [hg,Bool.not_true,Bool.not_false]) | ((with_reducible apply And.intro);focus (first | trivial | omega | decide | (simp -implicitDefEqProofs only [maxLen];omega) | (simp [maxLen,af,ak,an,av,aj,au,aq] <;> omega))) | fail)
   have i0:=@AM i i.wide
   have i1:=@AM i ⟨false,i.most⟩
   have i2:=@AM i ⟨false,i.least⟩
   generalize sk i i.wide=V0 at *
   generalize sk i ⟨false,i.most⟩=V1 at *
   generalize sk i ⟨false,i.least⟩=V2 at *
   cases k0:mR i i.wide with
   | false=>
     rw [k0] at a0
     simp -implicitDefEqProofs only [k0,Bool.false_eq_true,if_false] at hK
     have cl:=a0;have cr:=a1;have fU:=a2;repeat' (first | (simp -implicitDefEqProofs only [go_sem,Int.reduceNegSucc]) | (with_reducible refine aA ?_) | (with_reducible first | refine ag cl ?_ | refine ah cl ?_) | (with_reducible first | refine ag cr ?_ | refine ah cr ?_) | (with_reducible first | refine ag fU ?_ | refine ah fU ?_) | ((first | refine ai (fun hg=>?_) (fun hg=>?_) | refine ax (fun hg=>?_) (fun hg=>?_) | refine ay (fun hg=>?_) (fun hg=>?_)) <;> try simp -implicitDefEqProofs only [hg,Bool.not_true,Bool.not_false]) | ((with_reducible apply And.intro);focus (first | trivial | omega | decide | (simp -implicitDefEqProofs only [maxLen];omega) | (simp [maxLen,af,ak,an,av,aj,au,aq] <;> omega))) | fail)
     all_goals (refine (hK _ _ ?_).2;clear hK;simp -implicitDefEqProofs only [go_sem,Int.reduceNegSucc,aQ,aS,aX,bn,aI,aG,aF,Ao.cells,iq] <;>(try simp_all [-Int.not_lt,-Int.not_le,aI,aG,aF,bA,Ao.cells,iq]) <;> try omega)
   | true=>
     rw [k0] at a0
     have j0:=i0 k0
     simp -implicitDefEqProofs only [k0,if_true,Option.bind,← j0] at hK
     by_cases m0:V0.w>i.most
     ·have g0:decide (V0.w>i.most)=true:=decide_eq_true m0
      simp -implicitDefEqProofs only [g0,if_true] at hK
      cases k1:mR i ⟨false,i.most⟩ with
      | false=>
        rw [k1] at a1
        simp -implicitDefEqProofs only [k1,Bool.false_eq_true,if_false] at hK
        have gx:=a0;have gO:=a1;have gP:=a2;repeat' (first | (simp -implicitDefEqProofs only [go_sem,Int.reduceNegSucc,g0]) | (with_reducible refine aA ?_) | (with_reducible first | refine ag gx ?_ | refine ah gx ?_) | (with_reducible first | refine ag gO ?_ | refine ah gO ?_) | (with_reducible first | refine ag gP ?_ | refine ah gP ?_) | ((first | refine ai (fun hg=>?_) (fun hg=>?_) | refine ax (fun hg=>?_) (fun hg=>?_) | refine ay (fun hg=>?_) (fun hg=>?_)) <;> try simp -implicitDefEqProofs only [hg,Bool.not_true,Bool.not_false]) | ((with_reducible apply And.intro);focus (first | trivial | omega | decide | (simp -implicitDefEqProofs only [maxLen];omega) | (simp [maxLen,af,ak,an,av,aj,au,aq] <;> omega))) | fail)
        all_goals (refine (hK _ _ ?_).2;clear hK;simp -implicitDefEqProofs only [go_sem,Int.reduceNegSucc,aQ,aS,aX,bn,aI,aG,aF,Ao.cells,iq] <;>(try simp_all [-Int.not_lt,-Int.not_le,aI,aG,aF,bA,Ao.cells,iq]) <;> try omega)
      | true=>
        rw [k1] at a1
        have j1:=i1 k1
        simp -implicitDefEqProofs only [k1,if_true,Option.bind,← j1] at hK
        by_cases m1:V1.w<i.least
        ·have g1:decide (V1.w<i.least)=true:=decide_eq_true m1
         simp -implicitDefEqProofs only [rB,g1,if_true] at hK
         cases k2:mR i ⟨false,i.least⟩ with
         | false=>
           rw [k2] at a2
           simp -implicitDefEqProofs only [k2,Bool.false_eq_true,if_false] at hK
           have gQ:=a0;have ir:=a1;have iu:=a2;repeat' (first | (simp -implicitDefEqProofs only [go_sem,Int.reduceNegSucc,g0,g1]) | (with_reducible refine aA ?_) | (with_reducible first | refine ag gQ ?_ | refine ah gQ ?_) | (with_reducible first | refine ag ir ?_ | refine ah ir ?_) | (with_reducible first | refine ag iu ?_ | refine ah iu ?_) | ((first | refine ai (fun hg=>?_) (fun hg=>?_) | refine ax (fun hg=>?_) (fun hg=>?_) | refine ay (fun hg=>?_) (fun hg=>?_)) <;> try simp -implicitDefEqProofs only [hg,Bool.not_true,Bool.not_false]) | ((with_reducible apply And.intro);focus (first | trivial | omega | decide | (simp -implicitDefEqProofs only [maxLen];omega) | (simp [maxLen,af,ak,an,av,aj,au,aq] <;> omega))) | fail)
           all_goals (refine (hK _ _ ?_).2;clear hK;simp -implicitDefEqProofs only [go_sem,Int.reduceNegSucc,aQ,aS,aX,bn,aI,aG,aF,Ao.cells,iq] <;>(try simp_all [-Int.not_lt,-Int.not_le,aI,aG,aF,bA,Ao.cells,iq]) <;> try omega)
         | true=>
           rw [k2] at a2
           have j2:=i2 k2
           simp -implicitDefEqProofs only [k2,if_true,← j2] at hK
           have iw:=a0;have jh:=a1;have ji:=a2;repeat' (first | (simp -implicitDefEqProofs only [go_sem,Int.reduceNegSucc,g0,g1]) | (with_reducible refine aA ?_) | (with_reducible first | refine ag iw ?_ | refine ah iw ?_) | (with_reducible first | refine ag jh ?_ | refine ah jh ?_) | (with_reducible first | refine ag ji ?_ | refine ah ji ?_) | ((first | refine ai (fun hg=>?_) (fun hg=>?_) | refine ax (fun hg=>?_) (fun hg=>?_) | refine ay (fun hg=>?_) (fun hg=>?_)) <;> try simp -implicitDefEqProofs only [hg,Bool.not_true,Bool.not_false]) | ((with_reducible apply And.intro);focus (first | trivial | omega | decide | (simp -implicitDefEqProofs only [maxLen];omega) | (simp [maxLen,af,ak,an,av,aj,au,aq] <;> omega))) | fail)
           all_goals (refine (hK _ _ ?_).2;clear hK;simp -implicitDefEqProofs only [go_sem,Int.reduceNegSucc,aQ,aS,aX,bn,aI,aG,aF,Ao.cells,iq] <;>(try simp_all [-Int.not_lt,-Int.not_le,aI,aG,aF,bA,Ao.cells,iq]) <;> try omega)
        ·have g1:decide (V1.w<i.least)=false:=decide_eq_false m1
         simp -implicitDefEqProofs only [rB,g1,Bool.false_eq_true,if_false] at hK
         have jQ:=a0;have mL:=a1;have mM:=a2;repeat' (first | (simp -implicitDefEqProofs only [go_sem,Int.reduceNegSucc,g0,g1]) | (with_reducible refine aA ?_) | (with_reducible first | refine ag jQ ?_ | refine ah jQ ?_) | (with_reducible first | refine ag mL ?_ | refine ah mL ?_) | (with_reducible first | refine ag mM ?_ | refine ah mM ?_) | ((first | refine ai (fun hg=>?_) (fun hg=>?_) | refine ax (fun hg=>?_) (fun hg=>?_) | refine ay (fun hg=>?_) (fun hg=>?_)) <;> try simp -implicitDefEqProofs only [hg,Bool.not_true,Bool.not_false]) | ((with_reducible apply And.intro);focus (first | trivial | omega | decide | (simp -implicitDefEqProofs only [maxLen];omega) | (simp [maxLen,af,ak,an,av,aj,au,aq] <;> omega))) | fail)
         all_goals (refine (hK _ _ ?_).2;clear hK;simp -implicitDefEqProofs only [go_sem,Int.reduceNegSucc,aQ,aS,aX,bn,aI,aG,aF,Ao.cells,iq] <;>(try simp_all [-Int.not_lt,-Int.not_le,aI,aG,aF,bA,Ao.cells,iq]) <;> try omega)
     ·have g0:decide (V0.w>i.most)=false:=decide_eq_false m0
      simp -implicitDefEqProofs only [g0,Bool.false_eq_true,if_false,Option.bind] at hK
      by_cases m1:V0.w<i.least
      ·have g1:decide (V0.w<i.least)=true:=decide_eq_true m1
       simp -implicitDefEqProofs only [rB,g1,if_true] at hK
       cases k2:mR i ⟨false,i.least⟩ with
       | false=>
         rw [k2] at a2
         simp -implicitDefEqProofs only [k2,Bool.false_eq_true,if_false] at hK
         have oO:=a0;have rD:=a1;have rE:=a2;repeat' (first | (simp -implicitDefEqProofs only [go_sem,Int.reduceNegSucc,g0,g1]) | (with_reducible refine aA ?_) | (with_reducible first | refine ag oO ?_ | refine ah oO ?_) | (with_reducible first | refine ag rD ?_ | refine ah rD ?_) | (with_reducible first | refine ag rE ?_ | refine ah rE ?_) | ((first | refine ai (fun hg=>?_) (fun hg=>?_) | refine ax (fun hg=>?_) (fun hg=>?_) | refine ay (fun hg=>?_) (fun hg=>?_)) <;> try simp -implicitDefEqProofs only [hg,Bool.not_true,Bool.not_false]) | ((with_reducible apply And.intro);focus (first | trivial | omega | decide | (simp -implicitDefEqProofs only [maxLen];omega) | (simp [maxLen,af,ak,an,av,aj,au,aq] <;> omega))) | fail)
         all_goals (refine (hK _ _ ?_).2;clear hK;simp -implicitDefEqProofs only [go_sem,Int.reduceNegSucc,aQ,aS,aX,bn,aI,aG,aF,Ao.cells,iq] <;>(try simp_all [-Int.not_lt,-Int.not_le,aI,aG,aF,bA,Ao.cells,iq]) <;> try omega)
       | true=>
         rw [k2] at a2
         have j2:=i2 k2
         simp -implicitDefEqProofs only [k2,if_true,← j2] at hK
         have rF:=a0;have rG:=a1;have rH:=a2;repeat' (first | (simp -implicitDefEqProofs only [go_sem,Int.reduceNegSucc,g0,g1]) | (with_reducible refine aA ?_) | (with_reducible first | refine ag rF ?_ | refine ah rF ?_) | (with_reducible first | refine ag rG ?_ | refine ah rG ?_) | (with_reducible first | refine ag rH ?_ | refine ah rH ?_) | ((first | refine ai (fun hg=>?_) (fun hg=>?_) | refine ax (fun hg=>?_) (fun hg=>?_) | refine ay (fun hg=>?_) (fun hg=>?_)) <;> try simp -implicitDefEqProofs only [hg,Bool.not_true,Bool.not_false]) | ((with_reducible apply And.intro);focus (first | trivial | omega | decide | (simp -implicitDefEqProofs only [maxLen];omega) | (simp [maxLen,af,ak,an,av,aj,au,aq] <;> omega))) | fail)
         all_goals (refine (hK _ _ ?_).2;clear hK;simp -implicitDefEqProofs only [go_sem,Int.reduceNegSucc,aQ,aS,aX,bn,aI,aG,aF,Ao.cells,iq] <;>(try simp_all [-Int.not_lt,-Int.not_le,aI,aG,aF,bA,Ao.cells,iq]) <;> try omega)
      ·have g1:decide (V0.w<i.least)=false:=decide_eq_false m1
       simp -implicitDefEqProofs only [rB,g1,Bool.false_eq_true,if_false] at hK
       have wU:=a0;have wV:=a1;have wW:=a2;repeat' (first | (simp -implicitDefEqProofs only [go_sem,Int.reduceNegSucc,g0,g1]) | (with_reducible refine aA ?_) | (with_reducible first | refine ag wU ?_ | refine ah wU ?_) | (with_reducible first | refine ag wV ?_ | refine ah wV ?_) | (with_reducible first | refine ag wW ?_ | refine ah wW ?_) | ((first | refine ai (fun hg=>?_) (fun hg=>?_) | refine ax (fun hg=>?_) (fun hg=>?_) | refine ay (fun hg=>?_) (fun hg=>?_)) <;> try simp -implicitDefEqProofs only [hg,Bool.not_true,Bool.not_false]) | ((with_reducible apply And.intro);focus (first | trivial | omega | decide | (simp -implicitDefEqProofs only [maxLen];omega) | (simp [maxLen,af,ak,an,av,aj,au,aq] <;> omega))) | fail)
       all_goals (refine (hK _ _ ?_).2;clear hK;simp -implicitDefEqProofs only [go_sem,Int.reduceNegSucc,aQ,aS,aX,bn,aI,aG,aF,Ao.cells,iq] <;>(try simp_all [-Int.not_lt,-Int.not_le,aI,aG,aF,bA,Ao.cells,iq]) <;> try omega)
 | false=>
   simp -implicitDefEqProofs only [nr,h5,Bool.false_eq_true,if_false] at hK
   simp -implicitDefEqProofs only [Ai.sv,Ai.cells,Sz.sv,Sz.cells,List.map_cons,List.map_nil] at o1 o2 o3
   conv in fc _ _ _ _=>reduce
   simp -implicitDefEqProofs only [Ai.sv,Ai.cells,Sz.sv,Sz.cells,go_sem,Int.reduceNegSucc]
   have wX:=o1;have wY:=o2;have wZ:=o3;repeat' (first | (simp -implicitDefEqProofs only [go_sem,Int.reduceNegSucc]) | (with_reducible refine aA ?_) | (with_reducible first | refine ag wX ?_ | refine ah wX ?_) | (with_reducible first | refine ag wY ?_ | refine ah wY ?_) | (with_reducible first | refine ag wZ ?_ | refine ah wZ ?_) | ((first | refine ai (fun hg=>?_) (fun hg=>?_) | refine ax (fun hg=>?_) (fun hg=>?_) | refine ay (fun hg=>?_) (fun hg=>?_)) <;> try simp -implicitDefEqProofs only [hg,Bool.not_true,Bool.not_false]) | ((with_reducible apply And.intro);focus (first | trivial | omega | decide | (simp -implicitDefEqProofs only [maxLen];omega) | (simp [maxLen,af,ak,an,av,aj,au,aq] <;> omega))) | fail)
   refine jX 6 ?_
   have xb:=f1;have xd:=f2;have xe:=f3;have xg:=f4;have xh:=f5;repeat' (first | (simp -implicitDefEqProofs only [go_sem,Int.reduceNegSucc,kj,kk,ko,kr,ku,kz,jT,Int.reduceLT,decide_true,decide_false,Int.reduceToNat,Nat.reduceMul]) | (with_reducible refine aA ?_) | (with_reducible show G _ _ (It.l _ _::_) _ _ _;refine jW ?_) | (with_reducible first | refine ag xb ?_ | refine ah xb ?_) | (with_reducible first | refine ag xd ?_ | refine ah xd ?_) | (with_reducible first | refine ag xe ?_ | refine ah xe ?_) | (with_reducible first | refine ag xg ?_ | refine ah xg ?_) | (with_reducible first | refine ag xh ?_ | refine ah xh ?_) | ((first | refine ai (fun hg=>?_) (fun hg=>?_) | refine ax (fun hg=>?_) (fun hg=>?_) | refine ay (fun hg=>?_) (fun hg=>?_)) <;> try simp -implicitDefEqProofs only [hg,Bool.not_true,Bool.not_false]) | ((with_reducible apply And.intro);focus (first | trivial | omega | decide | (simp -implicitDefEqProofs only [maxLen];omega) | (simp [maxLen,af,ak,an,av,aj,au,aq] <;> omega))) | fail)
   all_goals first | (exfalso;simp_all [sj];done) | skip
   all_goals (refine (hK _ _ ?_).2;clear hK;simp -implicitDefEqProofs only [go_sem,Int.reduceNegSucc,aQ,aS,aX,bn,aI,aG,aF,Ao.cells,iq] <;>(try simp_all [-Int.not_lt,-Int.not_le,aI,aG,aF,bA,Ao.cells,iq]) <;> try omega)
end Go.aL
