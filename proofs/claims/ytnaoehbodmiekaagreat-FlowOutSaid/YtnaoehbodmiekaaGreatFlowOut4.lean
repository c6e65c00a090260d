/- Part 4 of the proof: EngZf, F4, F5, F6, G4b, G5, G6, F7, F8, F9, G8, G8b, F10, EngZg, F9i, F11, F12, G9, G7, G7b. -/
import Derived.Test.YtnaoehbodmiekaaGreatFlowOut3
import Derived.Shelf.Spec.SlicesInsert
import Derived.Shelf.Spec.SlicesInsertGrow
set_option linter.unusedSimpArgs false
set_option linter.unusedVariables false
set_option maxRecDepth 100000
set_option maxHeartbeats 16000000
namespace Go.aL
open Go
theorem uY {P:Program} {f:FuncId} {iU:List SV} {args:List SV} {pre us:List (Nat×HB)} {sv:SV} (H:aI P f iU [] us sv) (hl:args.length=iU.length)
 (hz:∀ hp,aY hp pre→∀ (j:Nat) (y x:SV),args[j]?=some y→iU[j]?=some x→Rn (fun _=>none) hp y x) (hfl:iL sv) (kD:∀ q∈us,oS q.2∧∀ p∈pre,p.1≠q.1):aI P f args pre us sv:=by
 refine ⟨H.1,fun C hp w aa vs hpre hnew R hvl hvs=>?_⟩
 let C2:Ctx:=⟨w,fun b=>aJ C aa hp b∨∃ id,(hp id).isSome=true∧aa id=some b,fun _=>False,C.N,fun _=>none,fun _=>none⟩
 have sJ:∀ b,C2.wE b→aJ C2 (fun _=>none) (fun _=>none) b:=fun b hb=>⟨.inl hb,fun id hid=>by simp at hid⟩
 have R2:cn C2 (fun _=>none) w (fun _=>none):=⟨fun id hb h=>(by cases h),fun i j b h=>(by simp at h),fun i b h=>(by simp at h),⟨rfl,rfl,rfl,Nat.le_refl _,fun b _ _=>rfl⟩,fun id hb hb0 h=>(by cases h)⟩
 have qj:∀ id,id∈us.map (·.1)→hp id=none∧C.h0 id=none:=fun id hid=>by
  obtain ⟨q,hq,rfl⟩:=List.mem_map.1 hid
  rcases hnew q hq with ⟨hb,hm⟩ | h
  ·exact absurd rfl ((kD q hq).2 (q.1,hb) hm)
  ·exact h
 refine (H.2 C2 (fun _=>none) w (fun _=>none) vs (fun q hq=>by simp at hq) (fun q hq=>.inr ⟨rfl,rfl⟩) R2 (by simp [hvl,hl]) (fun j s hj=>?_)).mono ?_
 ·have hlt:=(List.getElem?_eq_some_iff.1 hj).1
  have hy:=List.getElem?_eq_getElem (l:=args) (i:=j) (by omega)
  exact Rp.leave (τ:=fun _=>none) (fun b hb=>sJ b (.inl hb)) (fun i b _ hi hb=>sJ b (.inr ⟨i,hi,hb⟩)) (fun i hb hi=>R.heap i hb hi) (fun j id h=>by cases h) (hvs j _ hy) (hz hp hpre j _ s hy hj)
 ·rintro e w' ⟨v,aK,rfl,S,hR⟩
  have R':=S.mem
  have iH:∀ b,b<w.heap.size→w'.heap[b]?=w.heap[b]?:=fun b hb=>R'.fr.block b hb (fun h=>h)
  have hsz:w.heap.size≤w'.heap.size:=R'.fr.size
  have qk:∀ id b,id∈us.map (·.1)→aK id=some b→w.heap.size≤b∧b<w'.heap.size:=fun id b hid hb=>by
   obtain ⟨h1,h2⟩:=R'.own id b (nS.2 hid) hb
   rcases h1 with ⟨a,_⟩ | a
   ·cases a
   ·exact ⟨a,h2⟩
  let gu:Nat→Option Nat:=fun id=>if id∈us.map (·.1) then aK id else aa id
  have rT:∀ id,id∈us.map (·.1)→gu id=aK id:=fun id h=>if_pos h
  have rN:∀ id,id∉us.map (·.1)→gu id=aa id:=fun id h=>if_neg h
  have hN:∀ id,id∉us.map (·.1)→bM hp us id=hp id:=fun id h=>zY h
  have hT:∀ id,id∈us.map (·.1)→bM hp us id=bM (fun _=>none) us id:=fun id h=>wU h
  have hs:∀ j,(bM (fun _=>none) us j).isSome=true→bM hp us j=bM (fun _=>none) us j∧gu j=aK j:=fun j hj=>⟨hT j (nS.1 hj),rT j (nS.1 hj)⟩
  have sU:∀ b,aJ C aa hp b→b<w.heap.size→aJ C gu (bM hp us) b∧w'.heap[b]?=w.heap[b]?:=fun b hb hlt=>by
   refine ⟨⟨hb.1,fun id hid he=>?_⟩,iH b hlt⟩
   by_cases hm:id∈us.map (·.1)
   ·rw [rT id hm] at he
    have:=(qk id b hm he).1;omega
   ·rw [hN id hm] at hid
    rw [rN id hm] at he
    exact hb.2 id hid he
  have E:jc w w' (aJ C aa hp) (aJ C gu (bM hp us)) aa gu hp (bM hp us):=jc.of sU (fun id hb hq=>by
   have hm:id∉us.map (·.1):=fun hm=>by rw [(qj id hm).1] at hq;cases hq
   refine ⟨hb,by rw [hN id hm];exact hq,?_⟩
   rw [rN id hm]
   cases hb with
   | var cs=>rfl
   | row e az xs=>exact ⟨Nat.le_refl _,fun _=>⟨rfl,rfl,fun b hb cur t hc=>⟨cur,t,by rw [iH b (R.own id b (by rw [hq];rfl) hb).2];exact hc,rfl⟩⟩⟩)
  refine ⟨v,gu,rfl,⟨⟨fun id hb hq=>?_,fun i j b h1 h2 h3 h4=>?_,fun id b h1 h2=>?_,⟨R'.fr.os.trans R.fr.os,R'.fr.tape.trans R.fr.tape,R'.fr.output.trans R.fr.output,Nat.le_trans R.fr.size hsz,fun b h1 h2=>?_⟩,fun id hb hb0 h1 h2=>?_⟩,E⟩,hR.flat hs hfl⟩
  ·by_cases hm:id∈us.map (·.1)
   ·rw [hT id hm] at hq
    have Bt:oS hb:=by
     rcases Jn hq with h | h
     ·cases h
     ·exact (kD _ h).1
    exact (R'.heap id hb hq).flat hs (nS.2 hm) Bt
   ·rw [hN id hm] at hq
    rcases R.heap id hb hq with ⟨a1,a2⟩ | ⟨b,cur,t,a1,a2,a3⟩
    ·exact .inl ⟨(rN id hm).trans a1,a2⟩
    ·refine .inr ⟨b,cur,t,(rN id hm).trans a1,?_,a3.mono E⟩
     rw [iH b (R.own id b (by rw [hq];rfl) a1).2];exact a2
  ·by_cases hi:i∈us.map (·.1) <;> by_cases hj:j∈us.map (·.1)
   ·rw [rT i hi] at h3;rw [rT j hj] at h4
    exact R'.inj i j b (nS.2 hi) (nS.2 hj) h3 h4
   ·rw [rT i hi] at h3;rw [rN j hj] at h4;rw [hN j hj] at h2
    have h5:=qk i b hi h3;have h6:=R.own j b h2 h4;omega
   ·rw [rN i hi] at h3;rw [rT j hj] at h4;rw [hN i hi] at h1
    have h5:=qk j b hj h4;have h6:=R.own i b h1 h3;omega
   ·rw [rN i hi] at h3;rw [rN j hj] at h4;rw [hN i hi] at h1;rw [hN j hj] at h2
    exact R.inj i j b h1 h2 h3 h4
  ·by_cases hm:id∈us.map (·.1)
   ·rw [rT id hm] at h2
    obtain ⟨a1,a2⟩:=qk id b hm h2
    exact ⟨.inr (Nat.le_trans R.fr.size a1),a2⟩
   ·rw [hN id hm] at h1;rw [rN id hm] at h2
    obtain ⟨a1,a2⟩:=R.own id b h1 h2
    exact ⟨a1,by omega⟩
  ·rw [iH b (by have:=R.fr.size;omega)];exact R.fr.block b h1 h2
  ·by_cases hm:id∈us.map (·.1)
   ·rw [(qj id hm).2] at h2;cases h2
   ·rw [hN id hm] at h1
    have ev:=R.jW id hb hb0 h1 h2
    obtain ⟨hb',g1,g2⟩:∃ hb',bM hp us id=some hb'∧jz w w' (aa id) (gu id) hb hb':=by
     refine ⟨hb,by rw [hN id hm];exact h1,?_⟩
     rw [rN id hm]
     cases hb with
     | var cs=>rfl
     | row e az xs=>exact ⟨Nat.le_refl _,fun _=>⟨rfl,rfl,fun b hb cur t hc=>⟨cur,t,by rw [iH b (R.own id b (by rw [h1];rfl) hb).2];exact hc,rfl⟩⟩⟩
    rw [hN id hm,h1] at g1;cases g1
    exact ev.trans g2
theorem tM {n0:Nat} {env:List (Nat×SV)} {h:List (Option HB)} (i0 e o:Nat) {cs:List SV} (hi:aB h i0=some (.var cs)) (ho:cs[o]?=some (.rv .cr)):fX n0 ⟨env,h⟩ ⟨env,aX (aX h (h.length,.row e 0 [])) (i0,.var (cs.set o (.row h.length 0 0)))⟩:=by
 intro C a w R
 obtain ⟨⟨aa,RF⟩,h1,h0⟩:=R
 have hnone:aB h h.length=none:=by unfold aB;rw [List.getElem?_eq_none (Nat.le_refl _)]
 have vo:C.h0 h.length=none:=h0 _ h1
 obtain ⟨aK,S⟩:=RF.mem.ES e hi ho hnone vo
 have lA:=RF.step S
 have hlt:i0<h.length:=by
  apply Classical.byContradiction
  intro hc
  unfold aB at hi
  rw [List.getElem?_eq_none (by omega)] at hi;cases hi
 have e1:=yE (h:=h) (q:=(h.length,.row e 0 [])) (Nat.le_refl _)
 have l1:=uM h (h.length,.row e 0 [])
 have e2:=yE (h:=aX h (h.length,.row e 0 [])) (q:=(i0,.var (cs.set o (.row h.length 0 0)))) (by show i0≤_;omega)
 have l2:=uM (aX h (h.length,.row e 0 [])) (i0,.var (cs.set o (.row h.length 0 0)))
 refine ⟨⟨aK,?_⟩,?_,h0⟩
 ·show kr C (lk env) (aB (aX (aX h (h.length,.row e 0 [])) (i0,.var (cs.set o (.row h.length 0 0))))) a w aK
  rw [e2,e1];exact lA
 ·have MX:n0≤h.length:=h1
  show n0≤(aX (aX h (h.length,.row e 0 [])) (i0,.var (cs.set o (.row h.length 0 0)))).length
  omega
end Go.aL

namespace Go.aL
open Go
theorem Pp:aU Go.Proofs.Tryz.prog 94 53 (fc Go.Proofs.Tryz.prog 94 53 [(.c 4 3 true),(.t 5),(.t 6)]) [(.c 4 3 true),(.t 5),(.t 6)]:=bl (by kernel_rfl)
theorem Pt:aU Go.Proofs.Tryz.prog 112 27 (fc Go.Proofs.Tryz.prog 112 27 [(.t 4)]) [(.t 4)]:=bl (by kernel_rfl)
structure Ai where
 base:Int
 left:Sz
 wide:Sz
 right:Sz
 around:Int
 bT:Bool
 least:Int
 most:Int
def Ai.cells (i:Ai):List RV:=[.int .i64 i.base,.bool i.left.auto,.int .i64 i.left.n,.bool i.wide.auto,.int .i64 i.wide.n,.bool i.right.auto,.int .i64 i.right.n,.int .i64 i.around,.bool i.bT,.int .i64 i.least,.int .i64 i.most]
abbrev Ai.sv (i:Ai):SV:=.agg (i.cells.map .rv)
structure Ao where
 l:Int
 w:Int
 r:Int
def Ao.cells (o:Ao):List RV:=[.int .i64 o.l,.int .i64 o.w,.int .i64 o.r]
def uj (i:Ai) (w:Int):Int×Int:=
 if ¬ i.base - i.around - w - bn i.left 0 - bn i.right 0<0∧i.left.auto=true∧i.right.auto=true then ((i.base - i.around - w) / 2,i.base - i.around - w - (i.base - i.around - w) / 2)
 else if ¬ i.base - i.around - w - bn i.left 0 - bn i.right 0<0∧i.left.auto=true∨i.bT=true∧(i.base - i.around - w - bn i.left 0 - bn i.right 0<0∨i.right.auto=false) then (i.base - i.around - w - bn i.right 0,bn i.right 0)
 else (bn i.left 0,i.base - i.around - w - bn i.left 0)
def jd (i:Ai) (s:Sz):Ao:=if s.auto=true then ⟨bn i.left 0,i.base - i.around - bn i.left 0 - bn i.right 0,bn i.right 0⟩ else ⟨(uj i s.n).1,s.n,(uj i s.n).2⟩
def mU (i:Ai) (s:Sz):Bool:=bR (jd i s).l && bR (jd i s).w && bR (jd i s).r
structure Fit (i:Ai):Prop where
 b:bR i.base=true
 a:bR i.around=true
 l:bR (bn i.left 0)=true
 r:bR (bn i.right 0)=true
theorem UU (i:Ai) (xs:List Int) (hb:bR i.base=true) (ha:bR i.around=true) (hx:∀ x∈xs,bR x=true) (hl:xs.length≤100):aI Go.Proofs.Tryz.prog 113 [i.sv,.rv (.sl 1 (aM xs))] [] [] (.rv (.int .i64 (i.base - i.around - xs.sum))):=by
 refine bt Pn [i.sv,.rv (.sl 1 (aM xs))] _ (by simp) (by simp [aO,aW,bp,aS,bg,aC.sv,Ln.sv,Nd.sv]) (fun K hK=>?_)
 have nE:=aj xs
 rw [jf] at hb ha
 have w0:IntKind.i64.wrap (i.base - i.around)=i.base - i.around:=wrap_i64 (by omega) (by omega)
 conv in fc _ _ _ _=>reduce
 simp -implicitDefEqProofs only [Ai.sv,Ai.cells,go_sem,Int.reduceNegSucc]
 repeat' (first | (simp -implicitDefEqProofs only [go_sem,Int.reduceNegSucc,nE,w0]) | (with_reducible refine aA ?_) | ((first | refine ai (fun hg=>?_) (fun hg=>?_) | refine ax (fun hg=>?_) (fun hg=>?_) | refine ay (fun hg=>?_) (fun hg=>?_)) <;> try simp -implicitDefEqProofs only [hg,Bool.not_true,Bool.not_false]) | ((with_reducible apply And.intro);focus (first | trivial | omega | decide | (simp -implicitDefEqProofs only [maxLen];omega) | (simp [maxLen,ah,ak,an,av,aj,au,aq] <;> omega))) | fail)
 refine fE (ι:=Nat) (fun k=>[(15,.rv (.int .i64 k)),(14,.rv (.int .i64 xs.length)),(13,.rv (.sl 1 (aM xs))),(5,.rv (.int .i64 (i.base - i.around - (xs.take k).sum)))]) (fun _=>[some (.var (i.cells.map .rv))]) (fun k=>k≤xs.length∧-(1125899906842624*k)≤(xs.take k).sum∧(xs.take k).sum≤1125899906842624*k) (fun k=>xs.length - k) 0 (by simp) (bh (by simp [lk])) (fun k hk K' hN hX hR=>?_)
 obtain ⟨fJ,hk2,gd⟩:=hk
 simp -implicitDefEqProofs only [go_sem,Int.reduceNegSucc]
 refine ai (fun hg=>?_) (fun hg=>?_)
 ·have aE:k<xs.length:=by simp at hg;omega
  have hg:=oC aE
  have wu:=cz (k:=k) (by omega)
  have hf:=jf.1 (hx _ (List.getElem_mem aE))
  have hst:=Dc aE
  have ws:IntKind.i64.wrap (i.base - i.around - (xs.take k).sum - xs[k])=i.base - i.around - (xs.take (k+1)).sum:=by rw [wrap_i64 (by omega) (by omega),hst];omega
  repeat' (first | (simp -implicitDefEqProofs only [go_sem,Int.reduceNegSucc,hg,nE,wu,ws]) | (with_reducible refine aA ?_) | ((first | refine ai (fun hg=>?_) (fun hg=>?_) | refine ax (fun hg=>?_) (fun hg=>?_) | refine ay (fun hg=>?_) (fun hg=>?_)) <;> try simp -implicitDefEqProofs only [hg,Bool.not_true,Bool.not_false]) | ((with_reducible apply And.intro);focus (first | trivial | omega | decide | (simp -implicitDefEqProofs only [maxLen];omega) | (simp [maxLen,ah,ak,an,av,aj,au,aq] <;> omega))) | fail)
  exact hN (k+1) _ _ ⟨by omega,by omega,by omega⟩ (by omega) (bh (by simp [lk]))
 ·have aE:k=xs.length:=by simp at hg;omega
  subst aE
  simp -implicitDefEqProofs only [go_sem,Int.reduceNegSucc]
  refine hX _ _ _ ?_
  rw [List.take_length]
  repeat' (first | (simp -implicitDefEqProofs only [go_sem,Int.reduceNegSucc]) | (with_reducible refine aA ?_) | ((first | refine ai (fun hg=>?_) (fun hg=>?_) | refine ax (fun hg=>?_) (fun hg=>?_) | refine ay (fun hg=>?_) (fun hg=>?_)) <;> try simp -implicitDefEqProofs only [hg,Bool.not_true,Bool.not_false]) | ((with_reducible apply And.intro);focus (first | trivial | omega | decide | (simp -implicitDefEqProofs only [maxLen];omega) | (simp [maxLen,ah,ak,an,av,aj,au,aq] <;> omega))) | fail)
  exact (hK _ _ (bO rfl)).2
theorem CT (i:Ai) (xs:List Int) (hb:bR i.base=true) (ha:bR i.around=true) (hx:∀ x∈xs,bR x=true) (hl:xs.length≤100) (id:Nat):aI Go.Proofs.Tryz.prog 113 [i.sv,.row id 0 xs.length] [(id,.row 1 0 (lT xs))] [] (.rv (.int .i64 (i.base - i.around - xs.sum))):=by
 refine uY (iU:=[i.sv,.rv (.sl 1 (aM xs))]) (UU i xs hb ha hx hl) rfl (fun hp hpre k y r hy hr=>?_) (.rv _ (.int _ _)) (by simp)
 match k with
 | 0=>cases hy;cases hr;exact aH.2 (fU.2 rfl)
 | 1=>
   cases hy;cases hr
   have:=om (h:=hp) (τ:=fun _=>none) (j:=id) (e:=1) (az:=0) (len:=xs.length) (xs:=aM xs) (by rw [← BQ];exact hpre _ (.head _)) rfl (by rw [aj];omega) (kN _)
   rw [List.take_of_length_le (by rw [aj];omega)] at this
   exact .fz _ _ this
 | k+2=>simp at hy
theorem Cv {x:Sz} (h:x.auto=false) (d:Int):bn x d=x.n:=by simp [bn,h]
theorem UX (i:Ai) (w:Int) (hf:Fit i) (hw:bR w=true):aI Go.Proofs.Tryz.prog 114 [i.sv,.rv (.int .i64 w)] [] [] (.aP [.rv (.int .i64 (uj i w).1),.rv (.int .i64 (uj i w).2)]):=by
 refine bt Po [i.sv,.rv (.int .i64 w)] _ (by simp) (by simp [aO,aW,bp,aS,bg,aC.sv,Ln.sv,Nd.sv]) (fun K hK=>?_)
 have h1:=nj i.left 0
 have h2:=nj i.right 0
 have h3:=CT i [w] hf.b hf.a (by simp [hw]) (by simp)
 have h4:=CT i [w,bn i.left 0,bn i.right 0] hf.b hf.a (by simp [hw,hf.l,hf.r]) (by simp)
 have q1:=jf.1 hf.b
 have q2:=jf.1 hf.a
 have q3:=jf.1 hf.l
 have q4:=jf.1 hf.r
 have q5:=jf.1 hw
 have h5:=UC (i.base - i.around - w)
 have w1:IntKind.i64.wrap (i.base - i.around - w - (i.base - i.around - w) / 2)=i.base - i.around - w - (i.base - i.around - w) / 2:=wrap_i64 (by omega) (by omega)
 have w2:IntKind.i64.wrap (i.base - i.around - w - bn i.right 0)=i.base - i.around - w - bn i.right 0:=wrap_i64 (by omega) (by omega)
 have w3:IntKind.i64.wrap (i.base - i.around - w - bn i.left 0)=i.base - i.around - w - bn i.left 0:=wrap_i64 (by omega) (by omega)
 have e1:[w].sum=w:=by simp
 have e2:i.base - i.around - [w,bn i.left 0,bn i.right 0].sum=i.base - i.around - w - bn i.left 0 - bn i.right 0:=by simp;omega
 rw [e1] at h3
 rw [e2] at h4
 simp -implicitDefEqProofs only [lT,List.map_cons,List.map_nil,List.length_cons,List.length_nil,Ai.sv,Ai.cells,Sz.sv,Sz.cells,Nat.reduceAdd] at h1 h2 h3 h4
 simp -implicitDefEqProofs only [uj] at hK
 conv in fc _ _ _ _=>reduce
 simp -implicitDefEqProofs only [Ai.sv,Ai.cells,go_sem,Int.reduceNegSucc]
 generalize bn i.left 0=L at *
 generalize bn i.right 0=R at *
 cases hl:i.left.auto <;> cases hr:i.right.auto <;> cases ht:i.bT <;> simp -implicitDefEqProofs only [hl,hr,ht] at h1 h2 h3 h4 hK ⊢ <;> by_cases yN:i.base - i.around - w - L - R<0 <;> simp -implicitDefEqProofs only [yN,decide_true,decide_false] at hK ⊢
 all_goals ((have aT:=h1;have y_2:=h2;have bA:=h3;have bC:=h4;have bH:=h5;repeat' (first | (simp -implicitDefEqProofs only [go_sem,Int.reduceNegSucc,w1,w2,w3,yN,decide_true,decide_false]) | (with_reducible refine aA ?_) | (with_reducible first | refine af aT ?_ | refine ag aT ?_) | (with_reducible first | refine af y_2 ?_ | refine ag y_2 ?_) | ((first | refine bS (bA _) ?_ ?_ ?_ | refine ck (bA _) ?_ ?_ ?_ | fail);(focus (simp [aY,aB] <;> fail));(focus (simp [bq,aX] <;> fail))) | ((first | refine bS (bC _) ?_ ?_ ?_ | refine ck (bC _) ?_ ?_ ?_ | fail);(focus (simp [aY,aB] <;> fail));(focus (simp [bq,aX] <;> fail))) | (with_reducible first | refine af bH ?_ | refine ag bH ?_) | ((first | refine ai (fun hg=>?_) (fun hg=>?_) | refine ax (fun hg=>?_) (fun hg=>?_) | refine ay (fun hg=>?_) (fun hg=>?_)) <;> try simp -implicitDefEqProofs only [hg,Bool.not_true,Bool.not_false]) | ((with_reducible apply And.intro);focus (first | trivial | omega | decide | (simp -implicitDefEqProofs only [maxLen];omega) | (simp [maxLen,ah,ak,an,av,aj,au,aq] <;> omega))) | fail)))
 all_goals (refine (hK _ _ (gL rfl rfl)).2)
theorem Vw (i:Ai) (s:Sz) (hf:Fit i) (hs:s.auto=false→bR s.n=true):aI Go.Proofs.Tryz.prog 94 [i.sv,s.sv] [] [] (.aP [.agg ((jd i s).cells.map .rv),.rv (.int .i64 (jd i s).w),.rv (.bool (mU i s))]):=by
 refine bt Pp [i.sv,s.sv] _ (by simp) (by simp [aO,aW,bp,aS,bg,aC.sv,Ln.sv,Nd.sv]) (fun K hK=>?_)
 have h1:=nj i.left 0
 have h2:=nj i.right 0
 have h3:=CT i [bn i.left 0,bn i.right 0] hf.b hf.a (by simp [hf.l,hf.r]) (by simp)
 have f1:=mg (jd i s).l
 have f2:=mg (jd i s).w
 have f3:=mg (jd i s).r
 have e2:i.base - i.around - [bn i.left 0,bn i.right 0].sum=i.base - i.around - bn i.left 0 - bn i.right 0:=by simp;omega
 rw [e2] at h3
 simp -implicitDefEqProofs only [mU] at hK
 simp -implicitDefEqProofs only [lT,List.map_cons,List.map_nil,List.length_cons,List.length_nil,Ai.sv,Ai.cells,Sz.sv,Sz.cells,Nat.reduceAdd,Ao.cells,jd] at h1 h2 h3 hK f1 f2 f3
 conv in fc _ _ _ _=>reduce
 simp -implicitDefEqProofs only [Ai.sv,Ai.cells,Sz.sv,Sz.cells,go_sem,Int.reduceNegSucc]
 cases ha:s.auto with
 | true=>
   simp -implicitDefEqProofs only [ha,if_true] at hK f1 f2 f3
   have bJ:=h1;have bL:=h2;have bQ:=h3;have bZ:=f1;have cm:=f2;have fO:=f3;repeat' (first | (simp -implicitDefEqProofs only [go_sem,Int.reduceNegSucc]) | (with_reducible refine aA ?_) | (with_reducible first | refine af bJ ?_ | refine ag bJ ?_) | (with_reducible first | refine af bL ?_ | refine ag bL ?_) | ((first | refine bS (bQ _) ?_ ?_ ?_ | refine ck (bQ _) ?_ ?_ ?_ | fail);(focus (simp [aY,aB] <;> fail));(focus (simp [bq,aX] <;> fail))) | (with_reducible first | refine af bZ ?_ | refine ag bZ ?_) | (with_reducible first | refine af cm ?_ | refine ag cm ?_) | (with_reducible first | refine af fO ?_ | refine ag fO ?_) | ((first | refine ai (fun hg=>?_) (fun hg=>?_) | refine ax (fun hg=>?_) (fun hg=>?_) | refine ay (fun hg=>?_) (fun hg=>?_)) <;> try simp -implicitDefEqProofs only [hg,Bool.not_true,Bool.not_false]) | ((with_reducible apply And.intro);focus (first | trivial | omega | decide | (simp -implicitDefEqProofs only [maxLen];omega) | (simp [maxLen,ah,ak,an,av,aj,au,aq] <;> omega))) | fail)
   all_goals (refine (hK _ _ ?_).2;clear hK;simp -implicitDefEqProofs only [go_sem,Int.reduceNegSucc,aQ,aR,aV,bf,aH,aG,aF] <;>(try simp_all [-Int.not_lt,-Int.not_le,aH,aG,aF,bB]) <;> try omega)
 | false=>
   have h4:=UX i s.n hf (hs ha)
   simp -implicitDefEqProofs only [Ai.sv,Ai.cells,List.map_cons,List.map_nil] at h4
   simp -implicitDefEqProofs only [ha,Bool.false_eq_true,if_false] at hK f1 f2 f3
   have gj:=h1;have gQ:=h2;have gR:=h4;have gS:=f1;have gT:=f2;have gU:=f3;repeat' (first | (simp -implicitDefEqProofs only [go_sem,Int.reduceNegSucc]) | (with_reducible refine aA ?_) | (with_reducible first | refine af gj ?_ | refine ag gj ?_) | (with_reducible first | refine af gQ ?_ | refine ag gQ ?_) | (with_reducible first | refine af gR ?_ | refine ag gR ?_) | (with_reducible first | refine af gS ?_ | refine ag gS ?_) | (with_reducible first | refine af gT ?_ | refine ag gT ?_) | (with_reducible first | refine af gU ?_ | refine ag gU ?_) | ((first | refine ai (fun hg=>?_) (fun hg=>?_) | refine ax (fun hg=>?_) (fun hg=>?_) | refine ay (fun hg=>?_) (fun hg=>?_)) <;> try simp -implicitDefEqProofs only [hg,Bool.not_true,Bool.not_false]) | ((with_reducible apply And.intro);focus (first | trivial | omega | decide | (simp -implicitDefEqProofs only [maxLen];omega) | (simp [maxLen,ah,ak,an,av,aj,au,aq] <;> omega))) | fail)
   all_goals (refine (hK _ _ ?_).2;clear hK;simp -implicitDefEqProofs only [go_sem,Int.reduceNegSucc,aQ,aR,aV,bf,aH,aG,aF] <;>(try simp_all [-Int.not_lt,-Int.not_le,aH,aG,aF,bB]) <;> try omega)
theorem zK (i:Ai) (s:Sz) (hf:Fit i) (hs:s.auto=false→bR s.n=true) (j:Nat) (o:Ao) (n:Int):aI Go.Proofs.Tryz.prog 112 [.ptr j 0,s.sv]
 [(j,.var (SV.fG 94 [i.sv]::(o.cells++[RV.int .i64 n]).map .rv))] [(j,.var (SV.fG 94 [i.sv]::((jd i s).cells++[RV.int .i64 (jd i s).w]).map .rv))] (.rv (.bool (mU i s))):=by
 refine mV Pt [j] [.var (SV.fG 94 [i.sv]::(o.cells++[RV.int .i64 n]).map .rv)] [.var (SV.fG 94 [i.sv]::(o.cells++[RV.int .i64 n]).map .rv)] [.ptr 0 0,s.sv] [.ptr j 0,s.sv] _ _ (by simp) (by simp [aO,lP,aW,bp]) rfl (by simp [bW]) (by simp [ig,DE,aW,bp,aO,aS,Ao.cells]) (fun K hK=>?_)
 have h1:=Vw i s hf hs
 simp -implicitDefEqProofs only [Ao.cells,List.cons_append,List.nil_append,List.map_cons,List.map_nil] at hK ⊢
 simp -implicitDefEqProofs only [Ao.cells,Sz.sv,Sz.cells,List.map_cons,List.map_nil] at h1
 conv in fc _ _ _ _=>reduce
 simp -implicitDefEqProofs only [Sz.sv,Sz.cells,go_sem,Int.reduceNegSucc]
 have gV:=h1;repeat' (first | (simp -implicitDefEqProofs only [go_sem,Int.reduceNegSucc]) | (with_reducible refine aA ?_) | (with_reducible first | refine af gV ?_ | refine ag gV ?_) | ((first | refine ai (fun hg=>?_) (fun hg=>?_) | refine ax (fun hg=>?_) (fun hg=>?_) | refine ay (fun hg=>?_) (fun hg=>?_)) <;> try simp -implicitDefEqProofs only [hg,Bool.not_true,Bool.not_false]) | ((with_reducible apply And.intro);focus (first | trivial | omega | decide | (simp -implicitDefEqProofs only [maxLen];omega) | (simp [maxLen,ah,ak,an,av,aj,au,aq] <;> omega))) | fail)
 all_goals (try ((first | refine (hK _ _ _ _ [] (gO _ _) ?_).2 | refine (hK _ _ ?_).2 | refine (hK _ _ _ _ [] (gO _ _) ?_).1 | refine (hK _ _ ?_).1 | fail);clear hK;(simp_all [gZ,bW,newL,ia,gP,aR,aQ,lk,aV,fY,gk,ga,iD,iC,aB,hD,bf,aG,gw,hJ,iK,aH,iJ,aF,gB,fU,bB,Ts,Ao.cells]) <;> try omega))
end Go.aL

namespace Go.aL
open Go
theorem Pr:aU Go.Proofs.Tryz.prog 93 60 (fc Go.Proofs.Tryz.prog 93 60 [(.c 8 3 true),(.t 9)]) [(.c 8 3 true),(.t 9)]:=bl (by kernel_rfl)
theorem Pq:aU Go.Proofs.Tryz.prog 66 41 (fc Go.Proofs.Tryz.prog 66 41 [(.c 2 3 true),(.t 3)]) [(.c 2 3 true),(.t 3)]:=bl (by kernel_rfl)
def rE (i:Ai) (c:Ao→Bool) (s:Sz) (o:Ao):Option Ao:=if c o=true then (if mU i s=true then some (jd i s) else none) else some o
def uR (i:Ai):Option Ao:=if mU i i.wide=true then (rE i (fun o=>decide (o.w>i.most)) ⟨false,i.most⟩ (jd i i.wide)).bind (rE i (fun o=>decide (o.w<i.least)) ⟨false,i.least⟩) else none
def iB:Option Ao→Ao
 | some o=>o
 | none=>⟨0,0,0⟩
theorem Uw (i:Ai) (hf:Fit i) (hw:bR (bn i.wide 0)=true) (h1:bR i.least=true) (h2:bR i.most=true):aI Go.Proofs.Tryz.prog 93 [.fG 94 [i.sv],i.wide.sv,.rv (.int .i64 i.least),.rv (.int .i64 i.most)] [] [] (.aP [.agg ((iB (uR i)).cells.map .rv),.rv (.bool (uR i).isSome)]):=by
 refine bt Pr [.fG 94 [i.sv],i.wide.sv,.rv (.int .i64 i.least),.rv (.int .i64 i.most)] _ (by simp) (by simp [aO,DE,aW,bp,aS]) (fun K hK=>?_)
 have a0:=zK i i.wide hf (fun h=>by rwa [Cv h] at hw) 3 ⟨0,0,0⟩ 0
 have a1:=zK i ⟨false,i.most⟩ hf (fun _=>h2) 3 (jd i i.wide) (jd i i.wide).w
 have a2:=zK i ⟨false,i.least⟩ hf (fun _=>h1) 3 (jd i i.wide) (jd i i.wide).w
 have a3:=zK i ⟨false,i.least⟩ hf (fun _=>h1) 3 (jd i ⟨false,i.most⟩) (jd i ⟨false,i.most⟩).w
 unfold uR rE at hK
 simp -implicitDefEqProofs only [Ao.cells,Ai.sv,Sz.sv,Sz.cells,List.cons_append,List.nil_append,List.map_cons,List.map_nil] at a0 a1 a2 a3
 conv in fc _ _ _ _=>reduce
 simp -implicitDefEqProofs only [Ai.sv,Sz.sv,Sz.cells,go_sem,Int.reduceNegSucc]
 have aT:=a0;have y_2:=a1;have bA:=a2;have bC:=a3;repeat' (first | (simp -implicitDefEqProofs only [go_sem,Int.reduceNegSucc]) | (with_reducible refine aA ?_) | (refine bS aT ?_ ?_ ?_;(focus (simp [aY,aB] <;> fail));(focus (simp [bq,aX] <;> fail))) | (refine ck aT ?_ ?_ ?_;(focus (simp [aY,aB] <;> fail));(focus (simp [bq,aX] <;> fail))) | (refine bS y_2 ?_ ?_ ?_;(focus (simp [aY,aB] <;> fail));(focus (simp [bq,aX] <;> fail))) | (refine ck y_2 ?_ ?_ ?_;(focus (simp [aY,aB] <;> fail));(focus (simp [bq,aX] <;> fail))) | (refine bS bA ?_ ?_ ?_;(focus (simp [aY,aB] <;> fail));(focus (simp [bq,aX] <;> fail))) | (refine ck bA ?_ ?_ ?_;(focus (simp [aY,aB] <;> fail));(focus (simp [bq,aX] <;> fail))) | (refine bS bC ?_ ?_ ?_;(focus (simp [aY,aB] <;> fail));(focus (simp [bq,aX] <;> fail))) | (refine ck bC ?_ ?_ ?_;(focus (simp [aY,aB] <;> fail));(focus (simp [bq,aX] <;> fail))) | ((first | refine ai (fun hg=>?_) (fun hg=>?_) | refine ax (fun hg=>?_) (fun hg=>?_) | refine ay (fun hg=>?_) (fun hg=>?_)) <;> try simp -implicitDefEqProofs only [hg,Bool.not_true,Bool.not_false]) | ((with_reducible apply And.intro);focus (first | trivial | omega | decide | (simp -implicitDefEqProofs only [maxLen];omega) | (simp [maxLen,ah,ak,an,av,aj,au,aq] <;> omega))) | fail)
 all_goals (refine (hK _ _ ?_).2;clear hK;simp -implicitDefEqProofs only [go_sem,Int.reduceNegSucc,aQ,aR,aV,bf,aH,aG,aF,Ao.cells,iB] <;>(try simp_all [-Int.not_lt,-Int.not_le,aH,aG,aF,bB,Ao.cells,iB]) <;> try omega)
def sn (i:Ai):Bool:=bR i.base && bR i.around && bR (bn i.left 0) && bR (bn i.wide 0) && bR (bn i.right 0)
def nt (i:Ai):Option Ao:=if sn i=true then uR i else none
theorem EH {i:Ai} (h:sn i=true):Fit i∧bR (bn i.wide 0)=true:=by
 simp -implicitDefEqProofs only [sn,Bool.and_eq_true] at h
 obtain ⟨⟨⟨⟨a,b⟩,c⟩,d⟩,e⟩:=h
 exact ⟨⟨a,b,c,e⟩,d⟩
theorem Ut (i:Ai) (h1:bR i.least=true) (h2:bR i.most=true):aI Go.Proofs.Tryz.prog 66 [i.sv] [] [] (.aP [.agg ((iB (nt i)).cells.map .rv),.rv (.bool (nt i).isSome)]):=by
 refine bt Pq [i.sv] _ (by simp) (by simp [aO,aW,bp,aS,bg,aC.sv,Ln.sv,Nd.sv]) (fun K hK=>?_)
 have o1:=nj i.left 0
 have o2:=nj i.wide 0
 have o3:=nj i.right 0
 have f1:=mg i.base
 have f2:=mg i.around
 have f3:=mg (bn i.left 0)
 have f4:=mg (bn i.wide 0)
 have f5:=mg (bn i.right 0)
 cases h5:sn i with
 | true=>
   obtain ⟨hF,hw⟩:=EH h5
   have hb:=Uw i hF hw h1 h2
   rw [hF.b] at f1
   rw [hF.a] at f2
   rw [hF.l] at f3
   rw [hw] at f4
   rw [hF.r] at f5
   simp -implicitDefEqProofs only [nt,h5,if_true] at hK
   simp -implicitDefEqProofs only [Ai.sv,Ai.cells,Sz.sv,Sz.cells,List.map_cons,List.map_nil] at hb o1 o2 o3
   conv in fc _ _ _ _=>reduce
   simp -implicitDefEqProofs only [Ai.sv,Ai.cells,Sz.sv,Sz.cells,go_sem,Int.reduceNegSucc]
   have bH:=o1;have bJ:=o2;have bL:=o3;repeat' (first | (simp -implicitDefEqProofs only [go_sem,Int.reduceNegSucc]) | (with_reducible refine aA ?_) | (with_reducible first | refine af bH ?_ | refine ag bH ?_) | (with_reducible first | refine af bJ ?_ | refine ag bJ ?_) | (with_reducible first | refine af bL ?_ | refine ag bL ?_) | ((first | refine ai (fun hg=>?_) (fun hg=>?_) | refine ax (fun hg=>?_) (fun hg=>?_) | refine ay (fun hg=>?_) (fun hg=>?_)) <;> try simp -implicitDefEqProofs only [hg,Bool.not_true,Bool.not_false]) | ((with_reducible apply And.intro);focus (first | trivial | omega | decide | (simp -implicitDefEqProofs only [maxLen];omega) | (simp [maxLen,ah,ak,an,av,aj,au,aq] <;> omega))) | fail)
   refine jH 6 ?_
   have bQ:=f1;have bZ:=f2;have cm:=f3;have fO:=f4;have gj:=f5;have gQ:=hb;repeat' (first | (simp -implicitDefEqProofs only [go_sem,Int.reduceNegSucc,jM,jN,jO,jP,jQ,jR,jD,Int.reduceLT,decide_true,decide_false,Int.reduceToNat,Nat.reduceMul]) | (with_reducible refine aA ?_) | (with_reducible show G _ _ (It.l _ _::_) _ _ _;refine jG ?_) | (with_reducible first | refine af bQ ?_ | refine ag bQ ?_) | (with_reducible first | refine af bZ ?_ | refine ag bZ ?_) | (with_reducible first | refine af cm ?_ | refine ag cm ?_) | (with_reducible first | refine af fO ?_ | refine ag fO ?_) | (with_reducible first | refine af gj ?_ | refine ag gj ?_) | (with_reducible first | refine af gQ ?_ | refine ag gQ ?_) | ((first | refine ai (fun hg=>?_) (fun hg=>?_) | refine ax (fun hg=>?_) (fun hg=>?_) | refine ay (fun hg=>?_) (fun hg=>?_)) <;> try simp -implicitDefEqProofs only [hg,Bool.not_true,Bool.not_false]) | ((with_reducible apply And.intro);focus (first | trivial | omega | decide | (simp -implicitDefEqProofs only [maxLen];omega) | (simp [maxLen,ah,ak,an,av,aj,au,aq] <;> omega))) | fail)
   all_goals (refine (hK _ _ ?_).2;clear hK;simp -implicitDefEqProofs only [go_sem,Int.reduceNegSucc,aQ,aR,aV,bf,aH,aG,aF,Ao.cells] <;>(try simp_all [-Int.not_lt,-Int.not_le,aH,aG,aF,bB,Ao.cells]) <;> try omega)
 | false=>
   simp -implicitDefEqProofs only [nt,h5,Bool.false_eq_true,if_false] at hK
   simp -implicitDefEqProofs only [Ai.sv,Ai.cells,Sz.sv,Sz.cells,List.map_cons,List.map_nil] at o1 o2 o3
   conv in fc _ _ _ _=>reduce
   simp -implicitDefEqProofs only [Ai.sv,Ai.cells,Sz.sv,Sz.cells,go_sem,Int.reduceNegSucc]
   have gR:=o1;have gS:=o2;have gT:=o3;repeat' (first | (simp -implicitDefEqProofs only [go_sem,Int.reduceNegSucc]) | (with_reducible refine aA ?_) | (with_reducible first | refine af gR ?_ | refine ag gR ?_) | (with_reducible first | refine af gS ?_ | refine ag gS ?_) | (with_reducible first | refine af gT ?_ | refine ag gT ?_) | ((first | refine ai (fun hg=>?_) (fun hg=>?_) | refine ax (fun hg=>?_) (fun hg=>?_) | refine ay (fun hg=>?_) (fun hg=>?_)) <;> try simp -implicitDefEqProofs only [hg,Bool.not_true,Bool.not_false]) | ((with_reducible apply And.intro);focus (first | trivial | omega | decide | (simp -implicitDefEqProofs only [maxLen];omega) | (simp [maxLen,ah,ak,an,av,aj,au,aq] <;> omega))) | fail)
   refine jH 6 ?_
   have gU:=f1;have gV:=f2;have iM:=f3;have iN:=f4;have kk:=f5;repeat' (first | (simp -implicitDefEqProofs only [go_sem,Int.reduceNegSucc,jM,jN,jO,jP,jQ,jR,jD,Int.reduceLT,decide_true,decide_false,Int.reduceToNat,Nat.reduceMul]) | (with_reducible refine aA ?_) | (with_reducible show G _ _ (It.l _ _::_) _ _ _;refine jG ?_) | (with_reducible first | refine af gU ?_ | refine ag gU ?_) | (with_reducible first | refine af gV ?_ | refine ag gV ?_) | (with_reducible first | refine af iM ?_ | refine ag iM ?_) | (with_reducible first | refine af iN ?_ | refine ag iN ?_) | (with_reducible first | refine af kk ?_ | refine ag kk ?_) | ((first | refine ai (fun hg=>?_) (fun hg=>?_) | refine ax (fun hg=>?_) (fun hg=>?_) | refine ay (fun hg=>?_) (fun hg=>?_)) <;> try simp -implicitDefEqProofs only [hg,Bool.not_true,Bool.not_false]) | ((with_reducible apply And.intro);focus (first | trivial | omega | decide | (simp -implicitDefEqProofs only [maxLen];omega) | (simp [maxLen,ah,ak,an,av,aj,au,aq] <;> omega))) | fail)
   all_goals first | (exfalso;simp_all [sn];done) | skip
   all_goals (refine (hK _ _ ?_).2;clear hK;simp -implicitDefEqProofs only [go_sem,Int.reduceNegSucc,aQ,aR,aV,bf,aH,aG,aF,Ao.cells,iB] <;>(try simp_all [-Int.not_lt,-Int.not_le,aH,aG,aF,bB,Ao.cells,iB]) <;> try omega)
end Go.aL

namespace Go.aL
open Go
theorem QN:aU Go.Proofs.Tryz.prog 107 132 (fc Go.Proofs.Tryz.prog 107 132 [(.t 4)]) [(.t 4)]:=bl (by kernel_rfl)
theorem QO:aU Go.Proofs.Tryz.prog 79 23 (fc Go.Proofs.Tryz.prog 79 23 [(.c 4 7 true),(.t 5)]) [(.c 4 7 true),(.t 5)]:=bl (by kernel_rfl)
structure Ch where
 top:Su
 bottom:Su
 inner:Su
 through:Bool
 high:Int
 deriving Inhabited,DecidableEq
def Ch.cells (c:Ch):List RV:=[.int .i64 c.top.p,.int .i64 c.top.n,.int .i64 c.bottom.p,.int .i64 c.bottom.n,.int .i64 c.inner.p,.int .i64 c.inner.n,.bool c.through,.int .i64 c.high]
structure Pl where
 iF:Int
 top:Su
 cur:Su
 mo:Bool
 deriving Inhabited,DecidableEq
def Pl.cells (p:Pl):List RV:=[.int .i64 p.iF,.int .i64 p.top.p,.int .i64 p.top.n,.int .i64 p.cur.p,.int .i64 p.cur.n,.bool p.mo]
def gF (l:List Ch):List (List RV):=l.map Ch.cells
theorem oe (l:List Ch):(gF l).length=l.length:=by simp [gF]
theorem va {l:List Ch} {i:Nat} (h:i<l.length):(gF l)[i]?.getD []=(l[i]'h).cells:=by simp [gF,h]
def mu (c:Ch):Su:=if c.through=true then c.inner else c.top
def nO (p:Pl) (c:Ch):Int:=if p.mo=true then 0 else cv [p.iF,iT (fM p.cur (mu c))]
def qt (p:Pl) (c:Ch):Pl:=
 if p.mo=true then (if c.through=true then { p with top:=fM p.top c.top } else ⟨c.high,fM p.top c.top,c.bottom,false⟩)
 else if c.through=true then { p with cur:=fM p.cur c.top } else { p with iF:=cv [nO p c,c.high],cur:=c.bottom }
def ta (p:Pl) (c:Ch):Bool:=
 if p.mo=true then bR (qt p c).iF
 else nT (fM p.cur (mu c)) && fV [p.iF,iT (fM p.cur (mu c))] && (c.through || fV [nO p c,c.high])
def pP (m:Nat) (p:Pl) (ys:List Int):HB:=.var (.row m ys.length ys.length::p.cells.map .rv)
def lN (ys:List Int):HB:=.row 1 ys.length (aN (aM ys))
theorem UY (p:Pl) (c:Ch) (j m:Nat) (sF:j≠m) (ys:List Int) (hy:ys.length≤1000000):aI Go.Proofs.Tryz.prog 107 [.ptr j 0,.agg (c.cells.map .rv)] [(j,pP m p ys),(m,lN ys)]
 [(j,pP m (qt p c) (ys++[nO p c])),(m,lN (ys++[nO p c]))] (.rv (.bool (ta p c))):=by
 refine mV QN [j,m] [pP 1 p ys,lN ys] [pP m p ys,lN ys] [.ptr 0 0,.agg (c.cells.map .rv)] [.ptr j 0,.agg (c.cells.map .rv)] _ _ (by simp) (by simp [aO,lP,aW,bp]) rfl (by simp [bW,sF]) (by simp [ig,pP,lN,nQ,aO,aS,lD,bp]) (fun K hK=>?_)
 have j1:=uI p.top c.top
 have j2:=uI p.cur (mu c)
 have j3:=uI p.cur c.top
 have v1:=CY (fM p.cur (mu c))
 have s1:=fun id=>uF id [p.iF,iT (fM p.cur (mu c))] (by simp)
 have s2:=fun id=>uF id [cv [p.iF,iT (fM p.cur (mu c))],c.high] (by simp)
 have f1:=mg p.iF
 have f2:=mg c.high
 have hl:=aj ys
 have jk:(aM ys).take ys.length=aM ys:=List.take_of_length_le (by omega)
 have vC:∀ y:Int,(ys++[y]).length=ys.length+1:=fun y=>by simp
 simp -implicitDefEqProofs only [pP,lN,Pl.cells,qt,nO,ta,vC] at hK
 simp -implicitDefEqProofs only [lT,Su.sv,Su.cells,List.map_cons,List.map_nil,List.length_cons,List.length_nil,Nat.reduceAdd] at j1 j2 j3 v1 s1 s2
 conv in fc _ _ _ _=>reduce
 simp -implicitDefEqProofs only [pP,lN,Pl.cells,Ch.cells,go_sem,Int.reduceNegSucc]
 cases ha:p.mo <;> cases ht:c.through <;> simp -implicitDefEqProofs only [ha,ht,mu,Bool.false_eq_true,if_true,if_false,Bool.false_or,Bool.true_or,Bool.and_true] at hK j1 j2 j3 v1 s1 s2 ⊢
 all_goals ((have aT:=j1;have y_2:=j2;have bA:=j3;have bC:=v1;have bH:=s1;have bJ:=s2;have bL:=f1;have bQ:=f2;repeat' (first | (simp -implicitDefEqProofs only [go_sem,Int.reduceNegSucc,hl,jk,mL]) | (with_reducible refine aA ?_) | (with_reducible first | refine af aT ?_ | refine ag aT ?_) | (with_reducible first | refine af y_2 ?_ | refine ag y_2 ?_) | (with_reducible first | refine af bA ?_ | refine ag bA ?_) | (with_reducible first | refine af bC ?_ | refine ag bC ?_) | ((first | refine bS (bH _) ?_ ?_ ?_ | refine ck (bH _) ?_ ?_ ?_ | fail);(focus (simp [aY,aB] <;> fail));(focus (simp [bq,aX] <;> fail))) | ((first | refine bS (bJ _) ?_ ?_ ?_ | refine ck (bJ _) ?_ ?_ ?_ | fail);(focus (simp [aY,aB] <;> fail));(focus (simp [bq,aX] <;> fail))) | (with_reducible first | refine af bL ?_ | refine ag bL ?_) | (with_reducible first | refine af bQ ?_ | refine ag bQ ?_) | ((first | refine ai (fun hg=>?_) (fun hg=>?_) | refine ax (fun hg=>?_) (fun hg=>?_) | refine ay (fun hg=>?_) (fun hg=>?_)) <;> try simp -implicitDefEqProofs only [hg,Bool.not_true,Bool.not_false]) | ((with_reducible apply And.intro);focus (first | trivial | omega | decide | (simp -implicitDefEqProofs only [maxLen];omega) | (simp [maxLen,ah,ak,an,av,aj,au,aq] <;> omega))) | fail)))
 all_goals (refine (hK _ _ _ _ [] (gO _ _) ?_).2;clear hK j1 j2 j3 v1 s1 s2 f1 f2;simp [gZ,bW,newL,ia,gP,aR,aQ,lk,aV,fY,gk,ga,iD,iC,aB,hD,bf,aG,gw,hJ,iK,aH,iJ,aF,gB,fU,sF,Ne.symm sF] <;> simp_all)
def nR:List Ch→Pl→List Int→Option (Pl×List Int)
 | [],p,ys=>some (p,ys)
 | c::l,p,ys=>if ta p c=true then nR l (qt p c) (ys++[nO p c]) else none
def jy (l:List Ch) (o:Bool):Option (Pl×List Int):=nR l ⟨0,⟨0,0⟩,⟨0,0⟩,o⟩ []
def mc (m:Nat):Option (Pl×List Int)→SV
 | some q=>.agg (.row m q.2.length q.2.length::q.1.cells.map .rv)
 | none=>.agg [.rv .cr,.rv (.int .i64 0),.rv (.int .i64 0),.rv (.int .i64 0),.rv (.int .i64 0),.rv (.int .i64 0),.rv (.bool false)]
def kP (m:Nat):Option (Pl×List Int)→List (Nat×HB)
 | some q=>[(m,lN q.2)]
 | none=>[]
theorem Uq (l:List Ch) (o:Bool) (hb:l.length≤1000000) (m:Nat):aI Go.Proofs.Tryz.prog 79 [.rv (.sl 8 (gF l)),.rv (.bool o)] [] (kP m (jy l o)) (.aP [mc m (jy l o),.rv (.bool (jy l o).isSome)]):=by
 refine mV QO [] [] [] [.rv (.sl 8 (gF l)),.rv (.bool o)] [.rv (.sl 8 (gF l)),.rv (.bool o)] _ _ (by simp) (by simp [aO,aS]) rfl (by simp [bW]) (by simp [ig]) (fun K hK=>?_)
 have hl:=oe l
 conv in fc _ _ _ _=>reduce
 simp -implicitDefEqProofs only [go_sem,Int.reduceNegSucc]
 repeat' (first | (simp -implicitDefEqProofs only [go_sem,Int.reduceNegSucc,hl]) | (with_reducible refine aA ?_) | ((first | refine ai (fun hg=>?_) (fun hg=>?_) | refine ax (fun hg=>?_) (fun hg=>?_) | refine ay (fun hg=>?_) (fun hg=>?_)) <;> try simp -implicitDefEqProofs only [hg,Bool.not_true,Bool.not_false]) | ((with_reducible apply And.intro);focus (first | trivial | omega | decide | (simp -implicitDefEqProofs only [maxLen];omega) | (simp [maxLen,ah,ak,an,av,aj,au,aq] <;> omega))) | fail)
 refine fE (ι:=Nat×Pl×List Int) (fun q=>[(13,.rv (.int .i64 q.1)),(12,.rv (.int .i64 l.length)),(11,.rv (.sl 8 (gF l))),(6,.ptr 1 0),(4,.ptr 0 0)]) (fun q=>[some (.var [.rv .cr,.rv (.int .i64 0),.rv (.int .i64 0),.rv (.int .i64 0),.rv (.int .i64 0),.rv (.int .i64 0),.rv (.bool false)]),some (pP 2 q.2.1 q.2.2),some (lN q.2.2)])
  (fun q=>q.1≤l.length∧q.2.2.length=q.1∧nR (l.drop q.1) q.2.1 q.2.2=jy l o) (fun q=>l.length - q.1) (0,⟨0,⟨0,0⟩,⟨0,0⟩,o⟩,[]) ⟨Nat.zero_le _,rfl,rfl⟩ ((tM 1 1 0 rfl rfl).trans (bh (by simp [lk,aX]))) (fun q hq K' hN hX hR=>?_)
 obtain ⟨k,p,ys⟩:=q
 obtain ⟨fJ,hk2,gd⟩:=hq
 dsimp only at fJ hk2 gd ⊢
 simp -implicitDefEqProofs only [go_sem,Int.reduceNegSucc]
 refine ai (fun hg=>?_) (fun hg=>?_)
 ·have aE:k<l.length:=by simp at hg;omega
  have wu:=cz (k:=k) (by omega)
  have hx:=va aE
  have hp:=UY p l[k] 1 2 (by decide) ys (by omega)
  rw [List.drop_eq_getElem_cons aE,nR] at gd
  generalize l[k]=c at *
  have q1:(c.cells.map SV.rv).take 8=c.cells.map SV.rv:=rfl
  have q2:c.cells.take 8=c.cells:=rfl
  have q3:(c.cells.map SV.rv).length=8:=rfl
  have q4:(c.cells.map SV.rv).drop 8=[]:=rfl
  have q5:c.cells.length=8:=rfl
  cases hok:ta p c with
  | true=>
    rw [hok] at hp
    rw [if_pos hok] at gd
    have bZ:=hp;repeat' (first | (simp -implicitDefEqProofs only [go_sem,Int.reduceNegSucc,hl,hx,q1,q2,q3,q4,q5,wu]) | (with_reducible refine aA ?_) | (refine bS bZ ?_ ?_ ?_;(focus (simp [aY,aB] <;> fail));(focus (simp [bq,aX] <;> fail))) | (refine ck bZ ?_ ?_ ?_;(focus (simp [aY,aB] <;> fail));(focus (simp [bq,aX] <;> fail))) | ((first | refine ai (fun hg=>?_) (fun hg=>?_) | refine ax (fun hg=>?_) (fun hg=>?_) | refine ay (fun hg=>?_) (fun hg=>?_)) <;> try simp -implicitDefEqProofs only [hg,Bool.not_true,Bool.not_false]) | ((with_reducible apply And.intro);focus (first | trivial | omega | decide | (simp -implicitDefEqProofs only [maxLen];omega) | (simp [maxLen,ah,ak,an,av,aj,au,aq] <;> omega))) | fail)
    exact hN (k+1,qt p c,ys++[nO p c]) _ _ ⟨by dsimp only;omega,by simp [hk2],gd⟩ (by dsimp only;omega) (nA (h':=[some (.var [.rv .cr,.rv (.int .i64 0),.rv (.int .i64 0),.rv (.int .i64 0),.rv (.int .i64 0),.rv (.int .i64 0),.rv (.bool false)]),some (pP 2 (qt p c) (ys++[nO p c])),some (lN (ys++[nO p c]))]) (Nat.zero_le _) ⟨jE (rs:=[.cr,.int .i64 0,.int .i64 0,.int .i64 0,.int .i64 0,.int .i64 0,.bool false]),⟨jF.2 (by simp),jE⟩,iV,trivial⟩ (by simp [ij,lk,jU,lQ]))
  | false=>
    rw [hok] at hp
    rw [if_neg (by rw [hok];simp)] at gd
    have cm:=hp;repeat' (first | (simp -implicitDefEqProofs only [go_sem,Int.reduceNegSucc,hl,hx,q1,q2,q3,q4,q5,wu]) | (with_reducible refine aA ?_) | (refine bS cm ?_ ?_ ?_;(focus (simp [aY,aB] <;> fail));(focus (simp [bq,aX] <;> fail))) | (refine ck cm ?_ ?_ ?_;(focus (simp [aY,aB] <;> fail));(focus (simp [bq,aX] <;> fail))) | ((first | refine ai (fun hg=>?_) (fun hg=>?_) | refine ax (fun hg=>?_) (fun hg=>?_) | refine ay (fun hg=>?_) (fun hg=>?_)) <;> try simp -implicitDefEqProofs only [hg,Bool.not_true,Bool.not_false]) | ((with_reducible apply And.intro);focus (first | trivial | omega | decide | (simp -implicitDefEqProofs only [maxLen];omega) | (simp [maxLen,ah,ak,an,av,aj,au,aq] <;> omega))) | fail)
    refine hR _ _ (hK _ _ _ _ [] (gO _ _) ?_).2
    rw [← gd]
    simp [gZ,bW,newL,ia,gP,aR,aQ,lk,aV,fY,gk,ga,iD,iC,aB,hD,bf,aG,gw,hJ,iK,aH,iJ,aF,gB,fU,iz,mc,kP,Pl.cells,aH,aF]
 ·have aE:k=l.length:=by simp at hg;omega
  subst aE
  simp -implicitDefEqProofs only [go_sem,Int.reduceNegSucc]
  refine hX _ _ _ ?_
  rw [List.drop_length,nR] at gd
  simp -implicitDefEqProofs only [pP,lN,Pl.cells,go_sem,Int.reduceNegSucc]
  repeat' (first | (simp -implicitDefEqProofs only [go_sem,Int.reduceNegSucc]) | (with_reducible refine aA ?_) | ((first | refine ai (fun hg=>?_) (fun hg=>?_) | refine ax (fun hg=>?_) (fun hg=>?_) | refine ay (fun hg=>?_) (fun hg=>?_)) <;> try simp -implicitDefEqProofs only [hg,Bool.not_true,Bool.not_false]) | ((with_reducible apply And.intro);focus (first | trivial | omega | decide | (simp -implicitDefEqProofs only [maxLen];omega) | (simp [maxLen,ah,ak,an,av,aj,au,aq] <;> omega))) | fail)
  refine (hK _ _ _ _ [none,none,some m] (gO _ _) ?_).2
  rw [← gd]
  simp [gZ,bW,newL,ia,gP,aR,aQ,lk,aV,fY,gk,ga,iD,iC,aB,hD,bf,aG,gw,hJ,iK,aH,iJ,aF,gB,fU,iz,mc,kP,Pl.cells,lN,aH,aF]
theorem AV {cs:List SV} (h:∀ y∈cs,iL y):iL (.agg cs):=.agg _ fun j y hy=>h y (List.mem_of_getElem? hy)
theorem EI {cs:List SV} (h:∀ y∈cs,iL y):iL (.aP cs):=.aP _ fun j y hy=>h y (List.mem_of_getElem? hy)
theorem Tf (p:Pl):∀ r∈p.cells,jA r:=by
 intro r hr
 simp -implicitDefEqProofs only [Pl.cells,List.mem_cons,List.not_mem_nil,or_false] at hr
 rcases hr with rfl | rfl | rfl | rfl | rfl | rfl <;> first | exact .int _ _ | exact .bool _
theorem Kf (ys:List Int):oS (lN ys):=.row _ _ _ fun i x j y hx hy=>by
 simp -implicitDefEqProofs only [aN,List.getElem?_map,Option.map_eq_some_iff,aM] at hx
 obtain ⟨a,⟨b,_,rfl⟩,rfl⟩:=hx
 cases j with
 | zero=>simp at hy;subst hy;exact .rv _ (.int _ _)
 | succ j=>simp at hy
theorem HO (m:Nat) (o:Option (Pl×List Int)):iL (mc m o):=by
 cases o with
 | none=>
   refine AV fun y hy=>?_
   simp -implicitDefEqProofs only [List.mem_cons,List.not_mem_nil,or_false] at hy
   rcases hy with rfl | rfl | rfl | rfl | rfl | rfl | rfl <;> exact .rv _ (by constructor)
 | some q=>
   refine AV fun y hy=>?_
   rcases List.mem_cons.1 hy with rfl | hy
   ·exact .row _ _ _
   ·obtain ⟨r,hr,rfl⟩:=List.mem_map.1 hy
    exact .rv _ (Tf _ r hr)
theorem Ur (l:List Ch) (o:Bool) (hb:l.length≤1000000) (j v m:Nat) (sF:j≠m):aI Go.Proofs.Tryz.prog 79 [.row j v l.length,.rv (.bool o)] [(j,.row 8 v (aN (gF l)))] (kP m (jy l o)) (.aP [mc m (jy l o),.rv (.bool (jy l o).isSome)]):=by
 refine uY (iU:=[.rv (.sl 8 (gF l)),.rv (.bool o)]) (Uq l o hb m) rfl (fun hp hpre k y r hy hr=>?_) (EI fun y hy=>?_) (fun q hq=>?_)
 ·match k with
  | 0=>
    cases hy;cases hr
    have:=om (h:=hp) (τ:=fun _=>none) (j:=j) (e:=8) (az:=v) (len:=l.length) (xs:=gF l) (hpre _ (.head _)) rfl (by rw [oe];omega) (fun x hx r hr=>by
     obtain ⟨c,_,rfl⟩:=List.mem_map.1 hx
     simp -implicitDefEqProofs only [Ch.cells,List.mem_cons,List.not_mem_nil,or_false] at hr
     rcases hr with rfl | rfl | rfl | rfl | rfl | rfl | rfl | rfl <;> rfl)
    rw [List.take_of_length_le (by rw [oe];omega)] at this
    exact .fz _ _ this
  | 1=>cases hy;cases hr;exact aG.2 rfl
  | k+2=>simp at hy
 ·simp -implicitDefEqProofs only [List.mem_cons,List.not_mem_nil,or_false] at hy
  rcases hy with rfl | rfl
  ·exact HO _ _
  ·exact .rv _ (.bool _)
 ·revert hq
  cases jy l o with
  | none=>simp [kP]
  | some z=>
    simp -implicitDefEqProofs only [kP,List.mem_singleton]
    rintro rfl
    refine ⟨Kf _,fun p hp=>?_⟩
    subst hp
    exact sF
end Go.aL

namespace Go.aL
open Go
theorem PW:aU Go.Proofs.Tryz.prog 68 34 (fc Go.Proofs.Tryz.prog 68 34 [(.c 4 8 true),(.t 5)]) [(.c 4 8 true),(.t 5)]:=bl (by kernel_rfl)
theorem PX:aU Go.Proofs.Tryz.prog 73 36 (fc Go.Proofs.Tryz.prog 73 36 [(.c 2 2 true)]) [(.c 2 2 true)]:=bl (by kernel_rfl)
theorem rA (x:Ln) (b:Int) (has:Bool):aI Go.Proofs.Tryz.prog 35 [x.sv,.rv (.int .i64 b),.rv (.bool has)] [] [] (.aP [(fT x b has).sv,.rv (.bool (gX x b has))]):=by
 refine bt PU [x.sv,.rv (.int .i64 b),.rv (.bool has)] _ (by simp) (by simp [aO,aW,bp,aS,bg,aC.sv,Ln.sv,Nd.sv]) (fun K hK=>?_)
 have hf:=kj x.n
 have hp:=Vb b x.n
 conv in fc _ _ _ _=>reduce
 simp -implicitDefEqProofs only [Ln.sv,Ln.cells,Sz.sv,Sz.cells,go_sem,Int.reduceNegSucc]
 have aT:=hf;have y_2:=hp;repeat' (first | (simp -implicitDefEqProofs only [go_sem,Int.reduceNegSucc]) | (with_reducible refine aA ?_) | (with_reducible first | refine af aT ?_ | refine ag aT ?_) | (with_reducible first | refine af y_2 ?_ | refine ag y_2 ?_) | ((first | refine ai (fun hg=>?_) (fun hg=>?_) | refine ax (fun hg=>?_) (fun hg=>?_) | refine ay (fun hg=>?_) (fun hg=>?_)) <;> try simp -implicitDefEqProofs only [hg,Bool.not_true,Bool.not_false]) | ((with_reducible apply And.intro);focus (first | trivial | omega | decide | (simp -implicitDefEqProofs only [maxLen];omega) | (simp [maxLen,ah,ak,an,av,aj,au,aq] <;> omega))) | fail)
 all_goals (refine (hK _ _ ?_).2;clear hK;simp -implicitDefEqProofs only [go_sem,Int.reduceNegSucc,aQ,aR,aV,bf,aH,aG,aF,Sz.sv,Sz.cells,fT,gX,lM] <;>(try simp_all [-Int.not_lt,-Int.not_le,aH,aG,aF,bB,Sz.sv,Sz.cells,fT,gX,lM]) <;> try omega)
theorem IF (q:Q4 Ln) (b:Int):aI Go.Proofs.Tryz.prog 68 [.agg (q.pO.map .rv),.rv (.int .i64 b)] [] [] (.aP [.agg ((mM q b).hU.map .rv),.rv (.bool (oM q b))]):=by
 refine bt PW [.agg (q.pO.map .rv),.rv (.int .i64 b)] _ (by simp) (by simp [aO,aW,bp,aS,bg,aC.sv,Ln.sv,Nd.sv]) (fun K hK=>?_)
 have ha:=rA q.a b true
 have hb:=rA q.b b true
 have hc:=rA q.c b true
 have hd:=rA q.d b true
 conv in fc _ _ _ _=>reduce
 simp -implicitDefEqProofs only [Q4.pO,Ln.sv,Ln.cells,Sz.sv,Sz.cells,go_sem,Int.reduceNegSucc] at *
 repeat' (first | (simp -implicitDefEqProofs only [go_sem,Int.reduceNegSucc]) | (with_reducible refine aA ?_) | ((first | refine ai (fun hg=>?_) (fun hg=>?_) | refine ax (fun hg=>?_) (fun hg=>?_) | refine ay (fun hg=>?_) (fun hg=>?_)) <;> try simp -implicitDefEqProofs only [hg,Bool.not_true,Bool.not_false]) | ((with_reducible apply And.intro);focus (first | trivial | omega | decide | (simp -implicitDefEqProofs only [maxLen];omega) | (simp [maxLen,ah,ak,an,av,aj,au,aq] <;> omega))) | fail)
 refine jH 5 ?_
 have bA:=ha;have bC:=hb;have bH:=hc;have bJ:=hd;repeat' (first | (simp -implicitDefEqProofs only [go_sem,Int.reduceNegSucc,jM,jN,jO,jP,jQ,jR,jD,Int.reduceLT,decide_true,decide_false,Int.reduceToNat,Nat.reduceMul]) | (with_reducible refine aA ?_) | (with_reducible show G _ _ (It.l _ _::_) _ _ _;refine jG ?_) | (with_reducible first | refine af bA ?_ | refine ag bA ?_) | (with_reducible first | refine af bC ?_ | refine ag bC ?_) | (with_reducible first | refine af bH ?_ | refine ag bH ?_) | (with_reducible first | refine af bJ ?_ | refine ag bJ ?_) | ((first | refine ai (fun hg=>?_) (fun hg=>?_) | refine ax (fun hg=>?_) (fun hg=>?_) | refine ay (fun hg=>?_) (fun hg=>?_)) <;> try simp -implicitDefEqProofs only [hg,Bool.not_true,Bool.not_false]) | ((with_reducible apply And.intro);focus (first | trivial | omega | decide | (simp -implicitDefEqProofs only [maxLen];omega) | (simp [maxLen,ah,ak,an,av,aj,au,aq] <;> omega))) | fail)
 all_goals (refine (hK _ _ ?_).2;clear hK;simp -implicitDefEqProofs only [go_sem,Int.reduceNegSucc,aQ,aR,aV,bf,aH,aG,aF,mM,oM,wN,Q4.hU] <;>(try simp_all [-Int.not_lt,-Int.not_le,aH,aG,aF,bB,mM,oM,wN,Q4.hU]) <;> try omega)
theorem IE (x y:Ln) (b:Int) (has:Bool):aI Go.Proofs.Tryz.prog 36 [x.sv,y.sv,.rv (.int .i64 b),.rv (.bool has)] [] [] (.aP [.rv (.int .i64 (bn (fT x b has) 0)),.rv (.int .i64 (bn (fT y b has) 1125899906842624)),.rv (.bool (gX x b has && gX y b has))]):=by
 refine bt PT [x.sv,y.sv,.rv (.int .i64 b),.rv (.bool has)] _ (by simp) (by simp [aO,aW,bp,aS,bg,aC.sv,Ln.sv,Nd.sv]) (fun K hK=>?_)
 have h1:=rA x b has
 have h2:=rA y b has
 have o1:=oN (fT x b has) 0
 have o2:=oN (fT y b has) 1125899906842624
 generalize fT x b has=X at *
 generalize fT y b has=Y at *
 conv in fc _ _ _ _=>reduce
 simp -implicitDefEqProofs only [Ln.sv,Ln.cells,Sz.sv,Sz.cells,go_sem,Int.reduceNegSucc] at *
 have bL:=h1;have bQ:=h2;have bZ:=o1;have cm:=o2;repeat' (first | (simp -implicitDefEqProofs only [go_sem,Int.reduceNegSucc]) | (with_reducible refine aA ?_) | (with_reducible first | refine af bL ?_ | refine ag bL ?_) | (with_reducible first | refine af bQ ?_ | refine ag bQ ?_) | (with_reducible first | refine af bZ ?_ | refine ag bZ ?_) | (with_reducible first | refine af cm ?_ | refine ag cm ?_) | ((first | refine ai (fun hg=>?_) (fun hg=>?_) | refine ax (fun hg=>?_) (fun hg=>?_) | refine ay (fun hg=>?_) (fun hg=>?_)) <;> try simp -implicitDefEqProofs only [hg,Bool.not_true,Bool.not_false]) | ((with_reducible apply And.intro);focus (first | trivial | omega | decide | (simp -implicitDefEqProofs only [maxLen];omega) | (simp [maxLen,ah,ak,an,av,aj,au,aq] <;> omega))) | fail)
 all_goals (refine (hK _ _ ?_).2;clear hK;simp -implicitDefEqProofs only [go_sem,Int.reduceNegSucc,aQ,aR,aV,bf,aH,aG,aF] <;>(try simp_all [-Int.not_lt,-Int.not_le,aH,aG,aF,bB]) <;> try omega)
theorem Vn (x:Int):aI Go.Proofs.Tryz.prog 73 [.rv (.sl 1 [[.int .i64 x]])] [] [] (Su.sv ⟨max x 0,min x 0⟩):=by
 refine bt PX [.rv (.sl 1 [[.int .i64 x]])] _ (by simp) (by simp [aO,aW,bp,aS,bg,aC.sv,Ln.sv,Nd.sv]) (fun K hK=>?_)
 conv in fc _ _ _ _=>reduce
 simp -implicitDefEqProofs only [go_sem,Int.reduceNegSucc]
 repeat' (first | (simp -implicitDefEqProofs only [go_sem,Int.reduceNegSucc]) | (with_reducible refine aA ?_) | ((first | refine ai (fun hg=>?_) (fun hg=>?_) | refine ax (fun hg=>?_) (fun hg=>?_) | refine ay (fun hg=>?_) (fun hg=>?_)) <;> try simp -implicitDefEqProofs only [hg,Bool.not_true,Bool.not_false]) | ((with_reducible apply And.intro);focus (first | trivial | omega | decide | (simp -implicitDefEqProofs only [maxLen];omega) | (simp [maxLen,ah,ak,an,av,aj,au,aq] <;> omega))) | fail)
 refine jH 2 ?_
 repeat' (first | (simp -implicitDefEqProofs only [go_sem,Int.reduceNegSucc,jM,jN,jO,jP,jQ,jR,jD,Int.reduceLT,decide_true,decide_false,Int.reduceToNat,Nat.reduceMul]) | (with_reducible refine aA ?_) | (with_reducible show G _ _ (It.l _ _::_) _ _ _;refine jG ?_) | ((first | refine ai (fun hg=>?_) (fun hg=>?_) | refine ax (fun hg=>?_) (fun hg=>?_) | refine ay (fun hg=>?_) (fun hg=>?_)) <;> try simp -implicitDefEqProofs only [hg,Bool.not_true,Bool.not_false]) | ((with_reducible apply And.intro);focus (first | trivial | omega | decide | (simp -implicitDefEqProofs only [maxLen];omega) | (simp [maxLen,ah,ak,an,av,aj,au,aq] <;> omega))) | fail)
 all_goals (refine (hK _ _ ?_).2;clear hK;simp -implicitDefEqProofs only [go_sem,Int.reduceNegSucc,aQ,aR,aV,bf,aH,aG,aF,Su.sv,Su.cells] <;>(try simp_all [-Int.not_lt,-Int.not_le,aH,aG,aF,bB,Su.sv,Su.cells]) <;> try omega)
theorem IG (x:Int) (id:Nat):aI Go.Proofs.Tryz.prog 73 [.row id 0 1] [(id,.row 1 0 [[.rv (.int .i64 x)]])] [] (Su.sv ⟨max x 0,min x 0⟩):=by
 refine uY (iU:=[.rv (.sl 1 [[.int .i64 x]])]) (Vn x) rfl (fun hp hpre k y r hy hr=>?_) (AV fun y hy=>?_) (by simp)
 ·match k with
  | 0=>
    cases hy;cases hr
    have:=om (h:=hp) (τ:=fun _=>none) (j:=id) (e:=1) (az:=0) (len:=1) (xs:=[[.int .i64 x]]) (hpre _ (.head _)) rfl (by simp) (by simp;rfl)
    exact .fz _ _ this
  | k+1=>simp at hy
 ·simp -implicitDefEqProofs only [Su.cells,List.map_cons,List.map_nil,List.mem_cons,List.not_mem_nil,or_false] at hy
  rcases hy with rfl | rfl <;> exact .rv _ (.int _ _)
end Go.aL

namespace Go.aL
open Go
theorem Qb:aU Go.Proofs.Tryz.prog 75 24 (fc Go.Proofs.Tryz.prog 75 24 [(.t 4)]) [(.t 4)]:=bl (by kernel_rfl)
theorem Qa:aU Go.Proofs.Tryz.prog 45 145 (fc Go.Proofs.Tryz.prog 45 145 [(.c 4 7 true),(.t 5)]) [(.c 4 7 true),(.t 5)]:=bl (by kernel_rfl)
def kG:List Ch→Nat
 | []=>0
 | c::l=>if c.through=true then kG l+1 else 1
def gM (l:List Ch) (o:Bool):Nat:=if o=true then kG l else 0
theorem zU:∀ l:List Ch,kG l≤l.length
 | []=>Nat.le_refl _
 | c::l=>by have:=zU l;simp -implicitDefEqProofs only [kG,List.length_cons];split <;> omega
theorem Jg:∀ (l:List Ch) (i:Nat) (h:i<l.length),i+1<kG l→l[i].through=true
 | c::l,0,h,h1=>by simp -implicitDefEqProofs only [kG] at h1;split at h1 <;> simp_all
 | c::l,i+1,h,h1=>by
   simp -implicitDefEqProofs only [kG] at h1
   split at h1
   ·exact Jg l i (by simpa using h) (by omega)
   ·omega
theorem Jf:∀ (l:List Ch) (h:kG l<l.length),∃ h0:kG l - 1<l.length,0<kG l∧(l[kG l - 1]'h0).through=false
 | c::l,h=>by
   simp -implicitDefEqProofs only [kG] at h ⊢
   split
   ·rename_i hc
    rw [if_pos hc] at h
    obtain ⟨h0,h1,h2⟩:=Jf l (by simpa using h)
    refine ⟨by simp;omega,by omega,?_⟩
    have:kG l+1 - 1=(kG l - 1)+1:=by omega
    simp -implicitDefEqProofs only [this,List.getElem_cons_succ]
    exact h2
   ·rename_i hc
    exact ⟨by simp,by omega,by simpa using hc⟩
theorem DV (c:Ch):(c.cells.map SV.rv)[6]?=some (.rv (.bool c.through)):=rfl
theorem Lr (c:Ch):c.cells[6]?=some (.bool c.through):=rfl
theorem xT (c:Ch):(c.cells.drop 6)[0]?=some (.bool c.through):=rfl
theorem Vq (l:List Ch) (o:Bool) (hb:l.length≤1000000):aI Go.Proofs.Tryz.prog 75 [.rv (.sl 8 (gF l)),.rv (.bool o)] [] [] (.rv (.int .i64 (gM l o))):=by
 refine bt Qb [.rv (.sl 8 (gF l)),.rv (.bool o)] _ (by simp) (by simp [aO,aW,bp,aS,bg,aC.sv,Ln.sv,Nd.sv]) (fun K hK=>?_)
 have hl:=oe l
 conv in fc _ _ _ _=>reduce
 simp -implicitDefEqProofs only [go_sem,Int.reduceNegSucc]
 cases o with
 | false=>
   repeat' (first | (simp -implicitDefEqProofs only [go_sem,Int.reduceNegSucc]) | (with_reducible refine aA ?_) | ((first | refine ai (fun hg=>?_) (fun hg=>?_) | refine ax (fun hg=>?_) (fun hg=>?_) | refine ay (fun hg=>?_) (fun hg=>?_)) <;> try simp -implicitDefEqProofs only [hg,Bool.not_true,Bool.not_false]) | ((with_reducible apply And.intro);focus (first | trivial | omega | decide | (simp -implicitDefEqProofs only [maxLen];omega) | (simp [maxLen,ah,ak,an,av,aj,au,aq] <;> omega))) | fail)
   exact (hK _ _ (bO rfl)).2
 | true=>
   simp -implicitDefEqProofs only [gM,if_true] at hK
   repeat' (first | (simp -implicitDefEqProofs only [go_sem,Int.reduceNegSucc,hl]) | (with_reducible refine aA ?_) | ((first | refine ai (fun hg=>?_) (fun hg=>?_) | refine ax (fun hg=>?_) (fun hg=>?_) | refine ay (fun hg=>?_) (fun hg=>?_)) <;> try simp -implicitDefEqProofs only [hg,Bool.not_true,Bool.not_false]) | ((with_reducible apply And.intro);focus (first | trivial | omega | decide | (simp -implicitDefEqProofs only [maxLen];omega) | (simp [maxLen,ah,ak,an,av,aj,au,aq] <;> omega))) | fail)
   refine fE (ι:=Nat) (fun k=>[(10,.rv (.int .i64 k)),(9,.rv (.int .i64 l.length)),(0,.rv (.sl 8 (gF l)))]) (fun _=>[]) (fun k=>k≤l.length∧kG l=k+kG (l.drop k)) (fun k=>l.length - k) 0 ⟨Nat.zero_le _,by simp⟩ (bh (by simp [lk])) (fun k hk K' hN hX hR=>?_)
   obtain ⟨fJ,hk2⟩:=hk
   simp -implicitDefEqProofs only [go_sem,Int.reduceNegSucc]
   refine ai (fun hg=>?_) (fun hg=>?_)
   ·have aE:k<l.length:=by simp at hg;omega
    have wu:=cz (k:=k) (by omega)
    have hx:=va aE
    rw [List.drop_eq_getElem_cons aE,kG] at hk2
    generalize l[k]=c at *
    have q1:=DV c
    have q3:=xT c
    have q2:c.cells.length=8:=rfl
    cases hc:c.through with
    | true=>
      rw [hc] at q1 hk2 q3
      simp -implicitDefEqProofs only [if_true] at hk2
      repeat' (first | (simp -implicitDefEqProofs only [go_sem,Int.reduceNegSucc,hl,hx,q1,q2,q3,wu,List.length_drop]) | (with_reducible refine aA ?_) | ((first | refine ai (fun hg=>?_) (fun hg=>?_) | refine ax (fun hg=>?_) (fun hg=>?_) | refine ay (fun hg=>?_) (fun hg=>?_)) <;> try simp -implicitDefEqProofs only [hg,Bool.not_true,Bool.not_false]) | ((with_reducible apply And.intro);focus (first | trivial | omega | decide | (simp -implicitDefEqProofs only [maxLen];omega) | (simp [maxLen,ah,ak,an,av,aj,au,aq] <;> omega))) | fail)
      exact hN (k+1) _ _ ⟨by omega,by omega⟩ (by omega) (bh (by simp [lk]))
    | false=>
      rw [hc] at q1 hk2 q3
      simp -implicitDefEqProofs only [Bool.false_eq_true,if_false] at hk2
      repeat' (first | (simp -implicitDefEqProofs only [go_sem,Int.reduceNegSucc,hl,hx,q1,q2,q3,wu,List.length_drop]) | (with_reducible refine aA ?_) | ((first | refine ai (fun hg=>?_) (fun hg=>?_) | refine ax (fun hg=>?_) (fun hg=>?_) | refine ay (fun hg=>?_) (fun hg=>?_)) <;> try simp -implicitDefEqProofs only [hg,Bool.not_true,Bool.not_false]) | ((with_reducible apply And.intro);focus (first | trivial | omega | decide | (simp -implicitDefEqProofs only [maxLen];omega) | (simp [maxLen,ah,ak,an,av,aj,au,aq] <;> omega))) | fail)
      exact hR _ _ (hK _ _ (bO (by simp [lk,hk2]))).2
   ·have aE:k=l.length:=by simp at hg;omega
    subst aE
    simp -implicitDefEqProofs only [go_sem,Int.reduceNegSucc]
    refine hX _ _ _ ?_
    repeat' (first | (simp -implicitDefEqProofs only [go_sem,Int.reduceNegSucc,hl]) | (with_reducible refine aA ?_) | ((first | refine ai (fun hg=>?_) (fun hg=>?_) | refine ax (fun hg=>?_) (fun hg=>?_) | refine ay (fun hg=>?_) (fun hg=>?_)) <;> try simp -implicitDefEqProofs only [hg,Bool.not_true,Bool.not_false]) | ((with_reducible apply And.intro);focus (first | trivial | omega | decide | (simp -implicitDefEqProofs only [maxLen];omega) | (simp [maxLen,ah,ak,an,av,aj,au,aq] <;> omega))) | fail)
    exact (hK _ _ (bO (by simp [lk,hk2,kG]))).2
def lC (l:List Ch) (o:Bool):Bool:=o && (gM l o == 0 || ((l[gM l o - 1]?).map (·.through)).getD false)
theorem Dz {l:List Ch} {o:Bool} (h:lC l o=true):o=true∧gM l o=l.length:=by
 simp -implicitDefEqProofs only [lC,Bool.and_eq_true,Bool.or_eq_true,beq_iff_eq] at h
 obtain ⟨rfl,h⟩:=h
 refine ⟨rfl,?_⟩
 simp -implicitDefEqProofs only [gM,if_true] at h ⊢
 rcases Nat.lt_or_ge (kG l) l.length with hc | hc
 ·obtain ⟨h0,h1,h2⟩:=Jf l hc
  rcases h with h | h
  ·omega
  ·simp [h0,h2] at h
 ·have:=zU l;omega
def T1 (l:List Ch) (o:Bool) (k:Nat) (e:Int) (t c:Su):Prop:=
 (if bR e=true then nR (l.drop k) ⟨e,t,c,if k<gM l o then true else lC l o⟩ (List.replicate k 0) else none)=jy l o∧(k<gM l o→e=0∧c=⟨0,0⟩)
theorem Ki (l:List Ch) (o:Bool):T1 l o 0 0 ⟨0,0⟩ ⟨0,0⟩:=by
 refine ⟨?_,fun _=>⟨rfl,rfl⟩⟩
 rw [if_pos (by rfl)]
 have:(if 0<gM l o then true else lC l o)=o:=by
  split
  ·rename_i h
   cases o
   ·simp [gM] at h
   ·rfl
  ·rename_i h
   have:gM l o=0:=by omega
   simp [lC,this]
 rw [this];rfl
theorem Kj {l:List Ch} {o:Bool} {k:Nat} {e:Int} {t c:Su} (h:T1 l o k e t c) (hk:k<gM l o) (gI:k<l.length) :
 T1 l o (k+1) (if l[k].through=true then e else l[k].high) (fM t l[k].top) (if l[k].through=true then c else l[k].bottom):=by
 obtain ⟨h1,h2⟩:=h
 obtain ⟨rfl,rfl⟩:=h2 hk
 have ho:o=true:=by cases o <;> simp [gM] at hk ⊢
 subst ho
 rw [if_pos (by rfl),if_pos hk,List.drop_eq_getElem_cons gI,nR] at h1
 cases lH:l[k].through with
 | true=>
   simp -implicitDefEqProofs only [if_true]
   refine ⟨?_,fun _=>⟨rfl,rfl⟩⟩
   simp -implicitDefEqProofs only [ta,qt,nO,lH,if_true] at h1
   rw [if_pos (by rfl)] at h1 ⊢
   rw [← h1,List.replicate_succ']
   have:(if k+1<gM l true then true else lC l true)=true:=by
    split
    ·rfl
    ·have e1:gM l true - 1=k:=by omega
     simp [lC,e1,gI,lH]
   rw [this]
 | false=>
   have e1:gM l true=k+1:=by
    rcases Nat.lt_or_ge (k+1) (gM l true) with hc | hc
    ·have:=Jg l k gI (by simpa [gM] using hc)
     rw [this] at lH;cases lH
    ·omega
   simp -implicitDefEqProofs only [Bool.false_eq_true,if_false]
   refine ⟨?_,fun h=>by omega⟩
   simp -implicitDefEqProofs only [ta,qt,nO,lH,if_true,Bool.false_eq_true,if_false] at h1
   rw [← h1,List.replicate_succ']
   have:(if k+1<gM l true then true else lC l true)=false:=by
    rw [if_neg (by omega)]
    simp [lC,e1,gI,lH]
   rw [this]
def T2 (l:List Ch) (o:Bool) (k:Nat) (p:Pl) (ys:List Int):Prop:=k≤l.length∧ys.length=k∧nR (l.drop k) p ys=jy l o∧(p.mo=true→k=l.length)
theorem Kk {l:List Ch} {o:Bool} {e:Int} {t c:Su} (h:T1 l o (gM l o) e t c) (hf:bR e=true):T2 l o (gM l o) ⟨e,t,c,lC l o⟩ (List.replicate (gM l o) 0):=by
 obtain ⟨h1,_⟩:=h
 rw [if_pos hf,if_neg (Nat.lt_irrefl _)] at h1
 refine ⟨?_,by simp,h1,fun h=>(Dz h).2⟩
 unfold gM
 split
 ·exact zU l
 ·exact Nat.zero_le _
end Go.aL

namespace Go.aL
open Go
def qx:List SV:=[.rv .cr,.rv (.int .i64 0),.rv (.int .i64 0),.rv (.int .i64 0),.rv (.int .i64 0),.rv (.int .i64 0),.rv (.bool false)]
theorem Ac {N:Nat}:mR N qx:=jE (rs:=[.cr,.int .i64 0,.int .i64 0,.int .i64 0,.int .i64 0,.int .i64 0,.bool false])
theorem Li (c:Ch):((c.cells.map SV.rv).drop 2).take 2=[.rv (.int .i64 c.bottom.p),.rv (.int .i64 c.bottom.n)]:=rfl
theorem Lj (c:Ch):((c.cells.map SV.rv).drop 4).take 2=[.rv (.int .i64 c.inner.p),.rv (.int .i64 c.inner.n)]:=rfl
theorem Lk (c:Ch):(c.cells.map SV.rv)[7]?=some (.rv (.int .i64 c.high)):=rfl
theorem DQ (c:Ch):(c.cells.drop 0).take 2=[.int .i64 c.top.p,.int .i64 c.top.n]:=rfl
theorem DR (c:Ch):(c.cells.drop 2).take 2=[.int .i64 c.bottom.p,.int .i64 c.bottom.n]:=rfl
theorem Lo (c:Ch):(c.cells.map SV.rv).take 2=[.rv (.int .i64 c.top.p),.rv (.int .i64 c.top.n)]:=rfl
theorem DU (c:Ch):c.cells.take 2=[.int .i64 c.top.p,.int .i64 c.top.n]:=rfl
theorem Lp (c:Ch):(c.cells.map SV.rv).take 8=c.cells.map SV.rv:=rfl
theorem Lq (c:Ch):c.cells.take 8=c.cells:=rfl
theorem Lm (c:Ch):(c.cells.map SV.rv).drop 8=[]:=rfl
theorem DT (c:Ch):(c.cells.drop 7)[0]?=some (.int .i64 c.high):=rfl
theorem Av (c:Ch):c.cells.length=8:=rfl
theorem via {p X:Prop} (h1:X→p) (h2:X):p:=h1 h2
def ri (m k:Nat) (p:Pl):HB:=.var (.row m k k::p.cells.map .rv)
def rM (k:Nat) (ys:List Int):HB:=.row 1 k (aN (aM ys))
def qv (l:List Ch) (n:Nat) (q:Nat×Int×Su×Su×List Int):List (Nat×SV):=[(34,.rv (.int .i64 q.1)),(33,.rv (.int .i64 n)),(7,.ptr 1 0),(0,.rv (.sl 8 (gF l))),(6,.rv (.int .i64 n)),(4,.ptr 0 0)]
def zI (A:Bool) (q:Nat×Int×Su×Su×List Int):List (Option HB):=[some (.var qx),some (ri 2 q.1 ⟨q.2.1,q.2.2.1,q.2.2.2.1,A⟩),some (rM q.1 q.2.2.2.2)]
def CO (l:List Ch) (o:Bool) (n:Nat) (q:Nat×Int×Su×Su×List Int):Prop:=q.1≤n∧q.2.2.2.2=List.replicate q.1 0∧T1 l o q.1 q.2.1 q.2.2.1 q.2.2.2.1
theorem Vo (l:List Ch) (o:Bool) (hb:l.length≤1000000) (m:Nat):aI Go.Proofs.Tryz.prog 45 [.rv (.sl 8 (gF l)),.rv (.bool o)] [] (kP m (jy l o)) (.aP [mc m (jy l o),.rv (.bool (jy l o).isSome)]):=by
 refine mV Qa [] [] [] [.rv (.sl 8 (gF l)),.rv (.bool o)] [.rv (.sl 8 (gF l)),.rv (.bool o)] _ _ (by simp) (by simp [aO,aS]) rfl (by simp [bW]) (by simp [ig]) (fun K hK=>?_)
 have hl:=oe l
 have ht:=Vq l o hb
 have WD:gM l o≤l.length:=by
  unfold gM;split
  ·exact zU l
  ·exact Nat.zero_le _
 have yx:=Ki l o
 have hT:=@Kk l o
 have Wx:=@Dz l o
 have Fa:(o=false∧gM l o=0∧lC l o=false)∨(o=true∧gM l o=0∧lC l o=true)∨(o=true∧gM l o≠0∧∃ h:gM l o - 1<l.length,lC l o=(l[gM l o - 1]'h).through):=by
  cases o with
  | false=>exact .inl ⟨rfl,rfl,rfl⟩
  | true=>
    by_cases h0:gM l true=0
    ·exact .inr (.inl ⟨rfl,h0,by simp [lC,h0]⟩)
    ·have hh:gM l true - 1<l.length:=by omega
     exact .inr (.inr ⟨rfl,h0,hh,by simp [lC,h0,hh]⟩)
 generalize hA:lC l o=A at *
 generalize hn:gM l o=n at *
 conv in fc _ _ _ _=>reduce
 simp -implicitDefEqProofs only [go_sem,Int.reduceNegSucc]
 apply via
 ·intro main
  rcases Fa with ⟨ho,h0,tW⟩ | ⟨ho,h0,tW⟩ | ⟨ho,h0,hh,tW⟩
  ·rw [ho] at ht
   have aT:=ht;repeat' (first | (simp -implicitDefEqProofs only [go_sem,Int.reduceNegSucc,hl,ho]) | (with_reducible refine aA ?_) | (with_reducible first | refine af aT ?_ | refine ag aT ?_) | ((first | refine ai (fun hg=>?_) (fun hg=>?_) | refine ax (fun hg=>?_) (fun hg=>?_) | refine ay (fun hg=>?_) (fun hg=>?_)) <;> try simp -implicitDefEqProofs only [hg,Bool.not_true,Bool.not_false]) | ((with_reducible apply And.intro);focus (first | trivial | omega | decide | (simp -implicitDefEqProofs only [maxLen];omega) | (simp [maxLen,ah,ak,an,av,aj,au,aq] <;> omega))) | fail)
   refine fE (qv l n) (zI A) (CO l o n) (fun q=>n - q.1) (0,0,⟨0,0⟩,⟨0,0⟩,[]) ⟨Nat.zero_le _,rfl,yx⟩ ?_ main
   subst tW
   refine (tM 1 1 0 rfl rfl).trans (bh ?_)
   simp [lk,aX,qv]
  ·have e0:((n:Int) == 0)=true:=by rw [h0];rfl
   rw [ho] at ht
   have y_2:=ht;repeat' (first | (simp -implicitDefEqProofs only [go_sem,Int.reduceNegSucc,hl,e0,ho]) | (with_reducible refine aA ?_) | (with_reducible first | refine af y_2 ?_ | refine ag y_2 ?_) | ((first | refine ai (fun hg=>?_) (fun hg=>?_) | refine ax (fun hg=>?_) (fun hg=>?_) | refine ay (fun hg=>?_) (fun hg=>?_)) <;> try simp -implicitDefEqProofs only [hg,Bool.not_true,Bool.not_false]) | ((with_reducible apply And.intro);focus (first | trivial | omega | decide | (simp -implicitDefEqProofs only [maxLen];omega) | (simp [maxLen,ah,ak,an,av,aj,au,aq] <;> omega))) | fail)
   refine fE (qv l n) (zI A) (CO l o n) (fun q=>n - q.1) (0,0,⟨0,0⟩,⟨0,0⟩,[]) ⟨Nat.zero_le _,rfl,yx⟩ ?_ main
   subst tW
   refine (tM 1 1 0 rfl rfl).trans (bh ?_)
   simp [lk,aX,qv]
  ·rw [ho] at ht
   have e1:((n:Int) == 0)=false:=by rw [Bool.eq_false_iff];simp;omega
   have w1:IntKind.i64.wrap ((n:Int) - 1)=((n - 1:Nat):Int):=by rw [wrap_i64 (by omega) (by omega)];omega
   have hx:=va hh
   have q6:=Lr (l[n - 1]'hh)
   have q5:=xT (l[n - 1]'hh)
   have q4:=Av (l[n - 1]'hh)
   rw [← tW] at q5 q6
   generalize l[n - 1]'hh=cc at *
   have bA:=ht;repeat' (first | (simp -implicitDefEqProofs only [go_sem,Int.reduceNegSucc,hl,e1,w1,hx,q6,q5,q4,ho,List.length_drop]) | (with_reducible refine aA ?_) | (with_reducible first | refine af bA ?_ | refine ag bA ?_) | ((first | refine ai (fun hg=>?_) (fun hg=>?_) | refine ax (fun hg=>?_) (fun hg=>?_) | refine ay (fun hg=>?_) (fun hg=>?_)) <;> try simp -implicitDefEqProofs only [hg,Bool.not_true,Bool.not_false]) | ((with_reducible apply And.intro);focus (first | trivial | omega | decide | (simp -implicitDefEqProofs only [maxLen];omega) | (simp [maxLen,ah,ak,an,av,aj,au,aq] <;> omega) | (omega;done))) | fail)
   refine fE (qv l n) (zI A) (CO l o n) (fun q=>n - q.1) (0,0,⟨0,0⟩,⟨0,0⟩,[]) ⟨Nat.zero_le _,rfl,yx⟩ ?_ main
   subst tW
   refine (tM 1 1 0 rfl rfl).trans (bh ?_)
   simp [lk,aX,qv]
 ·clear Fa ht
  intro q hq K' hN hX hR
  obtain ⟨k,e,t,c,ys⟩:=q
  obtain ⟨fJ,hk2,gd⟩:=hq
  unfold qv zI
  dsimp only at fJ hk2 gd ⊢
  have mI:ys.length=k:=by rw [hk2];simp
  simp -implicitDefEqProofs only [ri,rM,Pl.cells,qx,go_sem,Int.reduceNegSucc]
  refine ai (fun hg=>?_) (fun hg=>?_)
  ·have aE:k<n:=by simp at hg;omega
   have gI:k<l.length:=by omega
   have wu:=cz (k:=k) (by omega)
   have hx:=va gI
   have hs:=Kj gd (by rw [hn];exact aE) gI
   have fH:=aj ys
   have jk:(aM ys).take k=aM ys:=List.take_of_length_le (by omega)
   have j1:=uH t l[k].top
   generalize l[k]=x at *
   have r1:=DQ x
   have r2:=DR x
   have r3:=DU x
   have r4:=DT x
   have r5:=xT x
   have r6:=Av x
   have vC:(ys++[(0:Int)]).length=ys.length+1:=by simp
   simp -implicitDefEqProofs only [Su.sv,Su.cells,List.map_cons,List.map_nil] at j1
   cases lH:x.through with
   | true=>
     rw [lH] at r5
     simp -implicitDefEqProofs only [lH,if_true] at hs
     have bC:=j1;repeat' (first | (simp -implicitDefEqProofs only [go_sem,Int.reduceNegSucc,hl,hx,r1,r2,r3,r4,r5,r6,mI,fH,jk,mL,List.length_drop,wu]) | (with_reducible refine aA ?_) | (with_reducible first | refine af bC ?_ | refine ag bC ?_) | ((first | refine ai (fun hg=>?_) (fun hg=>?_) | refine ax (fun hg=>?_) (fun hg=>?_) | refine ay (fun hg=>?_) (fun hg=>?_)) <;> try simp -implicitDefEqProofs only [hg,Bool.not_true,Bool.not_false]) | ((with_reducible apply And.intro);focus (first | trivial | omega | decide | (simp -implicitDefEqProofs only [maxLen];omega) | (simp [maxLen,ah,ak,an,av,aj,au,aq] <;> omega) | (omega;done))) | fail)
     exact hN (k+1,e,fM t x.top,c,ys++[0]) _ _ ⟨by dsimp only;omega,by simp [hk2,List.replicate_succ'],hs⟩ (by dsimp only;omega) (nA (h':=[some (.var qx),some (ri 2 (k+1) ⟨e,fM t x.top,c,A⟩),some (rM (k+1) (ys++[0]))]) (Nat.zero_le _) ⟨Ac,⟨jF.2 (by simp),jE⟩,iV,trivial⟩ (by simp [qv,ij,lk,jU,lQ]))
   | false=>
     rw [lH] at r5
     simp -implicitDefEqProofs only [lH,Bool.false_eq_true,if_false] at hs
     have bH:=j1;repeat' (first | (simp -implicitDefEqProofs only [go_sem,Int.reduceNegSucc,hl,hx,r1,r2,r3,r4,r5,r6,mI,fH,jk,mL,List.length_drop,wu]) | (with_reducible refine aA ?_) | (with_reducible first | refine af bH ?_ | refine ag bH ?_) | ((first | refine ai (fun hg=>?_) (fun hg=>?_) | refine ax (fun hg=>?_) (fun hg=>?_) | refine ay (fun hg=>?_) (fun hg=>?_)) <;> try simp -implicitDefEqProofs only [hg,Bool.not_true,Bool.not_false]) | ((with_reducible apply And.intro);focus (first | trivial | omega | decide | (simp -implicitDefEqProofs only [maxLen];omega) | (simp [maxLen,ah,ak,an,av,aj,au,aq] <;> omega) | (omega;done))) | fail)
     exact hN (k+1,x.high,fM t x.top,x.bottom,ys++[0]) _ _ ⟨by dsimp only;omega,by simp [hk2,List.replicate_succ'],hs⟩ (by dsimp only;omega) (nA (h':=[some (.var qx),some (ri 2 (k+1) ⟨x.high,fM t x.top,x.bottom,A⟩),some (rM (k+1) (ys++[0]))]) (Nat.zero_le _) ⟨Ac,⟨jF.2 (by simp),jE⟩,iV,trivial⟩ (by simp [qv,ij,lk,jU,lQ]))
  ·have aE:k=n:=by simp at hg;omega
   subst aE
   simp -implicitDefEqProofs only [go_sem,Int.reduceNegSucc]
   refine hX _ _ _ ?_
   clear hN hX hR
   have hf:=kj e
   cases hfe:bR e with
   | false=>
     rw [hfe] at hf
     have hnone:jy l o=none:=by rw [← gd.1,if_neg (by rw [hfe];simp)]
     rw [hnone] at hK
     have bJ:=hf;repeat' (first | (simp -implicitDefEqProofs only [go_sem,Int.reduceNegSucc]) | (with_reducible refine aA ?_) | (with_reducible first | refine af bJ ?_ | refine ag bJ ?_) | ((first | refine ai (fun hg=>?_) (fun hg=>?_) | refine ax (fun hg=>?_) (fun hg=>?_) | refine ay (fun hg=>?_) (fun hg=>?_)) <;> try simp -implicitDefEqProofs only [hg,Bool.not_true,Bool.not_false]) | ((with_reducible apply And.intro);focus (first | trivial | omega | decide | (simp -implicitDefEqProofs only [maxLen];omega) | (simp [maxLen,ah,ak,an,av,aj,au,aq] <;> omega))) | fail)
     refine (hK _ _ _ _ [] (gO _ _) ?_).2
     simp [gZ,bW,newL,ia,gP,aR,aQ,lk,aV,fY,gk,ga,iD,iC,aB,hD,bf,aG,gw,hJ,iK,aH,iJ,aF,gB,fU,iz,mc,kP,Pl.cells,aH,aF]
   | true=>
     rw [hfe] at hf
     have h2:=hT gd hfe
     rw [← hk2] at h2
     clear gd hk2 yx hT
     have bL:=hf;repeat' (first | (simp -implicitDefEqProofs only [go_sem,Int.reduceNegSucc]) | (with_reducible refine aA ?_) | (with_reducible first | refine af bL ?_ | refine ag bL ?_) | ((first | refine ai (fun hg=>?_) (fun hg=>?_) | refine ax (fun hg=>?_) (fun hg=>?_) | refine ay (fun hg=>?_) (fun hg=>?_)) <;> try simp -implicitDefEqProofs only [hg,Bool.not_true,Bool.not_false]) | ((with_reducible apply And.intro);focus (first | trivial | omega | decide | (simp -implicitDefEqProofs only [maxLen];omega) | (simp [maxLen,ah,ak,an,av,aj,au,aq] <;> omega))) | fail)
     refine fE (ι:=Nat×Pl×List Int) (fun q=>[(9,.rv (.int .i64 q.1)),(7,.ptr 1 0),(0,.rv (.sl 8 (gF l))),(4,.ptr 0 0)]) (fun q=>[some (.var qx),some (ri 2 q.1 q.2.1),some (rM q.1 q.2.2)])
      (fun q=>T2 l o q.1 q.2.1 q.2.2) (fun q=>l.length - q.1) (k,⟨e,t,c,A⟩,ys) h2 (bh (by simp [lk])) (fun q hq K' hN hX hR=>?_)
     clear h2
     obtain ⟨i,p,zs⟩:=q
     obtain ⟨hi1,hi2,jZ,hi4⟩:=hq
     dsimp only at hi1 hi2 jZ hi4 ⊢
     simp -implicitDefEqProofs only [ri,rM,Pl.cells,qx,go_sem,Int.reduceNegSucc]
     refine ai (fun hg=>?_) (fun hg=>?_)
     ·have gI:i<l.length:=by simp at hg;omega
      have wu:=cz (k:=i) (by omega)
      have hx:=va gI
      have vM:p.mo=false:=by
       cases hp:p.mo
       ·rfl
       ·have:=hi4 hp;omega
      have fH:=aj zs
      have jk:(aM zs).take i=aM zs:=List.take_of_length_le (by omega)
      rw [List.drop_eq_getElem_cons gI,nR] at jZ
      generalize l[i]=x at *
      have r0:=Lq x
      have r1:=DQ x
      have r2:=DR x
      have r3:=DU x
      have r4:=DT x
      have r5:=xT x
      have r6:=Av x
      have r7:=Lp x
      have r8:=Lm x
      have s0:=Lo x
      have s1:=Li x
      have s2:=Lj x
      have s3:=DV x
      have s4:=Lk x
      have j1:=uH p.cur (mu x)
      have j2:=uH p.cur x.top
      have v1:=CV (fM p.cur (mu x))
      have u1:=fun id=>uG id [p.iF,iT (fM p.cur (mu x))] (by simp)
      have u2:=fun id=>uG id [cv [p.iF,iT (fM p.cur (mu x))],x.high] (by simp)
      simp -implicitDefEqProofs only [ta,qt,nO,vM,Bool.false_eq_true,if_false] at jZ
      simp -implicitDefEqProofs only [lT,Su.sv,Su.cells,List.map_cons,List.map_nil,List.length_cons,List.length_nil,Nat.reduceAdd] at j1 j2 v1 u1 u2
      cases lH:x.through with
      | true=>
        rw [lH] at s3 jZ r5
        simp -implicitDefEqProofs only [mu,lH,if_true] at j1 j2 v1 u1 u2 jZ
        cases vF:nT (fM p.cur x.inner) <;> cases vG:fV [p.iF,iT (fM p.cur x.inner)] <;> rw [vF] at v1 jZ <;> rw [vG] at u1 jZ <;> simp -implicitDefEqProofs only [Bool.and_self,Bool.false_and,Bool.and_false,Bool.true_and,Bool.true_or,Bool.and_true,Bool.false_eq_true,if_false,if_true] at jZ
        case true.true=>
         have bQ:=j1;have bZ:=v1;have cm:=u1;have fO:=j2;repeat' (first | (simp -implicitDefEqProofs only [go_sem,Int.reduceNegSucc,vM,hl,hx,r0,r1,r2,r3,r4,r5,r6,r7,r8,s0,s1,s2,s3,s4,fH,jk,mL,List.length_drop,List.length_map,List.append_nil,wu]) | (with_reducible refine aA ?_) | (with_reducible first | refine af bQ ?_ | refine ag bQ ?_) | (with_reducible first | refine af bZ ?_ | refine ag bZ ?_) | ((first | refine bS (cm _) ?_ ?_ ?_ | refine ck (cm _) ?_ ?_ ?_ | fail);(focus (simp [aY,aB] <;> fail));(focus (simp [bq,aX] <;> fail))) | (with_reducible first | refine af fO ?_ | refine ag fO ?_) | ((first | refine ai (fun hg=>?_) (fun hg=>?_) | refine ax (fun hg=>?_) (fun hg=>?_) | refine ay (fun hg=>?_) (fun hg=>?_)) <;> try simp -implicitDefEqProofs only [hg,Bool.not_true,Bool.not_false]) | ((with_reducible apply And.intro);focus (first | trivial | omega | decide | (simp -implicitDefEqProofs only [maxLen];omega) | (simp [maxLen,ah,ak,an,av,aj,au,aq] <;> omega) | (omega;done))) | fail)
         exact hN (i+1,⟨p.iF,p.top,fM p.cur x.top,false⟩,zs++[cv [p.iF,iT (fM p.cur x.inner)]]) _ _ ⟨gI,by simp [hi2],jZ,fun h=>by cases h⟩ (by dsimp only;omega) (nA (h':=[some (.var qx),some (ri 2 (i+1) ⟨p.iF,p.top,fM p.cur x.top,false⟩),some (rM (i+1) (zs++[cv [p.iF,iT (fM p.cur x.inner)]]))]) (Nat.zero_le _) ⟨Ac,⟨jF.2 (by simp),jE⟩,iV,trivial⟩ (by simp [ij,lk,jU,lQ]))
        all_goals
         have gj:=j1;have gQ:=v1;have gR:=u1;have gS:=j2;repeat' (first | (simp -implicitDefEqProofs only [go_sem,Int.reduceNegSucc,vM,hl,hx,r0,r1,r2,r3,r4,r5,r6,r7,r8,s0,s1,s2,s3,s4,fH,jk,mL,List.length_drop,List.length_map,List.append_nil,wu]) | (with_reducible refine aA ?_) | (with_reducible first | refine af gj ?_ | refine ag gj ?_) | (with_reducible first | refine af gQ ?_ | refine ag gQ ?_) | ((first | refine bS (gR _) ?_ ?_ ?_ | refine ck (gR _) ?_ ?_ ?_ | fail);(focus (simp [aY,aB] <;> fail));(focus (simp [bq,aX] <;> fail))) | (with_reducible first | refine af gS ?_ | refine ag gS ?_) | ((first | refine ai (fun hg=>?_) (fun hg=>?_) | refine ax (fun hg=>?_) (fun hg=>?_) | refine ay (fun hg=>?_) (fun hg=>?_)) <;> try simp -implicitDefEqProofs only [hg,Bool.not_true,Bool.not_false]) | ((with_reducible apply And.intro);focus (first | trivial | omega | decide | (simp -implicitDefEqProofs only [maxLen];omega) | (simp [maxLen,ah,ak,an,av,aj,au,aq] <;> omega) | (omega;done))) | fail)
         refine hR _ _ (hK _ _ _ _ [] (gO _ _) ?_).2
         rw [← jZ]
         simp [gZ,bW,newL,ia,gP,aR,aQ,lk,aV,fY,gk,ga,iD,iC,aB,hD,bf,aG,gw,hJ,iK,aH,iJ,aF,gB,fU,iz,mc,kP,Pl.cells,aH,aF]
      | false=>
        rw [lH] at s3 jZ r5
        simp -implicitDefEqProofs only [mu,lH,Bool.false_eq_true,if_false] at j1 j2 v1 u1 u2 jZ
        cases vF:nT (fM p.cur x.top) <;> cases vG:fV [p.iF,iT (fM p.cur x.top)] <;> cases vH:fV [cv [p.iF,iT (fM p.cur x.top)],x.high] <;> rw [vF] at v1 jZ <;> rw [vG] at u1 jZ <;> rw [vH] at u2 jZ <;> simp -implicitDefEqProofs only [Bool.and_self,Bool.false_and,Bool.and_false,Bool.true_and,Bool.true_or,Bool.and_true,Bool.false_or,Bool.false_eq_true,if_false,if_true] at jZ
        case true.true.true=>
         have gT:=j1;have gU:=v1;have gV:=u1;have iM:=u2;repeat' (first | (simp -implicitDefEqProofs only [go_sem,Int.reduceNegSucc,vM,hl,hx,r0,r1,r2,r3,r4,r5,r6,r7,r8,s0,s1,s2,s3,s4,fH,jk,mL,List.length_drop,List.length_map,List.append_nil,wu]) | (with_reducible refine aA ?_) | (with_reducible first | refine af gT ?_ | refine ag gT ?_) | (with_reducible first | refine af gU ?_ | refine ag gU ?_) | ((first | refine bS (gV _) ?_ ?_ ?_ | refine ck (gV _) ?_ ?_ ?_ | fail);(focus (simp [aY,aB] <;> fail));(focus (simp [bq,aX] <;> fail))) | ((first | refine bS (iM _) ?_ ?_ ?_ | refine ck (iM _) ?_ ?_ ?_ | fail);(focus (simp [aY,aB] <;> fail));(focus (simp [bq,aX] <;> fail))) | ((first | refine ai (fun hg=>?_) (fun hg=>?_) | refine ax (fun hg=>?_) (fun hg=>?_) | refine ay (fun hg=>?_) (fun hg=>?_)) <;> try simp -implicitDefEqProofs only [hg,Bool.not_true,Bool.not_false]) | ((with_reducible apply And.intro);focus (first | trivial | omega | decide | (simp -implicitDefEqProofs only [maxLen];omega) | (simp [maxLen,ah,ak,an,av,aj,au,aq] <;> omega) | (omega;done))) | fail)
         exact hN (i+1,⟨cv [cv [p.iF,iT (fM p.cur x.top)],x.high],p.top,x.bottom,false⟩,zs++[cv [p.iF,iT (fM p.cur x.top)]]) _ _ ⟨gI,by simp [hi2],jZ,fun h=>by cases h⟩ (by dsimp only;omega) (nA (h':=[some (.var qx),some (ri 2 (i+1) ⟨cv [cv [p.iF,iT (fM p.cur x.top)],x.high],p.top,x.bottom,false⟩),some (rM (i+1) (zs++[cv [p.iF,iT (fM p.cur x.top)]]))]) (Nat.zero_le _) ⟨Ac,⟨jF.2 (by simp),jE⟩,iV,trivial⟩ (by simp [ij,lk,jU,lQ]))
        all_goals
         have iN:=j1;have kk:=v1;have oP:=u1;have oQ:=u2;repeat' (first | (simp -implicitDefEqProofs only [go_sem,Int.reduceNegSucc,vM,hl,hx,r0,r1,r2,r3,r4,r5,r6,r7,r8,s0,s1,s2,s3,s4,fH,jk,mL,List.length_drop,List.length_map,List.append_nil,wu]) | (with_reducible refine aA ?_) | (with_reducible first | refine af iN ?_ | refine ag iN ?_) | (with_reducible first | refine af kk ?_ | refine ag kk ?_) | ((first | refine bS (oP _) ?_ ?_ ?_ | refine ck (oP _) ?_ ?_ ?_ | fail);(focus (simp [aY,aB] <;> fail));(focus (simp [bq,aX] <;> fail))) | ((first | refine bS (oQ _) ?_ ?_ ?_ | refine ck (oQ _) ?_ ?_ ?_ | fail);(focus (simp [aY,aB] <;> fail));(focus (simp [bq,aX] <;> fail))) | ((first | refine ai (fun hg=>?_) (fun hg=>?_) | refine ax (fun hg=>?_) (fun hg=>?_) | refine ay (fun hg=>?_) (fun hg=>?_)) <;> try simp -implicitDefEqProofs only [hg,Bool.not_true,Bool.not_false]) | ((with_reducible apply And.intro);focus (first | trivial | omega | decide | (simp -implicitDefEqProofs only [maxLen];omega) | (simp [maxLen,ah,ak,an,av,aj,au,aq] <;> omega) | (omega;done))) | fail)
         refine hR _ _ (hK _ _ _ _ [] (gO _ _) ?_).2
         rw [← jZ]
         simp [gZ,bW,newL,ia,gP,aR,aQ,lk,aV,fY,gk,ga,iD,iC,aB,hD,bf,aG,gw,hJ,iK,aH,iJ,aF,gB,fU,iz,mc,kP,Pl.cells,aH,aF]
     ·have aE:i=l.length:=by simp at hg;omega
      subst aE
      simp -implicitDefEqProofs only [go_sem,Int.reduceNegSucc]
      refine hX _ _ _ ?_
      rw [List.drop_length,nR] at jZ
      repeat' (first | (simp -implicitDefEqProofs only [go_sem,Int.reduceNegSucc]) | (with_reducible refine aA ?_) | ((first | refine ai (fun hg=>?_) (fun hg=>?_) | refine ax (fun hg=>?_) (fun hg=>?_) | refine ay (fun hg=>?_) (fun hg=>?_)) <;> try simp -implicitDefEqProofs only [hg,Bool.not_true,Bool.not_false]) | ((with_reducible apply And.intro);focus (first | trivial | omega | decide | (simp -implicitDefEqProofs only [maxLen];omega) | (simp [maxLen,ah,ak,an,av,aj,au,aq] <;> omega))) | fail)
      refine (hK _ _ _ _ [none,none,some m] (gO _ _) ?_).2
      rw [← jZ]
      simp [gZ,bW,newL,ia,gP,aR,aQ,lk,aV,fY,gk,ga,iD,iC,aB,hD,bf,aG,gw,hJ,iK,aH,iJ,aF,gB,fU,iz,mc,kP,Pl.cells,lN,aH,aF,hi2]
end Go.aL

namespace Go.aL
open Go
theorem Qw:aU Go.Proofs.Tryz.prog 117 28 (fc Go.Proofs.Tryz.prog 117 28 [(.t 6)]) [(.t 6)]:=bl (by kernel_rfl)
theorem Qv:aU Go.Proofs.Tryz.prog 96 59 (fc Go.Proofs.Tryz.prog 96 59 [(.c 8 8 true)]) [(.c 8 8 true)]:=bl (by kernel_rfl)
abbrev Ed.sv (e:Ed):SV:=.agg (e.cells.map .rv)
def nv (e:Ed):List Int:=[e.bD.d,e.pad.d.n,e.pad.b.n,e.bD.b]
def jT (e:Ed):List Int:=[e.bD.a,e.pad.a.n,e.pad.c.n,e.bD.c]
theorem Uv (e:Ed):aI Go.Proofs.Tryz.prog 62 [e.sv,.rv (.int .i64 3),.rv (.int .i64 1)] [] [] (.aP [.rv (.int .i64 (cv (nv e))),.rv (.bool (fV (nv e)))]):=by
 refine bt Gn [e.sv,.rv (.int .i64 3),.rv (.int .i64 1)] _ (by simp) (by simp [aO,aW,bp,aS,bg,aC.sv,Ln.sv,Nd.sv]) (fun K hK=>?_)
 have h:=fun id=>uF id (nv e) (by simp [nv])
 simp -implicitDefEqProofs only [lT,nv,List.map_cons,List.map_nil,List.length_cons,List.length_nil,Nat.reduceAdd] at h hK
 conv in fc _ _ _ _=>reduce
 simp -implicitDefEqProofs only [Ed.sv,Ed.cells,Q4.hU,Q4.ints,go_sem,Int.reduceNegSucc]
 have aT:=h;repeat' (first | (simp -implicitDefEqProofs only [go_sem,Int.reduceNegSucc]) | (with_reducible refine aA ?_) | ((first | refine bS (aT _) ?_ ?_ ?_ | refine ck (aT _) ?_ ?_ ?_ | fail);(focus (simp [aY,aB] <;> fail));(focus (simp [bq,aX] <;> fail))) | ((first | refine ai (fun hg=>?_) (fun hg=>?_) | refine ax (fun hg=>?_) (fun hg=>?_) | refine ay (fun hg=>?_) (fun hg=>?_)) <;> try simp -implicitDefEqProofs only [hg,Bool.not_true,Bool.not_false]) | ((with_reducible apply And.intro);focus (first | trivial | omega | decide | (simp -implicitDefEqProofs only [maxLen];omega) | (simp [maxLen,ah,ak,an,av,aj,au,aq] <;> omega))) | fail)
 exact (hK _ _ (gL rfl rfl)).2
theorem Uu (e:Ed):aI Go.Proofs.Tryz.prog 62 [e.sv,.rv (.int .i64 0),.rv (.int .i64 2)] [] [] (.aP [.rv (.int .i64 (cv (jT e))),.rv (.bool (fV (jT e)))]):=by
 refine bt Gn [e.sv,.rv (.int .i64 0),.rv (.int .i64 2)] _ (by simp) (by simp [aO,aW,bp,aS,bg,aC.sv,Ln.sv,Nd.sv]) (fun K hK=>?_)
 have h:=fun id=>uF id (jT e) (by simp [jT])
 simp -implicitDefEqProofs only [lT,jT,List.map_cons,List.map_nil,List.length_cons,List.length_nil,Nat.reduceAdd] at h hK
 conv in fc _ _ _ _=>reduce
 simp -implicitDefEqProofs only [Ed.sv,Ed.cells,Q4.hU,Q4.ints,go_sem,Int.reduceNegSucc]
 have y_2:=h;repeat' (first | (simp -implicitDefEqProofs only [go_sem,Int.reduceNegSucc]) | (with_reducible refine aA ?_) | ((first | refine bS (y_2 _) ?_ ?_ ?_ | refine ck (y_2 _) ?_ ?_ ?_ | fail);(focus (simp [aY,aB] <;> fail));(focus (simp [bq,aX] <;> fail))) | ((first | refine ai (fun hg=>?_) (fun hg=>?_) | refine ax (fun hg=>?_) (fun hg=>?_) | refine ay (fun hg=>?_) (fun hg=>?_)) <;> try simp -implicitDefEqProofs only [hg,Bool.not_true,Bool.not_false]) | ((with_reducible apply And.intro);focus (first | trivial | omega | decide | (simp -implicitDefEqProofs only [maxLen];omega) | (simp [maxLen,ah,ak,an,av,aj,au,aq] <;> omega))) | fail)
 exact (hK _ _ (gL rfl rfl)).2
def wR (e:Ed) (kids:Nat) (p:Pl):Bool:=e.flat && if kids=0 then e.high.auto || (e.high.n == 0) else e.high.auto && p.mo
def ie (y:RV) (p:Pl):List RV:=y::p.cells
theorem Vz (e:Ed) (kids:Nat) (y:RV) (p:Pl):aI Go.Proofs.Tryz.prog 117 [e.sv,.rv (.int .i64 kids),.agg ((ie y p).map .rv)] [] [] (.rv (.bool (wR e kids p))):=by
 refine bt Qw [e.sv,.rv (.int .i64 kids),.agg ((ie y p).map .rv)] _ (by simp) (by simp [aO,aW,bp,aS,bg,aC.sv,Ln.sv,Nd.sv]) (fun K hK=>?_)
 have hk:((kids:Int) == 0)=decide (kids=0):=by rw [Bool.eq_iff_iff];simp
 simp -implicitDefEqProofs only [wR] at hK
 conv in fc _ _ _ _=>reduce
 simp -implicitDefEqProofs only [Ed.sv,Ed.cells,ie,Pl.cells,Q4.hU,Q4.ints,go_sem,Int.reduceNegSucc]
 by_cases h0:kids=0 <;> simp -implicitDefEqProofs only [h0,decide_true,decide_false] at hk
 all_goals ((repeat' (first | (simp -implicitDefEqProofs only [go_sem,Int.reduceNegSucc,hk]) | (with_reducible refine aA ?_) | ((first | refine ai (fun hg=>?_) (fun hg=>?_) | refine ax (fun hg=>?_) (fun hg=>?_) | refine ay (fun hg=>?_) (fun hg=>?_)) <;> try simp -implicitDefEqProofs only [hg,Bool.not_true,Bool.not_false]) | ((with_reducible apply And.intro);focus (first | trivial | omega | decide | (simp -implicitDefEqProofs only [maxLen];omega) | (simp [maxLen,ah,ak,an,av,aj,au,aq] <;> omega))) | fail)))
 all_goals (refine (hK _ _ (bO ?_)).2;clear hK;simp_all [lk])
def pW (e:Ed) (kids:Nat) (p:Pl) (high:Int):Ch:=
 let b:Su:=⟨max (bn e.bF.c 0) 0,min (bn e.bF.c 0) 0⟩
 let i:=fM ⟨max (bn e.bF.a 0) 0,min (bn e.bF.a 0) 0⟩ p.top
 if wR e kids p=true then ⟨fM i b,fM i b,i,true,high⟩
 else ⟨i,if e.lK=true∧0<kids then fM b p.cur else b,i,false,high⟩
theorem Uy (e:Ed) (kids:Nat) (y:RV) (p:Pl) (high:Int):aI Go.Proofs.Tryz.prog 96 [e.sv,.rv (.int .i64 kids),.agg ((ie y p).map .rv),.rv (.int .i64 high)] [] [] (.agg ((pW e kids p high).cells.map .rv)):=by
 refine bt Qv [e.sv,.rv (.int .i64 kids),.agg ((ie y p).map .rv),.rv (.int .i64 high)] _ (by simp) (by simp [aO,aW,bp,aS,bg,aC.sv,Ln.sv,Nd.sv]) (fun K hK=>?_)
 have o1:=nj e.bF.a 0
 have o2:=nj e.bF.c 0
 have s1:=IP (bn e.bF.a 0)
 have s2:=IP (bn e.bF.c 0)
 have ht:=Vz e kids y p
 simp -implicitDefEqProofs only [pW] at hK
 generalize (⟨max (bn e.bF.a 0) 0,min (bn e.bF.a 0) 0⟩:Su)=A at *
 generalize (⟨max (bn e.bF.c 0) 0,min (bn e.bF.c 0) 0⟩:Su)=B at *
 have j1:=uI A p.top
 have j2:=uI (fM A p.top) B
 have j3:=uI B p.cur
 have hk:decide ((kids:Int)>0)=decide (0<kids):=by simp
 generalize wR e kids p=T at *
 generalize fM A p.top=I at *
 simp -implicitDefEqProofs only [Ed.sv,Ed.cells,ie,Pl.cells,Q4.hU,Q4.ints,Su.sv,Su.cells,Sz.sv,Sz.cells,List.map_cons,List.map_nil,List.cons_append,List.nil_append] at o1 o2 s1 s2 ht j1 j2 j3
 conv in fc _ _ _ _=>reduce
 simp -implicitDefEqProofs only [Ed.sv,Ed.cells,ie,Pl.cells,Q4.hU,Q4.ints,go_sem,Int.reduceNegSucc]
 cases T <;> simp -implicitDefEqProofs only [Bool.false_eq_true,if_true,if_false] at hK ⊢
 all_goals ((have bA:=o1;have bC:=o2;have bH:=s1;have bJ:=s2;have bL:=ht;have bQ:=j1;have bZ:=j2;have cm:=j3;repeat' (first | (simp -implicitDefEqProofs only [go_sem,Int.reduceNegSucc,hk]) | (with_reducible refine aA ?_) | (with_reducible first | refine af bA ?_ | refine ag bA ?_) | (with_reducible first | refine af bC ?_ | refine ag bC ?_) | (with_reducible first | refine af bH ?_ | refine ag bH ?_) | (with_reducible first | refine af bJ ?_ | refine ag bJ ?_) | (with_reducible first | refine af bL ?_ | refine ag bL ?_) | (with_reducible first | refine af bQ ?_ | refine ag bQ ?_) | (with_reducible first | refine af bZ ?_ | refine ag bZ ?_) | (with_reducible first | refine af cm ?_ | refine ag cm ?_) | ((first | refine ai (fun hg=>?_) (fun hg=>?_) | refine ax (fun hg=>?_) (fun hg=>?_) | refine ay (fun hg=>?_) (fun hg=>?_)) <;> try simp -implicitDefEqProofs only [hg,Bool.not_true,Bool.not_false]) | ((with_reducible apply And.intro);focus (first | trivial | omega | decide | (simp -implicitDefEqProofs only [maxLen];omega) | (simp [maxLen,ah,ak,an,av,aj,au,aq] <;> omega))) | fail)))
 all_goals (refine (hK _ _ ?_).2;clear hK;simp -implicitDefEqProofs only [go_sem,Int.reduceNegSucc,aQ,aR,aV,bf,aH,aG,aF,Ch.cells] <;>(try simp_all [-Int.not_lt,-Int.not_le,aH,aG,aF,bB,Ch.cells]) <;> try omega)
end Go.aL

namespace Go.aL
open Go
theorem Qx:aU Go.Proofs.Tryz.prog 67 130 (fc Go.Proofs.Tryz.prog 67 130 [(.c 8 25 true),(.c 9 9 true),(.t 10)]) [(.c 8 25 true),(.c 9 9 true),(.t 10)]:=bl (by kernel_rfl)
theorem Qt:aU Go.Proofs.Tryz.prog 30 116 (fc Go.Proofs.Tryz.prog 30 116 [(.c 10 25 true),(.c 11 9 true),(.t 12)]) [(.c 10 25 true),(.c 11 9 true),(.t 12)]:=bl (by kernel_rfl)
structure Fm where
 x:Int
 y:Int
 w:Int
 h:Int
 bF:Q4 Int
 pad:Q4 Int
 bD:Q4 Int
 known:Bool
 child:Ch
 deriving DecidableEq,Inhabited
def Fm.cells (f:Fm):List RV:=[.int .i64 f.x,.int .i64 f.y,.int .i64 f.w,.int .i64 f.h]++f.bF.ints++f.pad.ints++f.bD.ints++(.bool f.known::f.child.cells)
structure La where
 L:List (Nat×Fm)
 p:Pl
 ys:List Int
 high:Int
 deriving DecidableEq,Inhabited
def jn (q:Nat×Fm):List RV:=.int .i64 q.1::q.2.cells
def gK (L:List (Nat×Fm)):List (List RV):=L.map jn
def bk:Option La→List RV
 | some t=>.sl 26 (gK t.L) :: .sl 1 (aM t.ys)::(t.p.cells++[.int .i64 t.high])
 | none=>[.cr,.cr,.int .i64 0,.int .i64 0,.int .i64 0,.int .i64 0,.int .i64 0,.bool false,.int .i64 0]
def bN:Option Fm→List RV
 | some f=>f.cells
 | none=>[.int .i64 0,.int .i64 0,.int .i64 0,.int .i64 0,.int .i64 0,.int .i64 0,.int .i64 0,.int .i64 0,.int .i64 0,.int .i64 0,.int .i64 0,.int .i64 0,.int .i64 0,.int .i64 0,.int .i64 0,.int .i64 0,.bool false,.int .i64 0,.int .i64 0,.int .i64 0,.int .i64 0,.int .i64 0,.int .i64 0,.bool false,.int .i64 0]
abbrev lE (r:Option (Fm×La)):SV:=.aP [.agg ((bN (r.map (·.1))).map .rv),.agg ((bk (r.map (·.2))).map .rv),.rv (.bool r.isSome)]
def mG (e:Ed):Sz:=if e.high.auto=true then e.high else ⟨false,jV e.high.n e.least e.most⟩
def pG (e:Ed) (t:La):Int:=if e.high.auto=true then jV t.high e.least e.most else jV e.high.n e.least e.most
def tU (e:Ed) (x:Ao) (kids:Nat) (t:La):Fm:=
 ⟨x.l,0,x.w,pG e t,⟨bn e.bF.a 0,x.r,bn e.bF.c 0,x.l⟩,⟨e.pad.a.n,e.pad.b.n,e.pad.c.n,e.pad.d.n⟩,e.bD,!e.high.auto,pW e kids t.p (cv [cv (jT e),pG e t])⟩
def oZ (e:Ed) (x:Ao) (kids:Nat) (r:Option La×Bool):Option (Fm×La):=if r.2=true then r.1.bind fun t=>if fV (jT e)=true∧fV [cv (jT e),pG e t]=true then some (tU e x kids t,t) else none else none
theorem UB (l:List Nd) (hb:l.length≤8589934592) (n:Int) (e:Ed) (x:Ao) (r:Option La×Bool) (hr:r.2=true→r.1.isSome=true)
 (hI:aI Go.Proofs.Tryz.prog 49 [.rv (cu l),.rv (.int .i64 n),.rv (.int .i64 x.w),(mG e).sv,e.sv,.rv (.int .i64 (-1))] [] [] (.aP [.agg ((bk r.1).map .rv),.rv (.bool r.2)])) :
 aI Go.Proofs.Tryz.prog 67 [.rv (cu l),.rv (.int .i64 n),e.sv,.agg (x.cells.map .rv)] [] [] (lE (oZ e x (bu l n).length r)):=by
 refine bt Qx [.rv (cu l),.rv (.int .i64 n),e.sv,.agg (x.cells.map .rv)] _ (by simp) (by simp [aO,aW,bp,aS,bg,aC.sv,Ln.sv,Nd.sv]) (fun K hK=>?_)
 obtain ⟨o,ok⟩:=r
 have hc:=Iz e.high.n e.least e.most
 have hf:=Iw l n hb
 have hfl:=zj (bu l n)
 have o1:=nj e.bF.a 0
 have o2:=nj e.bF.c 0
 have ha:=Uu e
 cases ok with
 | false=>
   have e1:oZ e x (bu l n).length (o,false)=none:=rfl
   rw [e1] at hK
   obtain ⟨u,hu,ir⟩:∃ u,bk o=u∧u.length=9:=⟨_,rfl,by cases o <;> rfl⟩
   rw [hu] at hI
   have q1:(u.map SV.rv).length=9:=by simp [ir]
   have q2:(u.map SV.rv).drop 9=[]:=List.drop_of_length_le (by omega)
   have q3:(u.map SV.rv).take 9=u.map SV.rv:=List.take_of_length_le (by omega)
   simp -implicitDefEqProofs only [mG] at hI
   simp -implicitDefEqProofs only [Ed.sv,Ed.cells,Q4.hU,Q4.ints,Sz.sv,Sz.cells,List.map_cons,List.map_nil,List.cons_append,List.nil_append] at hI
   conv in fc _ _ _ _=>reduce
   simp -implicitDefEqProofs only [Ed.sv,Ed.cells,Q4.hU,Q4.ints,Ao.cells,go_sem,Int.reduceNegSucc]
   cases hh:e.high.auto <;> simp -implicitDefEqProofs only [hh,Bool.false_eq_true,if_true,if_false] at hI ⊢
   all_goals ((have aT:=hc;have y_2:=hI;repeat' (first | (simp -implicitDefEqProofs only [go_sem,Int.reduceNegSucc,ir,q2,q3,List.length_map,List.append_nil]) | (with_reducible refine aA ?_) | (with_reducible first | refine af aT ?_ | refine ag aT ?_) | (with_reducible first | refine af y_2 ?_ | refine ag y_2 ?_) | ((first | refine ai (fun hg=>?_) (fun hg=>?_) | refine ax (fun hg=>?_) (fun hg=>?_) | refine ay (fun hg=>?_) (fun hg=>?_)) <;> try simp -implicitDefEqProofs only [hg,Bool.not_true,Bool.not_false]) | ((with_reducible apply And.intro);focus (first | trivial | omega | decide | (simp -implicitDefEqProofs only [maxLen];omega) | (simp [maxLen,ah,ak,an,av,aj,au,aq] <;> omega))) | fail)))
   all_goals (refine (hK _ _ ?_).2;simp -implicitDefEqProofs only [go_sem,Int.reduceNegSucc,aQ,aR,aV,bf,aH,aG,aF,bN,bk,Option.map,Option.isSome])
 | true=>
   obtain ⟨t,rfl⟩:=Option.isSome_iff_exists.1 (hr rfl)
   have e1:oZ e x (bu l n).length (some t,true)=if fV (jT e)=true∧fV [cv (jT e),pG e t]=true then some (tU e x (bu l n).length t,t) else none:=rfl
   rw [e1] at hK
   have s1:=fun id=>uF id [cv (jT e),pG e t] (by simp)
   have lR:=Iz t.high e.least e.most
   have qg:=Uy e (bu l n).length (.sl 1 (aM t.ys)) t.p (cv [cv (jT e),pG e t])
   simp -implicitDefEqProofs only [tU] at hK
   generalize pW e (bu l n).length t.p (cv [cv (jT e),pG e t])=C at *
   generalize bn e.bF.a 0=O1 at *
   generalize bn e.bF.c 0=O2 at *
   generalize jT e=A at *
   simp -implicitDefEqProofs only [mG,pG] at hI s1 qg hK
   simp -implicitDefEqProofs only [lT,bk,ie,Pl.cells,Ed.sv,Ed.cells,Q4.hU,Q4.ints,Sz.sv,Sz.cells,Ch.cells,List.map_cons,List.map_nil,List.cons_append,List.nil_append,List.length_cons,List.length_nil,Nat.reduceAdd] at hI qg ha o1 o2 s1
   conv in fc _ _ _ _=>reduce
   simp -implicitDefEqProofs only [Ed.sv,Ed.cells,Q4.hU,Q4.ints,Ao.cells,go_sem,Int.reduceNegSucc]
   cases hh:e.high.auto <;> simp -implicitDefEqProofs only [hh,Bool.false_eq_true,if_true,if_false] at hI ha s1 qg hK ⊢
   all_goals ((have bA:=hc;have bC:=lR;have bH:=hI;have bJ:=ha;have bL:=s1;have bQ:=o1;have bZ:=o2;repeat' (first | (simp -implicitDefEqProofs only [go_sem,Int.reduceNegSucc]) | (with_reducible refine aA ?_) | (with_reducible first | refine af bA ?_ | refine ag bA ?_) | (with_reducible first | refine af bC ?_ | refine ag bC ?_) | (with_reducible first | refine af bH ?_ | refine ag bH ?_) | (with_reducible first | refine af bJ ?_ | refine ag bJ ?_) | ((first | refine bS (bL _) ?_ ?_ ?_ | refine ck (bL _) ?_ ?_ ?_ | fail);(focus (simp [aY,aB] <;> fail));(focus (simp [bq,aX] <;> fail))) | (with_reducible first | refine af bQ ?_ | refine ag bQ ?_) | (with_reducible first | refine af bZ ?_ | refine ag bZ ?_) | ((first | refine ai (fun hg=>?_) (fun hg=>?_) | refine ax (fun hg=>?_) (fun hg=>?_) | refine ay (fun hg=>?_) (fun hg=>?_)) <;> try simp -implicitDefEqProofs only [hg,Bool.not_true,Bool.not_false]) | ((with_reducible apply And.intro);focus (first | trivial | omega | decide | (simp -implicitDefEqProofs only [maxLen];omega) | (simp [maxLen,ah,ak,an,av,aj,au,aq] <;> omega))) | fail)))
   all_goals first | (refine jH 5 ?_;(have cm:=hf;have fO:=qg;repeat' (first | (simp -implicitDefEqProofs only [go_sem,Int.reduceNegSucc,jM,jN,jO,jP,jQ,jR,jD,Int.reduceLT,decide_true,decide_false,Int.reduceToNat,Nat.reduceMul,hfl]) | (with_reducible refine aA ?_) | (with_reducible show G _ _ (It.l _ _::_) _ _ _;refine jG ?_) | (with_reducible first | refine af cm ?_ | refine ag cm ?_) | (with_reducible first | refine af fO ?_ | refine ag fO ?_) | ((first | refine ai (fun hg=>?_) (fun hg=>?_) | refine ax (fun hg=>?_) (fun hg=>?_) | refine ay (fun hg=>?_) (fun hg=>?_)) <;> try simp -implicitDefEqProofs only [hg,Bool.not_true,Bool.not_false]) | ((with_reducible apply And.intro);focus (first | trivial | omega | decide | (simp -implicitDefEqProofs only [maxLen];omega) | (simp [maxLen,ah,ak,an,av,aj,au,aq] <;> omega))) | fail))) | skip
   all_goals (refine (hK _ _ ?_).2;clear hK;simp -implicitDefEqProofs only [go_sem,Int.reduceNegSucc,aQ,aR,aV,bf,aH,aG,aF,bN,bk,Fm.cells,Q4.ints,Ch.cells,Pl.cells,Option.map,Option.isSome] <;>(try simp_all [-Int.not_lt,-Int.not_le,aH,aG,aF,bB,bN,bk,Fm.cells,Q4.ints,Ch.cells,Pl.cells,Option.map,Option.isSome]) <;> try omega)
end Go.aL

namespace Go.aL
open Go
def cq (l:List Nd) (n:Int) (w:Int) (h:Sz):Ed:=vh (bP l n) w h (decide (n=0) || (bP l n).clip)
def okB (l:List Nd) (n:Int) (w:Int) (h:Sz):Bool:=rZ (bP l n) w h && fV (nv (cq l n w h)) && gX (bP l n).width w true && gX (bP l n).jv w true && gX (bP l n).ju w true
def qB (l:List Nd) (n:Int) (w:Int) (h:Sz) (bT:Bool):Ai:=⟨w,(cq l n w h).bF.d,fT (bP l n).width w true,(cq l n w h).bF.b,cv (nv (cq l n w h)),bT,bn (fT (bP l n).jv w true) 0,bn (fT (bP l n).ju w true) 1125899906842624⟩
def rV (l:List Nd) (ins:Ed→Ao→Option La×Bool) (n:Int) (w:Int) (h:Sz) (bT:Bool):Option (Fm×La):=
 if okB l n w h=true then (nt (qB l n w h bT)).bind fun x=>oZ (cq l n w h) x (bu l n).length (ins (cq l n w h) x) else none
theorem Hg {x:Ln} {b d:Int} {has:Bool} (h:gX x b has=true) (hd:bR d=true):bR (bn (fT x b has) d)=true:=by
 unfold fT
 split
 ·simpa [bn] using hd
 ·split
  ·rename_i h1;simpa [bn] using h1.2
  ·split
   ·rename_i h1 h2 h3
    simp [h3] at h1
    simp [gX,h3,h1] at h
    simp -implicitDefEqProofs only [bn,Bool.false_eq_true,if_false,lM,h,if_true]
    unfold lg at h;simp at h;exact h.2
   ·rfl
theorem Ux (l:List Nd) (hb:l.length≤8589934592) (n:Int) (w:Int) (h:Sz) (bT:Bool) (ins:Ed→Ao→Option La×Bool) (hr:∀ e x,(ins e x).2=true→(ins e x).1.isSome=true)
 (hI:∀ x:Ao,aI Go.Proofs.Tryz.prog 49 [.rv (cu l),.rv (.int .i64 n),.rv (.int .i64 x.w),(mG (cq l n w h)).sv,(cq l n w h).sv,.rv (.int .i64 (-1))] [] [] (.aP [.agg ((bk (ins (cq l n w h) x).1).map .rv),.rv (.bool (ins (cq l n w h) x).2)])) :
 aI Go.Proofs.Tryz.prog 30 [.rv (cu l),.rv (.int .i64 n),.rv (.int .i64 w),h.sv,.rv (.bool bT)] [] [] (lE (rV l ins n w h bT)):=by
 refine bt Qt [.rv (cu l),.rv (.int .i64 n),.rv (.int .i64 w),h.sv,.rv (.bool bT)] _ (by simp) (by simp [aO,aW,bp,aS,bg,aC.sv,Ln.sv,Nd.sv]) (fun K hK=>?_)
 have hst:=Iy l n
 have h0:((n == 0):Bool)=decide (n=0):=by rw [Bool.eq_iff_iff];simp
 have he:=UA (bP l n) w h (decide (n=0) || (bP l n).clip)
 have ha:=Uv (cq l n w h)
 have h1:=rB (bP l n).width w true
 have h2:=IL (bP l n).jv w true
 have h3:=IM (bP l n).ju w true
 have qP:=fun x=>UB l hb n (cq l n w h) x (ins (cq l n w h) x) (hr _ _) (hI x)
 have hac:=fun a b=>Ut (qB l n w h bT) a b
 have f1:=fun hq=>Hg (x:=(bP l n).jv) (b:=w) (has:=true) hq (d:=0) rfl
 have f2:=fun hq=>Hg (x:=(bP l n).ju) (b:=w) (has:=true) hq (d:=1125899906842624) rfl
 clear hI
 rw [show vh (bP l n) w h (decide (n=0) || (bP l n).clip)=cq l n w h from rfl] at he
 unfold qB at hac
 unfold rV qB okB at hK
 generalize hee:cq l n w h=e at *
 generalize fT (bP l n).width w true=W at *
 generalize bn (fT (bP l n).jv w true) 0=L at *
 generalize bn (fT (bP l n).ju w true) 1125899906842624=X at *
 generalize bP l n=s at *
 have q1:(s.cells.map SV.rv).length=48:=rfl
 generalize hA:cv (nv e)=A at *
 generalize Wu:fV (nv e)=Kh at *
 generalize rZ s w h=b1 at *
 generalize gX s.width w true=b2 at *
 generalize gX s.jv w true=b3 at *
 generalize gX s.ju w true=b4 at *
 simp -implicitDefEqProofs only [Ed.sv,Ed.cells,Q4.hU,Q4.ints,Sz.sv,Sz.cells,Ai.sv,Ai.cells,List.map_cons,List.map_nil,List.cons_append,List.nil_append] at he ha h1 h2 h3 qP hac
 conv in fc _ _ _ _=>reduce
 simp -implicitDefEqProofs only [Sz.sv,Sz.cells,go_sem,Int.reduceNegSucc]
 cases hall:(b1 && Kh && b2 && b3 && b4) with
 | true=>
   simp -implicitDefEqProofs only [Bool.and_eq_true] at hall
   obtain ⟨⟨⟨⟨rfl,rfl⟩,rfl⟩,rfl⟩,rfl⟩:=hall
   have hx:=hac (f1 rfl) (f2 rfl)
   simp -implicitDefEqProofs only [Bool.and_self,if_true] at hK
   generalize nt ⟨w,e.bF.d,W,e.bF.b,A,bT,L,X⟩=o at *
   cases o with
   | none=>
     simp -implicitDefEqProofs only [iB,Option.isSome,Ao.cells,List.map_cons,List.map_nil,Option.bind] at hx hK
     cases hn0:decide (n=0) <;> rw [hn0] at he h0 <;> simp -implicitDefEqProofs only [Bool.true_or,Bool.false_or] at he
     all_goals ((have aT:=hst;have y_2:=he;have bA:=ha;have bC:=h1;have bH:=h2;have bJ:=h3;have bL:=hx;repeat' (first | (simp -implicitDefEqProofs only [go_sem,Int.reduceNegSucc,q1,cD,dY,cE,dZ,cP,eA,dc,eM,dy,eY,dI,fq,dJ,fu,dK,fy,dL,fA,dM,fB,cF,ec,cG,ee,cH,eg,cI,ek,cJ,ep,cK,er,cL,eu,cM,ew,cN,ey,cO,ez,cQ,eC,cR,eD,cS,eE,cT,eF,cU,eG,cV,eH,cW,eI,cX,eJ,cY,eK,cZ,eL,de,eN,dg,eO,dh,eP,di,eR,dj,eS,dm,eT,dn,eU,dr,eV,dw,eW,dx,eX,dz,eZ,dA,fe,cB,ff,dB,fh,dD,fj,dF,fk,dG,fm,dH,fo,dS,dN,dO,dP,dQ,dR,dU,dV,dW,dX,cC,cA,ah,h0]) | (with_reducible refine aA ?_) | (with_reducible first | refine af aT ?_ | refine ag aT ?_) | (with_reducible first | refine af y_2 ?_ | refine ag y_2 ?_) | (with_reducible first | refine af bA ?_ | refine ag bA ?_) | (with_reducible first | refine af bC ?_ | refine ag bC ?_) | (with_reducible first | refine af bH ?_ | refine ag bH ?_) | (with_reducible first | refine af bJ ?_ | refine ag bJ ?_) | (with_reducible first | refine af bL ?_ | refine ag bL ?_) | ((first | refine ai (fun hg=>?_) (fun hg=>?_) | refine ax (fun hg=>?_) (fun hg=>?_) | refine ay (fun hg=>?_) (fun hg=>?_)) <;> try simp -implicitDefEqProofs only [hg,Bool.not_true,Bool.not_false]) | ((with_reducible apply And.intro);focus (first | trivial | omega | decide | (simp -implicitDefEqProofs only [maxLen];omega) | (simp [maxLen,ah,ak,an,av,aj,au,aq] <;> omega))) | fail)))
     all_goals (refine (hK _ _ ?_).2;clear hK;simp -implicitDefEqProofs only [go_sem,Int.reduceNegSucc,aQ,aR,aV,bf,aH,aG,aF,bN,bk,Option.map,Option.isSome] <;>(try simp_all [-Int.not_lt,-Int.not_le,aH,aG,aF,bB,bN,bk,Option.map,Option.isSome]) <;> try omega)
   | some x=>
     have hfl:=qP x
     simp -implicitDefEqProofs only [iB,Option.isSome,Ao.cells,List.map_cons,List.map_nil,Option.bind] at hx hK hfl
     generalize oZ e x (bu l n).length (ins e x)=r at *
     obtain ⟨u,hu,ir⟩:∃ u,bN (r.map (·.1))=u∧u.length=25:=⟨_,rfl,by cases r <;> rfl⟩
     obtain ⟨v,hv,hvl⟩:∃ v,bk (r.map (·.2))=v∧v.length=9:=⟨_,rfl,by cases r <;> rfl⟩
     simp -implicitDefEqProofs only [lE] at hfl hK
     rw [hu,hv] at hfl hK
     have u1:(u.map SV.rv).drop 25=[]:=List.drop_of_length_le (by simp [ir])
     have u2:(u.map SV.rv).take 25=u.map SV.rv:=List.take_of_length_le (by simp [ir])
     have v1:(v.map SV.rv).drop 9=[]:=List.drop_of_length_le (by simp [hvl])
     have v2:(v.map SV.rv).take 9=v.map SV.rv:=List.take_of_length_le (by simp [hvl])
     cases hn0:decide (n=0) <;> rw [hn0] at he h0 <;> simp -implicitDefEqProofs only [Bool.true_or,Bool.false_or] at he
     all_goals ((have bQ:=hst;have bZ:=he;have cm:=ha;have fO:=h1;have gj:=h2;have gQ:=h3;have gR:=hx;have gS:=hfl;repeat' (first | (simp -implicitDefEqProofs only [go_sem,Int.reduceNegSucc,q1,cD,dY,cE,dZ,cP,eA,dc,eM,dy,eY,dI,fq,dJ,fu,dK,fy,dL,fA,dM,fB,cF,ec,cG,ee,cH,eg,cI,ek,cJ,ep,cK,er,cL,eu,cM,ew,cN,ey,cO,ez,cQ,eC,cR,eD,cS,eE,cT,eF,cU,eG,cV,eH,cW,eI,cX,eJ,cY,eK,cZ,eL,de,eN,dg,eO,dh,eP,di,eR,dj,eS,dm,eT,dn,eU,dr,eV,dw,eW,dx,eX,dz,eZ,dA,fe,cB,ff,dB,fh,dD,fj,dF,fk,dG,fm,dH,fo,dS,dN,dO,dP,dQ,dR,dU,dV,dW,dX,cC,cA,ah,h0,ir,hvl,u1,u2,v1,v2,List.length_map,List.append_nil]) | (with_reducible refine aA ?_) | (with_reducible first | refine af bQ ?_ | refine ag bQ ?_) | (with_reducible first | refine af bZ ?_ | refine ag bZ ?_) | (with_reducible first | refine af cm ?_ | refine ag cm ?_) | (with_reducible first | refine af fO ?_ | refine ag fO ?_) | (with_reducible first | refine af gj ?_ | refine ag gj ?_) | (with_reducible first | refine af gQ ?_ | refine ag gQ ?_) | (with_reducible first | refine af gR ?_ | refine ag gR ?_) | (with_reducible first | refine af gS ?_ | refine ag gS ?_) | ((first | refine ai (fun hg=>?_) (fun hg=>?_) | refine ax (fun hg=>?_) (fun hg=>?_) | refine ay (fun hg=>?_) (fun hg=>?_)) <;> try simp -implicitDefEqProofs only [hg,Bool.not_true,Bool.not_false]) | ((with_reducible apply And.intro);focus (first | trivial | omega | decide | (simp -implicitDefEqProofs only [maxLen];omega) | (simp [maxLen,ah,ak,an,av,aj,au,aq] <;> omega))) | fail)))
     all_goals (refine (hK _ _ ?_).2;simp -implicitDefEqProofs only [go_sem,Int.reduceNegSucc,aQ,aR,aV,bf,aH,aG,aF,fU,ir,hvl,u2,v2,List.length_map,List.drop_zero])
 | false=>
   simp -implicitDefEqProofs only [hall,Bool.false_eq_true,if_false] at hK
   cases hn0:decide (n=0) <;> rw [hn0] at he h0 <;> simp -implicitDefEqProofs only [Bool.true_or,Bool.false_or] at he
   all_goals ((have gT:=hst;have gU:=he;have gV:=ha;have iM:=h1;have iN:=h2;have kk:=h3;repeat' (first | (simp -implicitDefEqProofs only [go_sem,Int.reduceNegSucc,q1,cD,dY,cE,dZ,cP,eA,dc,eM,dy,eY,dI,fq,dJ,fu,dK,fy,dL,fA,dM,fB,cF,ec,cG,ee,cH,eg,cI,ek,cJ,ep,cK,er,cL,eu,cM,ew,cN,ey,cO,ez,cQ,eC,cR,eD,cS,eE,cT,eF,cU,eG,cV,eH,cW,eI,cX,eJ,cY,eK,cZ,eL,de,eN,dg,eO,dh,eP,di,eR,dj,eS,dm,eT,dn,eU,dr,eV,dw,eW,dx,eX,dz,eZ,dA,fe,cB,ff,dB,fh,dD,fj,dF,fk,dG,fm,dH,fo,dS,dN,dO,dP,dQ,dR,dU,dV,dW,dX,cC,cA,ah,h0]) | (with_reducible refine aA ?_) | (with_reducible first | refine af gT ?_ | refine ag gT ?_) | (with_reducible first | refine af gU ?_ | refine ag gU ?_) | (with_reducible first | refine af gV ?_ | refine ag gV ?_) | (with_reducible first | refine af iM ?_ | refine ag iM ?_) | (with_reducible first | refine af iN ?_ | refine ag iN ?_) | (with_reducible first | refine af kk ?_ | refine ag kk ?_) | ((first | refine ai (fun hg=>?_) (fun hg=>?_) | refine ax (fun hg=>?_) (fun hg=>?_) | refine ay (fun hg=>?_) (fun hg=>?_)) <;> try simp -implicitDefEqProofs only [hg,Bool.not_true,Bool.not_false]) | ((with_reducible apply And.intro);focus (first | trivial | omega | decide | (simp -implicitDefEqProofs only [maxLen];omega) | (simp [maxLen,ah,ak,an,av,aj,au,aq] <;> omega))) | fail)))
   all_goals first | (exfalso;simp_all;done) | skip
   all_goals (refine (hK _ _ ?_).2;clear hK;simp -implicitDefEqProofs only [go_sem,Int.reduceNegSucc,aQ,aR,aV,bf,aH,aG,aF,bN,bk,Option.map,Option.isSome] <;>(try simp_all [-Int.not_lt,-Int.not_le,aH,aG,aF,bB,bN,bk,Option.map,Option.isSome]) <;> try omega)
end Go.aL

namespace Go.aL
open Go
theorem Qi:aU Go.Proofs.Tryz.prog 33 115 (fc Go.Proofs.Tryz.prog 33 115 [(.c 8 24 true),(.t 9)]) [(.c 8 24 true),(.t 9)]:=bl (by kernel_rfl)
theorem Vp (l:List Ch) (o:Bool) (hb:l.length≤1000000) (j v m:Nat) (sF:j≠m):aI Go.Proofs.Tryz.prog 45 [.row j v l.length,.rv (.bool o)] [(j,.row 8 v (aN (gF l)))] (kP m (jy l o)) (.aP [mc m (jy l o),.rv (.bool (jy l o).isSome)]):=by
 refine uY (iU:=[.rv (.sl 8 (gF l)),.rv (.bool o)]) (Vo l o hb m) rfl (fun hp hpre k y r hy hr=>?_) (EI fun y hy=>?_) (fun q hq=>?_)
 ·match k with
  | 0=>
    cases hy;cases hr
    have:=om (h:=hp) (τ:=fun _=>none) (j:=j) (e:=8) (az:=v) (len:=l.length) (xs:=gF l) (hpre _ (.head _)) rfl (by rw [oe];omega) (fun x hx r hr=>by
     obtain ⟨c,_,rfl⟩:=List.mem_map.1 hx
     simp -implicitDefEqProofs only [Ch.cells,List.mem_cons,List.not_mem_nil,or_false] at hr
     rcases hr with rfl | rfl | rfl | rfl | rfl | rfl | rfl | rfl <;> rfl)
    rw [List.take_of_length_le (by rw [oe];omega)] at this
    exact .fz _ _ this
  | 1=>cases hy;cases hr;exact aG.2 rfl
  | k+2=>simp at hy
 ·simp -implicitDefEqProofs only [List.mem_cons,List.not_mem_nil,or_false] at hy
  rcases hy with rfl | rfl
  ·exact HO _ _
  ·exact .rv _ (.bool _)
 ·revert hq
  cases jy l o with
  | none=>simp [kP]
  | some z=>
    simp -implicitDefEqProofs only [kP,List.mem_singleton]
    rintro rfl
    refine ⟨Kf _,fun p hp=>?_⟩
    subst hp
    exact sF
structure Kn where
 bF:Q4 Sz
 pad:Q4 Sz
 high:Sz
 least:Int
 most:Int
 top:Bool
 bottom:Bool
 alone:Bool
 empty:Bool
def Kn.cells (e:Kn):List RV:=e.bF.hU++e.pad.hU++[.bool e.high.auto,.int .i64 e.high.n,.int .i64 e.least,.int .i64 e.most,.bool e.top,.bool e.bottom,.bool e.alone,.bool e.empty]
abbrev Kn.sv (e:Kn):SV:=.agg (e.cells.map .rv)
def wh (l:List Nd) (n:Int) (w:Int) (h:Sz):Kn:=⟨(cq l n w h).bF,(cq l n w h).pad,(cq l n w h).high,(cq l n w h).least,(cq l n w h).most,rF (bP l n) w,qE (bP l n) w,decide (n=0) || (bP l n).clip,decide ((bu l n).length=0)⟩
theorem Ja (x:Nd):(x.cells.map SV.rv).take 48=x.s.cells.map SV.rv:=rfl
theorem UN (l:List Nd) (ht:fW l=true) (hb:l.length≤1000000) (n:Nat) (hn:n<l.length) (w:Int) (h:Sz):aI Go.Proofs.Tryz.prog 33 [.rv (.sl 49 (bw l)),.rv (.int .i64 n),.rv (.int .i64 w),h.sv] [] [] (.aP [(wh l n w h).sv,.rv (.bool (rZ (bP l n) w h))]):=by
 refine bt Qi [.rv (.sl 49 (bw l)),.rv (.int .i64 n),.rv (.int .i64 w),h.sv] _ (by simp) (by simp [aO,aW,bp,aS,bg,aC.sv,Ln.sv,Nd.sv]) (fun K hK=>?_)
 have hl:=an l
 have hx:=iS hn
 have hf:=Vm l ht (by omega) n hn
 have hfl:=zj (bu l n)
 have ji:bP l n=(l[n]'hn).s:=by simp [bP,sM hn,hn]
 rw [ji] at hK
 have h0:(((n:Int) == 0):Bool)=decide ((n:Int)=0):=by rw [Bool.eq_iff_iff];simp
 have hk:((((bu l n).length:Nat):Int) == 0)=decide ((bu l n).length=0):=by rw [Bool.eq_iff_iff];simp
 simp -implicitDefEqProofs only [wh,cq,vh,ji,rF,qE,wq,rZ] at hK
 generalize l[n]'hn=x at *
 have x1:=GZ x
 have x2:=ak x
 have x3:=Ja x
 generalize x.s=s at *
 have h1:=IF s.bF w
 have h2:=IF s.pad w
 have h3:=rA s.height h.n (!h.auto)
 have h4:=IE s.kg s.kf h.n (!h.auto)
 simp -implicitDefEqProofs only [Q4.hU,Sz.sv,Sz.cells,List.map_cons,List.map_nil] at h1 h2 h3 h4
 generalize mM s.bF w=M at *
 generalize mM s.pad w=D at *
 generalize fT s.height h.n (!h.auto)=H at *
 generalize bn (fT s.kg h.n (!h.auto)) 0=L at *
 generalize bn (fT s.kf h.n (!h.auto)) 1125899906842624=X at *
 generalize bu l n=FL at *
 conv in fc _ _ _ _=>reduce
 simp -implicitDefEqProofs only [Sz.sv,Sz.cells,go_sem,Int.reduceNegSucc]
 have aT:=h1;have y_2:=h2;have bA:=h3;have bC:=h4;have bH:=hf;repeat' (first | (simp -implicitDefEqProofs only [go_sem,Int.reduceNegSucc,hl,hx,x1,x2,x3,cD,dY,cE,dZ,cP,eA,dc,eM,dy,eY,dI,fq,dJ,fu,dK,fy,dL,fA,dM,fB,cF,ec,cG,ee,cH,eg,cI,ek,cJ,ep,cK,er,cL,eu,cM,ew,cN,ey,cO,ez,cQ,eC,cR,eD,cS,eE,cT,eF,cU,eG,cV,eH,cW,eI,cX,eJ,cY,eK,cZ,eL,de,eN,dg,eO,dh,eP,di,eR,dj,eS,dm,eT,dn,eU,dr,eV,dw,eW,dx,eX,dz,eZ,dA,fe,cB,ff,dB,fh,dD,fj,dF,fk,dG,fm,dH,fo,dS,dN,dO,dP,dQ,dR,dU,dV,dW,dX,cC,cA,ah,Q4.ints,hfl,h0,hk]) | (with_reducible refine aA ?_) | (with_reducible first | refine af aT ?_ | refine ag aT ?_) | (with_reducible first | refine af y_2 ?_ | refine ag y_2 ?_) | (with_reducible first | refine af bA ?_ | refine ag bA ?_) | (with_reducible first | refine af bC ?_ | refine ag bC ?_) | (with_reducible first | refine af bH ?_ | refine ag bH ?_) | ((first | refine ai (fun hg=>?_) (fun hg=>?_) | refine ax (fun hg=>?_) (fun hg=>?_) | refine ay (fun hg=>?_) (fun hg=>?_)) <;> try simp -implicitDefEqProofs only [hg,Bool.not_true,Bool.not_false]) | ((with_reducible apply And.intro);focus (first | trivial | omega | decide | (simp -implicitDefEqProofs only [maxLen];omega) | (simp [maxLen,ah,ak,an,av,aj,au,aq] <;> omega))) | fail)
 all_goals (refine (hK _ _ ?_).2;clear hK;simp -implicitDefEqProofs only [go_sem,Int.reduceNegSucc,aQ,aR,aV,bf,aH,aG,aF,Kn.cells,Q4.hU] <;>(try simp_all [-Int.not_lt,-Int.not_le,aH,aG,aF,bB,Kn.cells,Q4.hU]) <;> try omega)
end Go.aL

namespace Go.aL
open Go
theorem Qh:aU Go.Proofs.Tryz.prog 40 104 (fc Go.Proofs.Tryz.prog 40 104 [(.c 10 8 true)]) [(.c 10 8 true)]:=bl (by kernel_rfl)
theorem Mi (f:Fm):(f.cells.map SV.rv)[4]?=some (.rv (.int .i64 f.bF.a)):=rfl
theorem Mj (f:Fm):(f.cells.map SV.rv)[6]?=some (.rv (.int .i64 f.bF.c)):=rfl
theorem Vt (k:Kn) (f:Fm) (y:RV) (p:Pl) (ob:Bool) (high:Int) (e:Ed) (kids:Nat) (h1:e.flat=(!k.alone && k.top && k.bottom && (k.least == 0))) (h2:k.empty=decide (kids=0)) (h3:k.high=e.high) (h4:f.bF.a=bn e.bF.a 0) (h5:f.bF.c=bn e.bF.c 0) (h6:ob=e.lK) :
 aI Go.Proofs.Tryz.prog 40 [k.sv,.agg (f.cells.map .rv),.agg ((ie y p).map .rv),.rv (.bool ob),.rv (.int .i64 high)] [] [] (.agg ((pW e kids p high).cells.map .rv)):=by
 refine bt Qh [k.sv,.agg (f.cells.map .rv),.agg ((ie y p).map .rv),.rv (.bool ob),.rv (.int .i64 high)] _ (by simp) (by simp [aO,aW,bp,aS,bg,aC.sv,Ln.sv,Nd.sv]) (fun K hK=>?_)
 have s1:=IG f.bF.a
 have s2:=IG f.bF.c
 subst h6
 simp -implicitDefEqProofs only [pW,wR,← h3,← h4,← h5,h1] at hK
 have fl:f.cells.length=25:=rfl
 have m0:=Mi f
 have m2:=Mj f
 generalize (⟨max f.bF.a 0,min f.bF.a 0⟩:Su)=A at *
 generalize (⟨max f.bF.c 0,min f.bF.c 0⟩:Su)=B at *
 have j1:=uH A p.top
 have j2:=uH (fM A p.top) B
 have j3:=uH B p.cur
 obtain ⟨T,hT⟩:∃ T,T=(!k.alone && k.top && k.bottom && (k.least == 0)):=⟨_,rfl⟩
 rw [← hT] at hK
 generalize fM A p.top=I at *
 clear h1 h3 h4 h5
 simp -implicitDefEqProofs only [Kn.sv,Kn.cells,ie,Pl.cells,Q4.hU,Su.sv,Su.cells,List.map_cons,List.map_nil,List.cons_append,List.nil_append] at s1 s2 j1 j2 j3
 conv in fc _ _ _ _=>reduce
 simp -implicitDefEqProofs only [Kn.sv,Kn.cells,ie,Pl.cells,Q4.hU,go_sem,Int.reduceNegSucc]
 by_cases yJ:kids=0
 ·have hem:k.empty=true:=by rw [h2];simp [yJ]
  simp -implicitDefEqProofs only [yJ,if_true,Nat.lt_irrefl,and_false,if_false] at hK
  cases oq:k.alone <;> cases vP:k.top <;> cases mD:k.bottom <;> simp -implicitDefEqProofs only [oq,vP,mD,Bool.not_true,Bool.not_false,Bool.false_and,Bool.true_and,Bool.and_false] at hT
  all_goals (try subst hT)
  all_goals ((have aT:=s1;have y_2:=s2;have bA:=j1;have bC:=j2;have bH:=j3;repeat' (first | (simp -implicitDefEqProofs only [go_sem,Int.reduceNegSucc,hem,oq,vP,mD,fl,m0,m2,List.length_map]) | (with_reducible refine aA ?_) | ((first | refine bS (aT _) ?_ ?_ ?_ | refine ck (aT _) ?_ ?_ ?_ | fail);(focus (simp [aY,aB] <;> fail));(focus (simp [bq,aX] <;> fail))) | ((first | refine bS (y_2 _) ?_ ?_ ?_ | refine ck (y_2 _) ?_ ?_ ?_ | fail);(focus (simp [aY,aB] <;> fail));(focus (simp [bq,aX] <;> fail))) | (with_reducible first | refine af bA ?_ | refine ag bA ?_) | (with_reducible first | refine af bC ?_ | refine ag bC ?_) | (with_reducible first | refine af bH ?_ | refine ag bH ?_) | ((first | refine ai (fun hg=>?_) (fun hg=>?_) | refine ax (fun hg=>?_) (fun hg=>?_) | refine ay (fun hg=>?_) (fun hg=>?_)) <;> try simp -implicitDefEqProofs only [hg,Bool.not_true,Bool.not_false]) | ((with_reducible apply And.intro);focus (first | trivial | omega | decide | (simp -implicitDefEqProofs only [maxLen];omega) | (simp [maxLen,ah,ak,an,av,aj,au,aq] <;> omega))) | fail)))
  all_goals (refine (hK _ _ ?_).2;clear hK;simp -implicitDefEqProofs only [go_sem,Int.reduceNegSucc,aQ,aR,aV,bf,aH,aG,aF,Ch.cells] <;>(try simp_all [-Int.not_lt,-Int.not_le,aH,aG,aF,bB,Ch.cells]) <;> try omega)
 ·have hem:k.empty=false:=by rw [h2];simp [yJ]
  have hkp:0<kids:=by omega
  simp -implicitDefEqProofs only [yJ,hkp,if_false,and_true] at hK
  cases oq:k.alone <;> cases vP:k.top <;> cases mD:k.bottom <;> simp -implicitDefEqProofs only [oq,vP,mD,Bool.not_true,Bool.not_false,Bool.false_and,Bool.true_and,Bool.and_false] at hT
  all_goals (try subst hT)
  all_goals ((have bJ:=s1;have bL:=s2;have bQ:=j1;have bZ:=j2;have cm:=j3;repeat' (first | (simp -implicitDefEqProofs only [go_sem,Int.reduceNegSucc,hem,oq,vP,mD,fl,m0,m2,List.length_map]) | (with_reducible refine aA ?_) | ((first | refine bS (bJ _) ?_ ?_ ?_ | refine ck (bJ _) ?_ ?_ ?_ | fail);(focus (simp [aY,aB] <;> fail));(focus (simp [bq,aX] <;> fail))) | ((first | refine bS (bL _) ?_ ?_ ?_ | refine ck (bL _) ?_ ?_ ?_ | fail);(focus (simp [aY,aB] <;> fail));(focus (simp [bq,aX] <;> fail))) | (with_reducible first | refine af bQ ?_ | refine ag bQ ?_) | (with_reducible first | refine af bZ ?_ | refine ag bZ ?_) | (with_reducible first | refine af cm ?_ | refine ag cm ?_) | ((first | refine ai (fun hg=>?_) (fun hg=>?_) | refine ax (fun hg=>?_) (fun hg=>?_) | refine ay (fun hg=>?_) (fun hg=>?_)) <;> try simp -implicitDefEqProofs only [hg,Bool.not_true,Bool.not_false]) | ((with_reducible apply And.intro);focus (first | trivial | omega | decide | (simp -implicitDefEqProofs only [maxLen];omega) | (simp [maxLen,ah,ak,an,av,aj,au,aq] <;> omega))) | fail)))
  all_goals (refine (hK _ _ ?_).2;clear hK;simp -implicitDefEqProofs only [go_sem,Int.reduceNegSucc,aQ,aR,aV,bf,aH,aG,aF,Ch.cells] <;>(try simp_all [-Int.not_lt,-Int.not_le,aH,aG,aF,bB,Ch.cells]) <;> try omega)
end Go.aL

namespace Go.aL
open Go
theorem Qy:aU Go.Proofs.Tryz.prog 49 160 (fc Go.Proofs.Tryz.prog 49 160 [(.c 12 9 true),(.t 13)]) [(.c 12 9 true),(.t 13)]:=bl (by kernel_rfl)
def oa (r:Nat×Fm×La):List (Nat×Fm):=(r.1,r.2.1)::r.2.2.L
def bU (rs:List (Nat×Fm×La)):List (Nat×Fm):=rs.flatMap oa
def jm (rs:List (Nat×Fm×La)):List Int:=(List.range rs.length).map fun i=>((bU (rs.take i)).length:Int)
def gG (rs:List (Nat×Fm×La)):List Ch:=rs.map fun r=>r.2.1.child
def jo:List (Nat×Fm×La)→List Int→List (Nat×Fm)
 | [],_=>[]
 | r::rs,[]=>oa r++jo rs []
 | r::rs,y::ys=>(r.1,{ r.2.1 with y:=y })::(r.2.2.L++jo rs ys)
def kF (bx:Nat→Option (Fm×La)):List Nat→Option (List (Nat×Fm×La))
 | []=>some []
 | m::ms=>match bx m with
   | some q=>(kF bx ms).map ((m,q) :: ·)
   | none=>none
def qX (rs:List (Nat×Fm×La)) (q:Pl×List Int) (ob:Bool):La:=
 ⟨jo rs q.2,q.1,q.2,if q.1.mo=true then 0 else (let a:=if ob=true then q.1.iF else IntKind.i64.wrap (q.1.iF+iT q.1.cur);if 0>a then 0 else a)⟩
def kY (bx:Nat→Option (Fm×La)) (kids:List Nat) (ok ot ob:Bool):Option La×Bool:=
 if ok=true then match kF bx kids with
  | some rs=>match jy (gG rs) ot with
    | some q=>if nT q.1.cur=true then (some (qX rs q ob),bR (qX rs q ob).high) else (none,false)
    | none=>(none,false)
  | none=>(none,false)
 else (none,false)
theorem FU {bx:Nat→Option (Fm×La)} {kids:List Nat} {ok ot ob:Bool} (h:(kY bx kids ok ot ob).2=true):(kY bx kids ok ot ob).1.isSome=true:=by
 revert h
 unfold kY
 repeat' split
 all_goals simp
theorem Dm {rs:List (Nat×Fm×La)} {r:Nat×Fm×La}:bU (rs++[r])=bU rs++oa r:=by simp [bU]
theorem mb (a:List (Nat×Fm)):(gK a).length=a.length:=by simp [gK]
theorem uo {rs:List (Nat×Fm×La)}:(jm rs).length=rs.length:=by simp [jm]
theorem Hi {rs:List (Nat×Fm×La)} {r:Nat×Fm×La}:jm (rs++[r])=jm rs++[((bU rs).length:Int)]:=by
 simp -implicitDefEqProofs only [jm,List.length_append,List.length_cons,List.length_nil,Nat.zero_add,List.range_succ,List.map_append,List.map_cons,List.map_nil]
 congr 1
 ·refine List.map_congr_left (fun i hi=>?_)
  rw [List.take_append_of_le_length (by simp at hi;omega)]
 ·simp
theorem Hh {rs:List (Nat×Fm×La)} {i:Nat} (h:i<rs.length):(aM (jm rs))[i]?.getD []=[.int .i64 ((bU (rs.take i)).length:Int)]:=by simp [aM,jm,h]
theorem zB:∀ (rs:List (Nat×Fm×La)),jo rs []=bU rs
 | []=>rfl
 | r::rs=>by rw [jo,zB rs];simp [bU]
theorem qu:∀ (rs:List (Nat×Fm×La)) (ys:List Int),(jo rs ys).length=(bU rs).length
 | [],_=>rfl
 | r::rs,[]=>by rw [zB]
 | r::rs,y::ys=>by rw [jo];simp [bU,oa,qu rs ys]
theorem wK:∀ (rs:List (Nat×Fm×La)) (ys:List Int) (i:Nat) (h:i<rs.length) (h2:i<ys.length),(jo rs (ys.take i))[(bU (rs.take i)).length]?=some ((rs[i]'h).1,(rs[i]'h).2.1)∧
 (jo rs (ys.take i)).set (bU (rs.take i)).length ((rs[i]'h).1,{ (rs[i]'h).2.1 with y:=ys[i]'h2 })=jo rs (ys.take (i+1))
 | [],_,i,h,_=>by simp at h
 | r::rs,[],i,_,h=>by simp at h
 | r::rs,y::ys,0,_,_=>by
   refine ⟨by simp [jo,bU,oa],?_⟩
   simp -implicitDefEqProofs only [List.take_zero,jo,bU,List.flatMap_nil,List.length_nil,oa,List.cons_append,List.set_cons_zero,List.getElem_cons_zero,Nat.zero_add,List.take_succ_cons]
 | r::rs,y::ys,i+1,h,h2=>by
   have ih:=wK rs ys i (by simpa using h) (by simpa using h2)
   have e:(bU ((r::rs).take (i+1))).length=(r.2.2.L.length+(bU (rs.take i)).length)+1:=by simp [bU,oa]
   rw [e]
   simp -implicitDefEqProofs only [List.take_succ_cons,jo,List.getElem?_cons_succ,List.set_cons_succ,List.getElem_cons_succ]
   refine ⟨?_,?_⟩
   ·rw [List.getElem?_append_right (by omega),Nat.add_sub_cancel_left];exact ih.1
   ·rw [List.set_append_right _ _ (by omega),Nat.add_sub_cancel_left,ih.2]
theorem HD {rs:List (Nat×Fm×La)} {ys:List Int} {i:Nat} (h:i<rs.length) (h2:i<ys.length):(aN (gK (jo rs (ys.take i))))[(bU (rs.take i)).length]?.getD []=(jn ((rs[i]'h).1,(rs[i]'h).2.1)).map SV.rv:=by
 have:=(wK rs ys i h h2).1
 simp [aN,gK,this]
theorem HE {rs:List (Nat×Fm×La)} {ys:List Int} {i:Nat} (h:i<rs.length) (h2:i<ys.length):(aN (gK (jo rs (ys.take i)))).set (bU (rs.take i)).length ((jn ((rs[i]'h).1,{ (rs[i]'h).2.1 with y:=ys[i]'h2 })).map SV.rv)=aN (gK (jo rs (ys.take (i+1)))):=by
 rw [← (wK rs ys i h h2).2]
 simp [aN,gK,List.map_set]
theorem IV (q:Nat×Fm) (y:Int):splice ((jn q).map SV.rv) 2 [.rv (.int .i64 y)]=(jn (q.1,{ q.2 with y:=y })).map SV.rv:=rfl
theorem HC (q:Nat×Fm):(jn q).length=26:=rfl
theorem yo (f:Fm):f.cells.length=25:=rfl
theorem zw (L:List (Nat×Fm)):∀ x∈gK L,∀ r∈x,r.one=true:=by
 intro x hx r hr
 obtain ⟨q,_,rfl⟩:=List.mem_map.1 hx
 simp -implicitDefEqProofs only [jn,Fm.cells,Q4.ints,Ch.cells,List.cons_append,List.nil_append,List.mem_cons,List.not_mem_nil,or_false] at hr
 rcases hr with h | h | h | h | h | h | h | h | h | h | h | h | h | h | h | h | h | h | h | h | h | h | h | h | h | h <;> rw [h] <;> rfl
theorem DP {rs:List (Nat×Fm×La)} {r:Nat×Fm×La}:gG (rs++[r])=gG rs++[r.2.1.child]:=by simp [gG]
theorem zR:∀ {l:List Ch} {p:Pl} {ys:List Int} {q:Pl×List Int},nR l p ys=some q→q.2.length=ys.length+l.length
 | [],p,ys,q,h=>by cases h;rfl
 | c::l,p,ys,q,h=>by
   rw [nR] at h
   split at h
   ·have:=zR h;simp at this ⊢;omega
   ·cases h
end Go.aL

namespace Go.aL
open Go Go.Proofs Go.Shelf
theorem tZ {b:Nat} {t:TypeId}:∀ (vs:List Value) (o:Nat) (w:World) (cur:Array Value),w.heap[b]?=some (.cells cur t (0,0))→o+vs.length≤cur.size→
 ∃ cur':Array Value,(w.setCells b o vs).heap[b]?=some (.cells cur' t (0,0))∧cur'.size=cur.size∧(∀ k,k<o∨o+vs.length≤k→cur'[k]?=cur[k]?)∧∀ (j:Nat) (u:Value),vs[j]?=some u→cur'[o+j]?=some u
 | [],o,w,cur,h,hl=>⟨cur,h,rfl,fun _ _=>rfl,fun j u hu=>by simp at hu⟩
 | v::r,o,w,cur,h,hl=>by
   have h1:(w.setCell ⟨b,o,none⟩ v).heap[b]?=some (.cells (cur.setIfInBounds o v) t (0,0)):=heap_setCell_same _ _ _ _ _ _ h
   obtain ⟨cur',g1,g2,g3,g4⟩:=tZ r (o+1) _ _ h1 (by simp at hl ⊢;omega)
   refine ⟨cur',g1,by rw [g2];simp,fun k hk=>?_,fun j u hu=>?_⟩
   ·rw [g3 k (by simp at hk;omega),Array.getElem?_setIfInBounds]
    rw [if_neg (by simp at hk;omega)]
   ·cases j with
    | zero=>
      simp at hu;subst hu
      rw [Nat.add_zero,g3 o (by omega),Array.getElem?_setIfInBounds,if_pos rfl,if_pos (by simp at hl;omega)]
    | succ j=>
      simp at hu
      have:=g4 j u hu
      rwa [show o+1+j=o+(j+1) by omega] at this
theorem ua {b:Nat}:∀ (vs:List Value) (o:Nat) (w:World) (k:Nat),k≠b→(w.setCells b o vs).heap[k]?=w.heap[k]?
 | [],_,_,_,_=>rfl
 | v::r,o,w,k,h=>by rw [World.setCells,ua r (o+1) _ k h,heap_setCell_other _ _ _ _ h]
theorem uE {b:Nat}:∀ (vs:List Value) (o:Nat) (w:World),(w.setCells b o vs).os=w.os∧(w.setCells b o vs).tape=w.tape∧(w.setCells b o vs).output=w.output∧(w.setCells b o vs).heap.size=w.heap.size
 | [],_,_=>⟨rfl,rfl,rfl,rfl⟩
 | v::r,o,w=>by
   obtain ⟨h1,h2,h3,h4⟩:=uE r (o+1) (w.setCell ⟨b,o,none⟩ v)
   exact ⟨h1,h2,h3,by rw [World.setCells,h4,World.size_setCell]⟩
def tu (w w':World) (ob:Option Nat) (tg:List Value) (v:Value):Prop:=
 ∃ b cur t cap,v = .slice (some ⟨b,0,none⟩) tg.length cap∧w'.heap[b]?=some (.cells cur t (0,0))∧(∀ k,k<w.heap.size→k≠b→w'.heap[k]?=w.heap[k]?)∧w'.os=w.os∧w'.tape=w.tape∧w'.output=w.output∧w.heap.size≤w'.heap.size∧
  (∀ (j:Nat) (u:Value),tg[j]?=some u→cur[j]?=some u)∧tg.length≤cap∧cap≤maxLen∧cap≤cur.size∧(ob=some b∨w.heap.size≤b)
section
variable {P:Program} {ρ:Ren} (L:Lays2.n21 P ρ) {w:World} {ys:List Int} {i:Nat} {x:Int} {vb vc:Nat} {lu:Array Value} {vt:TypeId}
abbrev vI (l:List Int):List Value:=l.map fun y=>Value.int .i64 y
theorem Jp {l:List Int}:∀ v∈vI l,v.oneCell'=true:=by
 intro v hv
 obtain ⟨y,_,rfl⟩:=List.mem_map.1 hv
 rfl
theorem tH {b:Nat} {cur:Array Value} {t:TypeId} (h:w.heap[b]?=some (.cells cur t (0,0))) (o:Nat):w.cell? ⟨b,o,none⟩=cur[o]?:=pV h o
theorem Dj (n:Nat):(Builtin.zeroCells (Value.int .i64 0).cells n).size=n:=by
 rw [size_zeroCells];show n*1=n;omega
theorem uN {l:List Int} {j:Nat} {u:Value} (h:(vI l)[j]?=some u):∃ y,l[j]?=some y∧u = .int .i64 y:=by
 rw [List.getElem?_map,Option.map_eq_some_iff] at h
 obtain ⟨y,h1,rfl⟩:=h
 exact ⟨y,h1,rfl⟩
theorem wW (hv:w.heap[vb]?=some (.cells lu vt (0,0))) (h0:lu[0]?=some (.int .i64 x)) (j:Nat) (v:Value) (hj:[Value.int .i64 x][j]?=some v):w.cell? ⟨vb,0+j,none⟩=some v:=by
 match j with
 | 0=>cases hj;rw [tH hv];simpa using h0
 | j+1=>simp at hj
theorem Dy {A B:List Value} {Z:Array Value} {j:Nat} {u:Value} (h:(A++B)[j]?=some u):((A++B).toArray++Z)[j]?=some u:=by
 rw [Array.getElem?_append_left (by have:=(List.getElem?_eq_some_iff.1 h).1;simpa using this)]
 simpa using h
include L in
theorem OC (hv:w.heap[vb]?=some (.cells lu vt (0,0))) (h0:lu[0]?=some (.int .i64 x)) :
 Calls P (ρ.f 21) #[.slice none 0 0,.int .i64 (0:Nat),.slice (some ⟨vb,0,none⟩) 1 vc] w fun e w'=>∃ v,e = .returned v∧tu w w' none (vI [x]) v:=by
 refine (Any2.slices_Insert_int_end_grow L none 0 0 vb 0 1 vc [] [.int .i64 x] w (by omega) (by omega) (by omega) (by omega) rfl rfl (fun _=>rfl) (fun a ha=>by cases ha) (wW hv h0) (by simp;rfl)).mono ?_
 rintro e w' ⟨rfl,rfl⟩
 have hg:=grownCap_ge w (0+1) 0 (ρ.t 3)
 have hm:=grownCap_le_maxLen w (0+1) 0 (ρ.t 3) (by decide)
 refine ⟨_,rfl,w.heap.size,_,ρ.t 3,_,rfl,heap_alloc_new w.drew _,fun k hk _=>heap_alloc_old w.drew _ hk,rfl,rfl,rfl,by simp,fun j u hu=>Dy (by simpa using hu),by simpa using hg,hm,?_,.inr (Nat.le_refl _)⟩
 simp only [Array.size_append,Dj,List.size_toArray,List.length_append,List.length_nil,List.length_cons]
 omega
include L in
theorem Oy {b c:Nat} {cur:Array Value} {t:TypeId} (hb:w.heap[b]?=some (.cells cur t (0,0))) (hys:∀ (j:Nat) (y:Int),ys[j]?=some y→cur[j]?=some (.int .i64 y)) (hnc:ys.length≤c) (hc:c<ys.length+1) (hbig:ys.length≤1000000)
 (hv:w.heap[vb]?=some (.cells lu vt (0,0))) (h0:lu[0]?=some (.int .i64 x)) :
 Calls P (ρ.f 21) #[.slice (some ⟨b,0,none⟩) ys.length c,.int .i64 ys.length,.slice (some ⟨vb,0,none⟩) 1 vc] w fun e w'=>∃ v,e = .returned v∧tu w w' (some b) (vI (ys++[x])) v:=by
 refine (Any2.slices_Insert_int_end_grow L (some ⟨b,0,none⟩) ys.length c vb 0 1 vc (vI ys) [.int .i64 x] w (by omega) hnc hc (by omega) (by simp) rfl (fun h=>by cases h) (fun a ha j v hj=>by
  cases ha
  obtain ⟨y,hy,rfl⟩:=uN hj
  rw [add_lit,Nat.zero_add,tH hb];exact hys j y hy) (wW hv h0) (by simp;rfl)).mono ?_
 rintro e w' ⟨rfl,rfl⟩
 have hg:=grownCap_ge w (ys.length+1) c (ρ.t 3)
 have hm:=grownCap_le_maxLen w (ys.length+1) c (ρ.t 3) (by simp only [maxLen];omega)
 refine ⟨_,rfl,w.heap.size,_,ρ.t 3,_,by simp,heap_alloc_new w.drew _,fun k hk _=>heap_alloc_old w.drew _ hk,rfl,rfl,rfl,by simp,fun j u hu=>Dy (by simpa using hu),by simpa using hg,hm,?_,.inr (Nat.le_refl _)⟩
 simp only [Array.size_append,Dj,List.size_toArray,List.length_append,List.length_map,List.length_nil,List.length_cons]
 omega
include L in
theorem Oz {b c:Nat} {cur:Array Value} {t:TypeId} (hb:w.heap[b]?=some (.cells cur t (0,0))) (hys:∀ (j:Nat) (y:Int),ys[j]?=some y→cur[j]?=some (.int .i64 y)) (hc:ys.length+1≤c) (mX:c≤maxLen) (hcs:c≤cur.size)
 (hv:w.heap[vb]?=some (.cells lu vt (0,0))) (h0:lu[0]?=some (.int .i64 x)) :
 Calls P (ρ.f 21) #[.slice (some ⟨b,0,none⟩) ys.length c,.int .i64 ys.length,.slice (some ⟨vb,0,none⟩) 1 vc] w fun e w'=>∃ v,e = .returned v∧tu w w' (some b) (vI (ys++[x])) v:=by
 refine (Any2.slices_Insert_int_end_room L b 0 ys.length c vb 0 1 vc [.int .i64 x] w (by omega) hc (by simp only [maxLen] at mX;omega) rfl (fun j hj=>?_) (fun j hj=>frozen_of_row _ _ _ _ _ hb) (wW hv h0) (by simp;rfl)).mono ?_
 ·rw [tH hb]
  rw [Array.getElem?_eq_getElem (by omega)];rfl
 rintro e w' ⟨rfl,rfl⟩
 obtain ⟨cur',g1,g2,g3,g4⟩:=tZ [.int .i64 x] (0+ys.length) w cur hb (by simp;omega)
 obtain ⟨r1,r2,r3,r4⟩:=uE (b:=b) [.int .i64 x] (0+ys.length) w
 refine ⟨_,rfl,b,cur',t,c,by simp,g1,fun k hk hne=>ua _ _ _ k hne,r1,r2,r3,by rw [r4];exact Nat.le_refl _,fun j u hu=>?_,by simpa using hc,mX,by omega,.inl rfl⟩
 obtain ⟨y,hy,rfl⟩:=uN hu
 rcases Nat.lt_or_ge j ys.length with hj | hj
 ·rw [g3 j (by omega)]
  rw [List.getElem?_append_left hj] at hy
  exact hys j y hy
 ·rw [List.getElem?_append_right hj] at hy
  have Bw:j - ys.length=0:=by have:=(List.getElem?_eq_some_iff.1 hy).1;simpa using this
  rw [Bw] at hy
  simp at hy;subst hy
  have:=g4 0 _ rfl
  rw [show 0+ys.length+0=j by omega] at this
  exact this
abbrev kM (ys:List Int) (i:Nat) (x:Int):List Int:=ys.take i++x::ys.drop i
theorem FR {ys:List Int} {i:Nat} {x:Int} (hi:i≤ys.length) {j:Nat} {y:Int} (h:(kM ys i x)[j]?=some y):(j<i∧ys[j]?=some y)∨(j=i∧y=x)∨(i<j∧ys[j - 1]?=some y):=by
 have hl:(ys.take i).length=i:=by simp;omega
 rcases Nat.lt_trichotomy j i with hj | hj | hj
 ·rw [List.getElem?_append_left (by omega),List.getElem?_take_of_lt hj] at h
  exact .inl ⟨hj,h⟩
 ·rw [List.getElem?_append_right (by omega),hl,hj,Nat.sub_self] at h
  simp at h
  exact .inr (.inl ⟨hj,h.symm⟩)
 ·rw [List.getElem?_append_right (by omega),hl,show j - i=(j - i - 1)+1 by omega,List.getElem?_cons_succ,List.getElem?_drop,show i+(j - i - 1)=j - 1 by omega] at h
  exact .inr (.inr ⟨hj,h⟩)
theorem vV (ys:List Int) (i:Nat) (x:Int) (hi:i≤ys.length):(kM ys i x).length=ys.length+1:=by simp;omega
include L in
theorem OD {b c:Nat} {cur:Array Value} {t:TypeId} (hi:i<ys.length) (hb:w.heap[b]?=some (.cells cur t (0,0))) (hys:∀ (j:Nat) (y:Int),ys[j]?=some y→cur[j]?=some (.int .i64 y)) (hc:ys.length+1≤c) (mX:c≤maxLen) (hcs:c≤cur.size)
 (hv:w.heap[vb]?=some (.cells lu vt (0,0))) (h0:lu[0]?=some (.int .i64 x)) (hne:vb≠b) :
 Calls P (ρ.f 21) #[.slice (some ⟨b,0,none⟩) ys.length c,.int .i64 i,.slice (some ⟨vb,0,none⟩) 1 vc] w fun e w'=>∃ v,e = .returned v∧tu w w' (some b) (vI (kM ys i x)) v:=by
 refine (Any2.slices_Insert_int_shift L b 0 ys.length c i vb 0 1 vc (vI ys) [.int .i64 x] w hi (by omega) hc (by simp only [maxLen] at mX;omega) hne (by simp) rfl (fun j v hj=>by
  obtain ⟨y,hy,rfl⟩:=uN hj
  rw [Nat.zero_add,tH hb];exact hys j y hy) (fun j hj=>?_) (fun j hj=>frozen_of_row _ _ _ _ _ hb) (wW hv h0) Jp (by simp;rfl) vt t lu.size cur.size ?_ ?_ (by omega) (frozen_of_row _ _ _ _ _ hv) (frozen_of_row _ _ _ _ _ hv)).mono ?_
 ·rw [tH hb]
  rw [Array.getElem?_eq_getElem (by omega)];rfl
 ·simp [World.shape?,hv]
 ·simp [World.shape?,hb]
 rintro e w' ⟨rfl,rfl⟩
 have hb':w.drew.heap[b]?=some (.cells cur t (0,0)):=hb
 have hdl:((vI ys).drop i).length=ys.length - i:=by simp
 obtain ⟨ya,g1,g2,g3,g4⟩:=tZ ((vI ys).drop i) (0+(i+1)) w.drew cur hb' (by rw [hdl];omega)
 obtain ⟨r1,r2,r3,r4⟩:=uE (b:=b) ((vI ys).drop i) (0+(i+1)) w.drew
 obtain ⟨AA,k1,k2,k3,k4⟩:=tZ [.int .i64 x] (0+i) _ ya g1 (by simp;omega)
 obtain ⟨s1,s2,s3,s4⟩:=uE (b:=b) [.int .i64 x] (0+i) (w.drew.setCells b (0+(i+1)) ((vI ys).drop i))
 refine ⟨_,rfl,b,AA,t,c,by rw [List.length_map,vV _ _ _ (by omega)],k1,fun k hk hne=>by rw [ua _ _ _ k hne,ua _ _ _ k hne];rfl,s1.trans r1,s2.trans r2,s3.trans r3,by rw [s4,r4];exact Nat.le_refl _,fun j u hu=>?_,by rw [List.length_map,vV _ _ _ (by omega)];exact hc,mX,by omega,.inl rfl⟩
 obtain ⟨y,hy,rfl⟩:=uN hu
 rcases FR (by omega) hy with ⟨hj,fL⟩ | ⟨rfl,rfl⟩ | ⟨hj,fL⟩
 ·rw [k3 j (by simp;omega),g3 j (by omega)]
  exact hys j y fL
 ·have:=k4 0 _ rfl
  rwa [show 0+j+0=j by omega] at this
 ·rw [k3 j (by simp;omega)]
  have:=g4 (j - 1 - i) (.int .i64 y) (by rw [List.getElem?_drop,List.getElem?_map,show i+(j - 1 - i)=j - 1 by omega,fL];rfl)
  rwa [show 0+(i+1)+(j - 1 - i)=j by omega] at this
include L in
theorem OA {b c:Nat} {cur:Array Value} {t:TypeId} (hi:i<ys.length) (hb:w.heap[b]?=some (.cells cur t (0,0))) (hys:∀ (j:Nat) (y:Int),ys[j]?=some y→cur[j]?=some (.int .i64 y)) (hnc:ys.length≤c) (hc:c<ys.length+1) (hbig:ys.length≤1000000)
 (hv:w.heap[vb]?=some (.cells lu vt (0,0))) (h0:lu[0]?=some (.int .i64 x)) :
 Calls P (ρ.f 21) #[.slice (some ⟨b,0,none⟩) ys.length c,.int .i64 i,.slice (some ⟨vb,0,none⟩) 1 vc] w fun e w'=>∃ v,e = .returned v∧tu w w' (some b) (vI (kM ys i x)) v:=by
 refine (Any2.slices_Insert_int_grow L b 0 ys.length c i vb 0 1 vc (vI ys) [.int .i64 x] w hi (by omega) hnc hc (by omega) (by simp) rfl (fun j v hj=>by
  obtain ⟨y,hy,rfl⟩:=uN hj
  rw [Nat.zero_add,tH hb];exact hys j y hy) (wW hv h0) Jp (by simp;rfl)).mono ?_
 rintro e w' ⟨rfl,rfl⟩
 have hg:=grownCap_ge w (ys.length+1) c (ρ.t 3)
 have hm:=grownCap_le_maxLen w (ys.length+1) c (ρ.t 3) (by simp only [maxLen];omega)
 generalize hG:grownCap w (ys.length+1) c (ρ.t 3)=G at *
 generalize hA:((vI ys).take i).toArray++Builtin.zeroCells (Value.int .i64 0).cells (ys.length+1 - i)++Builtin.zeroCells (Value.int .i64 0).cells (G - (ys.length+1))=A at *
 have Wv:A.size=G:=by
  rw [← hA]
  simp only [Array.size_append,Dj,List.size_toArray,List.length_take,List.length_map]
  omega
 have Ni:∀ (j:Nat) (y:Int),j<i→ys[j]?=some y→A[j]?=some (.int .i64 y):=fun j y hj hy=>by
  have hjl:j<ys.length:=by omega
  rw [← hA,Array.getElem?_append_left (by simp;omega),Array.getElem?_append_left (by simp;omega)]
  simp [List.getElem?_take_of_lt hj,hy]
 have hb1:(w.alloc (.cells A (ρ.t 3))).drew.heap[w.heap.size]?=some (.cells A (ρ.t 3) (0,0)):=heap_alloc_new w _
 obtain ⟨ya,g1,g2,g3,g4⟩:=tZ [.int .i64 x] i _ A hb1 (by simp;omega)
 obtain ⟨r1,r2,r3,r4⟩:=uE (b:=w.heap.size) [.int .i64 x] i (w.alloc (.cells A (ρ.t 3))).drew
 have hb2:(((w.alloc (.cells A (ρ.t 3))).drew.setCells w.heap.size i [.int .i64 x]).drew).heap[w.heap.size]?=some (.cells ya (ρ.t 3) (0,0)):=g1
 have hdl:((vI ys).drop i).length=ys.length - i:=by simp
 obtain ⟨AA,k1,k2,k3,k4⟩:=tZ ((vI ys).drop i) (i+1) _ ya hb2 (by rw [hdl];omega)
 obtain ⟨s1,s2,s3,s4⟩:=uE (b:=w.heap.size) ((vI ys).drop i) (i+1) ((w.alloc (.cells A (ρ.t 3))).drew.setCells w.heap.size i [.int .i64 x]).drew
 refine ⟨_,rfl,w.heap.size,AA,ρ.t 3,G,by rw [List.length_map,vV _ _ _ (by omega)],k1,fun k hk hne=>?_,s1.trans r1,s2.trans r2,s3.trans r3,?_,fun j u hu=>?_,by rw [List.length_map,vV _ _ _ (by omega)];exact hg,hm,by omega,.inr (Nat.le_refl _)⟩
 ·rw [ua _ _ _ k hne]
  show (((w.alloc (.cells A (ρ.t 3))).drew.setCells w.heap.size i [.int .i64 x])).heap[k]?=_
  rw [ua _ _ _ k hne]
  exact heap_alloc_old w _ hk
 ·rw [s4]
  show w.heap.size≤(((w.alloc (.cells A (ρ.t 3))).drew.setCells w.heap.size i [.int .i64 x])).heap.size
  rw [r4]
  simp
 obtain ⟨y,hy,rfl⟩:=uN hu
 rcases FR (by omega) hy with ⟨hj,fL⟩ | ⟨rfl,rfl⟩ | ⟨hj,fL⟩
 ·rw [k3 j (by omega),g3 j (by omega)]
  exact Ni j y hj fL
 ·rw [k3 j (by omega)]
  have:=g4 0 _ rfl
  rwa [Nat.add_zero] at this
 ·have:=k4 (j - 1 - i) (.int .i64 y) (by rw [List.getElem?_drop,List.getElem?_map,show i+(j - 1 - i)=j - 1 by omega,fL];rfl)
  rwa [show i+1+(j - 1 - i)=j by omega] at this
end
abbrev oA (l:List Int):List (List SV):=l.map fun y=>[SV.rv (.int .i64 y)]
theorem HX {w:World} {ok:Nat→Prop} {aa:Nat→Option Nat} {hp:Hp} {cur:Array Value} {v:Nat} {l:List Int} (h:ko w ok aa hp cur (.row 1 v (oA l))):∀ (j:Nat) (y:Int),l[j]?=some y→cur[j]?=some (.int .i64 y):=by
 intro j y hy
 obtain ⟨_,_,h3⟩:=h
 obtain ⟨u,h4,_,h5⟩:=h3 j [.rv (.int .i64 y)] (by simp [hy]) 0 (.rv (.int .i64 y)) rfl
 rw [show j*1+0=j by omega] at h4
 cases h5 with
 | rv _ _ h6=>cases h6;exact h4
theorem KY {P:Program} {ρ:Ren} (L:Lays2.n21 P ρ) (hcb:tF P (ρ.f 21)=true) (j j2 v v2 i n:Nat) (x:Int) (xs:List Int) (hj:j≠j2) (hn:n≤xs.length) (hi:i≤n) (hbig:n≤1000000) :
 aI P (ρ.f 21) [.row j v n,.rv (.int .i64 i),.row j2 v2 1] [(j,.row 1 v (oA xs)),(j2,.row 1 v2 (oA [x]))] [(j,.row 1 (v+1) (oA (kM (xs.take n) i x)))] (.row j (v+1) (n+1)):=by
 refine ⟨hcb,fun C hp w aa vs hpre hnew R hl hvs=>?_⟩
 have jh:=hpre (j,.row 1 v (oA xs)) (.head _)
 have hpk:=hpre (j2,.row 1 v2 (oA [x])) (.tail _ (.head _))
 obtain ⟨a0,a1,a2,rfl⟩:∃ a b c,vs=[a,b,c]:=by
  match vs,hl with
  | [a,b,c],_=>exact ⟨a,b,c,rfl⟩
 have h0:=hvs 0 _ rfl
 have h1:=hvs 1 _ rfl
 have h2:=hvs 2 _ rfl
 simp only [List.getD_cons_zero,List.getD_cons_succ] at h0 h1 h2
 obtain rfl:a1 = .int .i64 i:=by
  cases h1 with
  | rv _ _ h=>cases h;rfl
 obtain ⟨vb,vc,lu,vt,rfl,hv,vQ,NY⟩:∃ vb vc lu vt,a2 = .slice (some ⟨vb,0,none⟩) 1 vc∧w.heap[vb]?=some (.cells lu vt (0,0))∧lu[0]?=some (.int .i64 x)∧aa j2=some vb:=by
  cases h2 with
  | row _ _ _ _ g1 g0 gv gh=>
    rcases gh 1 _ hpk with ⟨_,_,h⟩ | ⟨b,cap,cur,t,e1,e2,e3,_⟩
    ·cases h
    ·rcases R.heap j2 _ hpk with ⟨hn,_⟩ | ⟨b',cur',t',f1,f2,f3⟩
     ·rw [hn] at e1;cases e1
     ·rw [e1] at f1;cases f1
      rw [e3] at f2;cases f2
      exact ⟨b,cap,cur,t,e2,e3,HX f3 0 x rfl,e1⟩
 have hys:∀ (k:Nat) (y:Int),(xs.take n)[k]?=some y→xs[k]?=some y:=fun k y hy=>by
  rw [List.getElem?_take] at hy
  split at hy
  ·exact hy
  ·cases hy
 have mI:(xs.take n).length=n:=by simp;omega
 have vw:∀ (ob:Option Nat) (tg:List Int) (w':World) (u:Value),tg=kM (xs.take n) i x→tu w w' ob (vI tg) u→(∀ b,ob=some b→aa j=some b)→∃ v' aK,Ending.returned u=Ending.returned v'∧Step C hp (bM hp [(j,.row 1 (v+1) (oA (kM (xs.take n) i x)))]) w w' aa aK∧Rp w' (aJ C aK (bM hp [(j,.row 1 (v+1) (oA (kM (xs.take n) i x)))])) aK (bM hp [(j,.row 1 (v+1) (oA (kM (xs.take n) i x)))]) (.row j (v+1) (n+1)) v':=by
  rintro ob tg w' u rfl ⟨b,cur,t,cap,rfl,e1,e2,e3,e4,e5,e6,e7,e8,e9,Wq,LC⟩ nc
  have hlen:(kM (xs.take n) i x).length=n+1:=by rw [vV _ _ _ (by omega),mI]
  have htl:(vI (kM (xs.take n) i x)).length=n+1:=by rw [List.length_map,hlen]
  rw [htl] at e8
  have S:Step C hp (up hp j (some (.row 1 (v+1) (oA (kM (xs.take n) i x))))) w w' aa (up aa j (some b)):=by
   refine R.replace j _ b cur t e3 e4 e5 e6 e1 e2 ?_ (fun hb hq=>?_) (fun hq=>?_) ⟨fun z hz=>?_,?_,fun k z hz=>?_⟩
   ·rcases LC with h | h
    ·exact .inl ⟨by rw [jh];rfl,nc _ h⟩
    ·exact .inr h
   ·rw [jh] at hq;cases hq
    exact ⟨by omega,fun h=>by omega⟩
   ·rw [jh] at hq;cases hq
   ·obtain ⟨y,_,rfl⟩:=List.mem_map.1 hz;rfl
   ·rw [List.length_map,hlen];omega
   ·rw [List.getElem?_map,Option.map_eq_some_iff] at hz
    obtain ⟨y,hy,rfl⟩:=hz
    intro q z hq
    match q with
    | 0=>
      cases hq
      refine ⟨.int .i64 y,?_,rfl,.rv _ _ (.int _ _)⟩
      have:=e7 k (.int .i64 y) (by rw [List.getElem?_map,hy];rfl)
      rwa [show k*1+0=k by omega]
    | q+1=>simp at hq
  refine ⟨_,up aa j (some b),rfl,S,.row j (v+1) (n+1) _ rfl (by simp [bM]) (fun e fZ gC h=>?_) (fun e gC h=>.inr ⟨b,cap,cur,t,ct _ _ _,by rw [htl],e1,e8,e9,?_⟩)⟩
  ·simp only [bM,ct] at h;cases h;exact Nat.le_refl _
  ·simp only [bM,ct] at h;cases h;omega
 cases h0 with
 | row _ _ _ _ g1 g0 gv gh=>
   rcases gh 1 _ jh with ⟨_,rfl,hn0⟩ | ⟨b,cap,cur,t,e1,rfl,e3,e4,e5,e6⟩
   ·subst hn0
    obtain rfl:i=0:=by omega
    refine (OC L hv vQ).mono ?_
    rintro e w' ⟨u,rfl,hu⟩
    exact vw none [x] w' u rfl hu (fun b h=>by cases h)
   ·have hf:∀ (k:Nat) (y:Int),(xs.take n)[k]?=some y→cur[k]?=some (.int .i64 y):=by
     rcases R.heap j _ jh with ⟨hn,_⟩ | ⟨b',cur',t',f1,f2,f3⟩
     ·rw [hn] at e1;cases e1
     ·rw [e1] at f1;cases f1
      rw [e3] at f2;cases f2
      exact fun k y hy=>HX f3 k y (hys k y hy)
    have hne:vb≠b:=fun h=>by
     subst h
     exact hj (R.inj j j2 vb (by rw [jh];rfl) (by rw [hpk];rfl) e1 NY)
    have nc:∀ b',some b=some b'→aa j=some b':=fun b' h=>by cases h;exact e1
    rw [Nat.mul_one] at e6
    have yD:=fun tg w' u=>vw (some b) tg w' u
    rcases Nat.lt_or_ge i n with hin | hin
    ·rcases Nat.lt_or_ge cap (n+1) with hc | hc
     ·have:=OA L (ys:=xs.take n) (i:=i) (x:=x) (vc:=vc) (c:=cap) (by omega) e3 hf (by omega) (by omega) (by omega) hv vQ
      rw [mI] at this
      refine this.mono ?_
      rintro e w' ⟨u,rfl,hu⟩
      exact yD _ w' u rfl hu nc
     ·have:=OD L (ys:=xs.take n) (i:=i) (x:=x) (vc:=vc) (c:=cap) (by omega) e3 hf (by omega) e5 e6 hv vQ hne
      rw [mI] at this
      refine this.mono ?_
      rintro e w' ⟨u,rfl,hu⟩
      exact yD _ w' u rfl hu nc
    ·obtain rfl:i=n:=by omega
     have vA:kM (xs.take i) i x=xs.take i++[x]:=by
      unfold kM
      rw [List.take_of_length_le (by omega),List.drop_of_length_le (by omega)]
     rcases Nat.lt_or_ge cap (i+1) with hc | hc
     ·have:=Oy L (ys:=xs.take i) (x:=x) (vc:=vc) (c:=cap) e3 hf (by omega) (by omega) (by omega) hv vQ
      rw [mI] at this
      refine this.mono ?_
      rintro e w' ⟨u,rfl,hu⟩
      exact yD _ w' u vA.symm hu nc
     ·have:=Oz L (ys:=xs.take i) (x:=x) (vc:=vc) (c:=cap) e3 hf (by omega) e5 e6 hv vQ
      rw [mI] at this
      refine this.mono ?_
      rintro e w' ⟨u,rfl,hu⟩
      exact yD _ w' u vA.symm hu nc
theorem VZ {p X:Prop} (h1:X→p) (h2:X):p:=h1 h2
theorem LJ {n0:Nat} {env env':List (Nat×SV)} {h' C:List (Option HB)} {n j e az len:Nat} {xs:List (List RV)} (hn:n0≤h'.length) (hC:lz (mS h'.length) h') (hr:lk env n = .row j az len) (hj:h'.length≤j)
 (hg:aB (h'++C) j=some (.row e az (aN xs))) (hl:len≤xs.length) (h1:∀ x∈xs,∀ r∈x,r.one=true) (he:ij h'.length env env'):fX n0 ⟨env,h'++C⟩ ⟨(n,.rv (.sl e (xs.take len)))::env',h'⟩:=by
 refine AQ (gD h'.length) hn (fun j i hj=>?_) (fun j hj=>?_) (fun j=>?_) (wA (fun x=>.dead x) (fun p hp=>?_))
 ·unfold gD at hj;split at hj <;> cases hj;rfl
 ·unfold gD at hj;split at hj
  ·cases hj
  ·omega
 ·by_cases hj:j<h'.length
  ·obtain ⟨hb,g1,g2⟩:=hC.get j hj
   exact .inl ⟨hb,hb,by simp [gD,hj],pz.2 (by rw [List.getElem?_append_left hj];exact g1),pz.2 g1,g2.rn⟩
  ·refine .inr ⟨?_,.inl (by simp [gD,hj])⟩
   unfold aB
   rw [List.getElem?_eq_none (by omega)]
 ·rcases List.mem_cons.1 hp with rfl | hp
  ·dsimp only
   rw [hr]
   exact .fz _ _ (om hg (by simp [gD];omega) hl h1)
  ·rcases he.get p hp with h | ⟨h1,h2⟩
   ·rw [h];exact .dead _
   ·rw [h1];exact h2.rn
theorem LK {n0:Nat} {env env':List (Nat×SV)} {h' C:List (Option HB)} {n j e az len:Nat} {xs ys:List (List RV)} (hys:xs.take len=ys) (hn:n0≤h'.length) (hC:lz (mS h'.length) h') (hr:lk env n = .row j az len) (hj:h'.length≤j)
 (hg:aB (h'++C) j=some (.row e az (aN xs))) (hl:len≤xs.length) (h1:∀ x∈xs,∀ r∈x,r.one=true) (he:ij h'.length env env'):fX n0 ⟨env,h'++C⟩ ⟨(n,.rv (.sl e ys))::env',h'⟩:=by
 rw [← hys];exact LJ hn hC hr hj hg hl h1 he
end Go.aL

namespace Go.aL
open Go Go.Proofs Go.Shelf
theorem Pv:aU Go.Proofs.Tryz.prog 121 6 (fc Go.Proofs.Tryz.prog 121 6 [(.t 2)]) [(.t 2)]:=bl (by kernel_rfl)
theorem Pu:aU Go.Proofs.Tryz.prog 103 17 (fc Go.Proofs.Tryz.prog 103 17 [(.t 4)]) [(.t 4)]:=bl (by kernel_rfl)
theorem Rf:aU Go.Proofs.Tryz.prog 104 6 (fc Go.Proofs.Tryz.prog 104 6 [(.t 2)]) [(.t 2)]:=bl (by kernel_rfl)
theorem QX:aU Go.Proofs.Tryz.prog 77 54 (fc Go.Proofs.Tryz.prog 77 54 [(.t 4),(.t 5)]) [(.t 4),(.t 5)]:=bl (by kernel_rfl)
def Tq:Ren:=⟨fun x=>if x=21 then 78 else if x=27 then 105 else if x=28 then 106 else if x=35 then 122 else if x=39 then 125 else x,
 fun t=>if t=3 then 3 else if t=4 then 4 else if t=22 then 90 else t,fun x=>x⟩
theorem RI:Lays2.n21 Go.Proofs.Tryz.prog Tq where
 mixed:=by kernel_rfl
 f21:=by kernel_rfl
 f27:=by kernel_rfl
 f28:=by kernel_rfl
 f35:=by kernel_rfl
 f39:=by kernel_rfl
 t0:=Tryz.underlying0
 a0:=Tryz.isAgg0
 z0:=fun w=>by rw [jx (n:=1) (by kernel_rfl)]
 v0:=Tryz.zeroValue0
 t3:=Tryz.underlying3
 a3:=Tryz.isAgg3
 z3:=Tryz.sizeOf3
 v3:=Tryz.zeroValue3
 t4:=Tryz.underlying4
 a4:=Tryz.isAgg4
 z4:=Tryz.sizeOf4
 v4:=Tryz.zeroValue4
 t22:=Tryz.underlying90
 a22:=Tryz.isAgg90
 z22:=Tryz.sizeOf90
 v22:=Tryz.zeroValue90
 i3:=by kernel_rfl
theorem FQ (xs:List Int):oA xs=aN (aM xs):=by simp [aN,aM]
theorem Ui (j j2 v v2 i n:Nat) (x:Int) (xs:List Int) (hj:j≠j2) (hn:n≤xs.length) (hi:i≤n) (hbig:n≤1000000) :
 aI Go.Proofs.Tryz.prog 78 [.row j v n,.rv (.int .i64 i),.row j2 v2 1] [(j,.row 1 v (aN (aM xs))),(j2,.row 1 v2 [[.rv (.int .i64 x)]])] [(j,.row 1 (v+1) (aN (aM (kM (xs.take n) i x))))] (.row j (v+1) (n+1)):=by
 have:=KY (P:=Go.Proofs.Tryz.prog) RI (by kernel_rfl) j j2 v v2 i n x xs hj hn hi hbig
 rw [FQ xs,FQ (kM (xs.take n) i x)] at this
 exact this
theorem UJ (a:Int):aI Go.Proofs.Tryz.prog 121 [.rv (.int .i64 a)] [] [] (.rv (.bool false)):=by
 refine bt Pv [.rv (.int .i64 a)] _ (by simp) (by simp [aO,aW,bp,aS,bg,aC.sv,Ln.sv,Nd.sv]) (fun K hK=>?_)
 have h:(a != a)=false:=by simp
 conv in fc _ _ _ _=>reduce
 simp -implicitDefEqProofs only [go_sem,Int.reduceNegSucc]
 repeat' (first | (simp -implicitDefEqProofs only [go_sem,Int.reduceNegSucc,h]) | (with_reducible refine aA ?_) | ((first | refine ai (fun hg=>?_) (fun hg=>?_) | refine ax (fun hg=>?_) (fun hg=>?_) | refine ay (fun hg=>?_) (fun hg=>?_)) <;> try simp -implicitDefEqProofs only [hg,Bool.not_true,Bool.not_false]) | ((with_reducible apply And.intro);focus (first | trivial | omega | decide | (simp -implicitDefEqProofs only [maxLen];omega) | (simp [maxLen,ah,ak,an,av,aj,au,aq] <;> omega))) | fail)
 exact (hK _ _ (bO rfl)).2
theorem Uz (a b:Int):aI Go.Proofs.Tryz.prog 103 [.rv (.int .i64 a),.rv (.int .i64 b)] [] [] (.rv (.bool (decide (a<b)))):=by
 refine bt Pu [.rv (.int .i64 a),.rv (.int .i64 b)] _ (by simp) (by simp [aO,aW,bp,aS,bg,aC.sv,Ln.sv,Nd.sv]) (fun K hK=>?_)
 conv in fc _ _ _ _=>reduce
 simp -implicitDefEqProofs only [go_sem,Int.reduceNegSucc]
 have aT:=UJ a;repeat' (first | (simp -implicitDefEqProofs only [go_sem,Int.reduceNegSucc]) | (with_reducible refine aA ?_) | (with_reducible first | refine af aT ?_ | refine ag aT ?_) | ((first | refine ai (fun hg=>?_) (fun hg=>?_) | refine ax (fun hg=>?_) (fun hg=>?_) | refine ay (fun hg=>?_) (fun hg=>?_)) <;> try simp -implicitDefEqProofs only [hg,Bool.not_true,Bool.not_false]) | ((with_reducible apply And.intro);focus (first | trivial | omega | decide | (simp -implicitDefEqProofs only [maxLen];omega) | (simp [maxLen,ah,ak,an,av,aj,au,aq] <;> omega))) | fail)
 exact (hK _ _ (bO rfl)).2
theorem UK (a:Int):aI Go.Proofs.Tryz.prog 104 [.rv (.int .i64 a)] [] [] (.rv (.bool false)):=by
 refine bt Rf [.rv (.int .i64 a)] _ (by simp) (by simp [aO,aW,bp,aS,bg,aC.sv,Ln.sv,Nd.sv]) (fun K hK=>?_)
 have h:(a != a)=false:=by simp
 conv in fc _ _ _ _=>reduce
 simp -implicitDefEqProofs only [go_sem,Int.reduceNegSucc]
 repeat' (first | (simp -implicitDefEqProofs only [go_sem,Int.reduceNegSucc,h]) | (with_reducible refine aA ?_) | ((first | refine ai (fun hg=>?_) (fun hg=>?_) | refine ax (fun hg=>?_) (fun hg=>?_) | refine ay (fun hg=>?_) (fun hg=>?_)) <;> try simp -implicitDefEqProofs only [hg,Bool.not_true,Bool.not_false]) | ((with_reducible apply And.intro);focus (first | trivial | omega | decide | (simp -implicitDefEqProofs only [maxLen];omega) | (simp [maxLen,ah,ak,an,av,aj,au,aq] <;> omega))) | fail)
 exact (hK _ _ (bO rfl)).2
def kz (ks:List Nat) (x:Nat):Nat:=(ks.filter fun y=>decide (y<x)).length
def yw (ks:List Nat) (x:Nat):Bool:=if h:kz ks x<ks.length then ((ks[kz ks x]'h:Nat):Int) ==(x:Int) else false
theorem DZ (ks:List Nat) (x:Nat):kz ks x≤ks.length:=List.length_filter_le _ _
theorem Lv {ks:List Nat} {x i:Nat} (hi:i≤ks.length) (h1:∀ j (h:j<ks.length),j<i→ks[j]<x) (h2:∀ j (h:j<ks.length),i≤j→x≤ks[j]):kz ks x=i:=by
 unfold kz
 have e1:(ks.take i).filter (fun y=>decide (y<x))=ks.take i:=List.filter_eq_self.2 fun a ha=>by
  obtain ⟨j,hj,rfl⟩:=List.getElem_of_mem ha
  simp -implicitDefEqProofs only [List.length_take] at hj
  rw [List.getElem_take]
  exact decide_eq_true (h1 j (by omega) (by omega))
 have e2:(ks.drop i).filter (fun y=>decide (y<x))=[]:=List.filter_eq_nil_iff.2 fun a ha=>by
  obtain ⟨j,hj,rfl⟩:=List.getElem_of_mem ha
  simp -implicitDefEqProofs only [List.length_drop] at hj
  rw [List.getElem_drop]
  have:=h2 (i+j) (by omega) (by omega)
  simp;omega
 have e3:=List.take_append_drop i ks
 rw [← e3,List.filter_append,e1,e2,List.append_nil,List.length_take]
 omega
theorem EX (a:Int):a.fdiv (2 ^ min 1 64)=a / 2:=by
 rw [Int.fdiv_eq_ediv_of_nonneg _ (by decide)];rfl
theorem Wc {n:Int} (h1:0≤n) (h2:n<18446744073709551616):IntKind.u64.wrap n=n:=by
 have:IntKind.u64.wrap n=n % 18446744073709551616:=by rfl
 rw [this];omega
theorem TV (ks:List Nat) (x:Nat) (hb:ks.length≤1000000) (hp:ks.Pairwise (·< ·)):aI Go.Proofs.Tryz.prog 77 [.rv (.sl 1 (aM (br ks))),.rv (.int .i64 x)] [] [] (.aP [.rv (.int .i64 (kz ks x)),.rv (.bool (yw ks x))]):=by
 refine bt QX [.rv (.sl 1 (aM (br ks))),.rv (.int .i64 x)] _ (by simp) (by simp [aO,aW,bp,aS,bg,aC.sv,Ln.sv,Nd.sv]) (fun K hK=>?_)
 have hl:=zj ks
 conv in fc _ _ _ _=>reduce
 simp -implicitDefEqProofs only [go_sem,Int.reduceNegSucc]
 repeat' (first | (simp -implicitDefEqProofs only [go_sem,Int.reduceNegSucc,hl]) | (with_reducible refine aA ?_) | ((first | refine ai (fun hg=>?_) (fun hg=>?_) | refine ax (fun hg=>?_) (fun hg=>?_) | refine ay (fun hg=>?_) (fun hg=>?_)) <;> try simp -implicitDefEqProofs only [hg,Bool.not_true,Bool.not_false]) | ((with_reducible apply And.intro);focus (first | trivial | omega | decide | (simp -implicitDefEqProofs only [maxLen];omega) | (simp [maxLen,ah,ak,an,av,aj,au,aq] <;> omega))) | fail)
 refine fE (ι:=Nat×Nat) (fun q=>[(7,.rv (.int .i64 q.1)),(8,.rv (.int .i64 q.2)),(6,.rv (.int .i64 ks.length)),(0,.rv (.sl 1 (aM (br ks)))),(1,.rv (.int .i64 x))]) (fun _=>[])
  (fun q=>q.1≤q.2∧q.2≤ks.length∧(∀ j (h:j<ks.length),j<q.1→ks[j]<x)∧∀ j (h:j<ks.length),q.2≤j→x≤ks[j]) (fun q=>q.2 - q.1) (0,ks.length) ⟨Nat.zero_le _,Nat.le_refl _,fun j h h2=>absurd h2 (by simp),fun j h h2=>absurd h2 (by simp;omega)⟩ (bh (by simp [lk])) (fun q hq K' hN hX hR=>?_)
 obtain ⟨i,j⟩:=q
 obtain ⟨h1,h2,h3,h4⟩:=hq
 dsimp at h1 h2 h3 h4 ⊢
 simp -implicitDefEqProofs only [go_sem,Int.reduceNegSucc]
 refine ai (fun hg=>?_) (fun hg=>?_)
 ·have hij:i<j:=by simp at hg;omega
  have w1:IntKind.i64.wrap ((i:Int)+j)=(i:Int)+j:=wrap_i64 (by omega) (by omega)
  have w2:IntKind.u64.wrap ((i:Int)+j)=(i:Int)+j:=Wc (by omega) (by omega)
  obtain ⟨m,hm⟩:∃ m:Nat,m=(i+j) / 2:=⟨_,rfl⟩
  have w3:((i:Int)+j) / 2=(m:Int):=by omega
  have w4:IntKind.i64.wrap (m:Int)=m:=wrap_i64 (by omega) (by omega)
  have w5:=cz (k:=m) (by omega)
  have hml:m<ks.length:=by omega
  have hx:(aM (br ks))[m]?.getD []=[.int .i64 (ks[m]:Nat)]:=by simp [aM,br,hml]
  have hc:=Uz (ks[m]:Nat) x
  have hlt:∀ a b (ha:a<ks.length) (hb:b<ks.length),a<b→ks[a]<ks[b]:=fun a b ha hb hab=>List.pairwise_iff_getElem.1 hp a b ha hb hab
  by_cases mX:ks[m]<x
  ·have e:decide (((ks[m]:Nat):Int)<(x:Int))=true:=decide_eq_true (by omega)
   rw [e] at hc
   have y_2:=hc;repeat' (first | (simp -implicitDefEqProofs only [go_sem,Int.reduceNegSucc,hl,w1,w2,EX,w3,w4,w5,hx]) | (with_reducible refine aA ?_) | (with_reducible first | refine af y_2 ?_ | refine ag y_2 ?_) | ((first | refine ai (fun hg=>?_) (fun hg=>?_) | refine ax (fun hg=>?_) (fun hg=>?_) | refine ay (fun hg=>?_) (fun hg=>?_)) <;> try simp -implicitDefEqProofs only [hg,Bool.not_true,Bool.not_false]) | ((with_reducible apply And.intro);focus (first | trivial | omega | decide | (simp -implicitDefEqProofs only [maxLen];omega) | (simp [maxLen,ah,ak,an,av,aj,au,aq] <;> omega) | (omega;done))) | fail)
   refine hN (m+1,j) _ _ ⟨by dsimp;omega,h2,fun a ha BA=>?_,h4⟩ (by dsimp;omega) (bh (by simp [lk]))
   dsimp at BA
   rcases Nat.lt_or_ge a m with h | h
   ·have:=hlt a m ha hml h;omega
   ·obtain rfl:a=m:=by omega
    exact mX
  ·have e:decide (((ks[m]:Nat):Int)<(x:Int))=false:=decide_eq_false (by omega)
   rw [e] at hc
   have bA:=hc;repeat' (first | (simp -implicitDefEqProofs only [go_sem,Int.reduceNegSucc,hl,w1,w2,EX,w3,w4,w5,hx]) | (with_reducible refine aA ?_) | (with_reducible first | refine af bA ?_ | refine ag bA ?_) | ((first | refine ai (fun hg=>?_) (fun hg=>?_) | refine ax (fun hg=>?_) (fun hg=>?_) | refine ay (fun hg=>?_) (fun hg=>?_)) <;> try simp -implicitDefEqProofs only [hg,Bool.not_true,Bool.not_false]) | ((with_reducible apply And.intro);focus (first | trivial | omega | decide | (simp -implicitDefEqProofs only [maxLen];omega) | (simp [maxLen,ah,ak,an,av,aj,au,aq] <;> omega) | (omega;done))) | fail)
   refine hN (i,m) _ _ ⟨by dsimp;omega,by dsimp;omega,h3,fun a ha BA=>?_⟩ (by dsimp;omega) (bh (by simp [lk]))
   dsimp at BA
   rcases Nat.lt_or_ge m a with h | h
   ·have:=hlt m a hml ha h;omega
   ·obtain rfl:a=m:=by omega
    omega
 ·have hij:i=j:=by simp at hg;omega
  subst hij
  simp -implicitDefEqProofs only [go_sem,Int.reduceNegSucc]
  refine hX _ _ _ ?_
  clear hN hX hR
  have vq:=Lv h2 h3 h4
  have jI:yw ks x=if h:i<ks.length then ((ks[i]'h:Nat):Int) ==(x:Int) else false:=by unfold yw;simp -implicitDefEqProofs only [vq]
  rw [vq,jI] at hK
  by_cases fH:i<ks.length
  ·have e:decide ((i:Int)<(ks.length:Int))=true:=decide_eq_true (by omega)
   have hx:(aM (br ks))[i]?.getD []=[.int .i64 (ks[i]:Nat)]:=by simp [aM,br,fH]
   rw [dif_pos fH] at hK
   have hn:=UK (ks[i]:Nat)
   cases hq:(((ks[i]:Nat):Int) ==(x:Int)) with
   | true=>
     rw [hq] at hK
     have bC:=hn;repeat' (first | (simp -implicitDefEqProofs only [go_sem,Int.reduceNegSucc,hl,e,hx,hq]) | (with_reducible refine aA ?_) | (with_reducible first | refine af bC ?_ | refine ag bC ?_) | ((first | refine ai (fun hg=>?_) (fun hg=>?_) | refine ax (fun hg=>?_) (fun hg=>?_) | refine ay (fun hg=>?_) (fun hg=>?_)) <;> try simp -implicitDefEqProofs only [hg,Bool.not_true,Bool.not_false]) | ((with_reducible apply And.intro);focus (first | trivial | omega | decide | (simp -implicitDefEqProofs only [maxLen];omega) | (simp [maxLen,ah,ak,an,av,aj,au,aq] <;> omega))) | fail)
     refine (hK _ _ (gL ?_ ?_)).2 <;> rfl
   | false=>
     rw [hq] at hK
     have bH:=hn;repeat' (first | (simp -implicitDefEqProofs only [go_sem,Int.reduceNegSucc,hl,e,hx,hq]) | (with_reducible refine aA ?_) | (with_reducible first | refine af bH ?_ | refine ag bH ?_) | ((first | refine ai (fun hg=>?_) (fun hg=>?_) | refine ax (fun hg=>?_) (fun hg=>?_) | refine ay (fun hg=>?_) (fun hg=>?_)) <;> try simp -implicitDefEqProofs only [hg,Bool.not_true,Bool.not_false]) | ((with_reducible apply And.intro);focus (first | trivial | omega | decide | (simp -implicitDefEqProofs only [maxLen];omega) | (simp [maxLen,ah,ak,an,av,aj,au,aq] <;> omega))) | fail)
     refine (hK _ _ (gL ?_ ?_)).2 <;> rfl
  ·have e:decide ((i:Int)<(ks.length:Int))=false:=decide_eq_false (by omega)
   rw [dif_neg fH] at hK
   repeat' (first | (simp -implicitDefEqProofs only [go_sem,Int.reduceNegSucc,hl,e]) | (with_reducible refine aA ?_) | ((first | refine ai (fun hg=>?_) (fun hg=>?_) | refine ax (fun hg=>?_) (fun hg=>?_) | refine ay (fun hg=>?_) (fun hg=>?_)) <;> try simp -implicitDefEqProofs only [hg,Bool.not_true,Bool.not_false]) | ((with_reducible apply And.intro);focus (first | trivial | omega | decide | (simp -implicitDefEqProofs only [maxLen];omega) | (simp [maxLen,ah,ak,an,av,aj,au,aq] <;> omega))) | fail)
   refine (hK _ _ (gL ?_ ?_)).2 <;> rfl
def ke (ks:List Nat) (x:Nat):List Nat:=ks.take (kz ks x)++x::ks.drop (kz ks x)
theorem yY (ks:List Nat) (x:Nat):(ke ks x).length=ks.length+1:=by
 have:=DZ ks x
 simp [ke];omega
theorem vU {ks:List Nat} {x m:Nat}:m∈ke ks x↔m=x∨m∈ks:=by
 unfold ke
 rw [List.mem_append,List.mem_cons]
 conv=>rhs;rw [← List.take_append_drop (kz ks x) ks,List.mem_append]
 constructor
 ·rintro (h | h | h)
  ·exact .inr (.inl h)
  ·exact .inl h
  ·exact .inr (.inr h)
 ·rintro (h | h | h)
  ·exact .inr (.inl h)
  ·exact .inl h
  ·exact .inr (.inr h)
theorem Ow (ks:List Nat) (x:Nat):kM (br ks) (kz ks x) x=br (ke ks x):=by simp [kM,br,ke]
theorem Ls (ks:List Int) (p:Int→Bool):(mz ks p).take (iy ks p).length=iy ks p:=by
 unfold mz;rw [List.take_left]
section
variable (l:List Nd) (n:Int)
def qG:List Int:=mz (br (iu l n)) fun m=>!iE l m
theorem Ax:(qG l n).take (bu l n).length=br (bu l n):=by
 have hfl:(iy (br (iu l n)) fun m=>!iE l m)=br (bu l n):=by
  unfold iy bu br
  rw [List.filter_map]
  simp [Function.comp_def]
 have pI:(bu l n).length=(iy (br (iu l n)) fun m=>!iE l m).length:=by rw [hfl];simp [br]
 rw [pI,qG,Ls,hfl]
theorem DY:(bu l n).length≤(qG l n).length:=by
 have:=congrArg List.length (Ax l n)
 rw [GY,List.length_take] at this
 omega
theorem TW (hb:(bu l n).length≤1000000) (hp:(bu l n).Pairwise (·< ·)) (j v x:Nat):aI Go.Proofs.Tryz.prog 77 [.row j v (bu l n).length,.rv (.int .i64 x)] [(j,.row 1 v (aN (aM (qG l n))))] [] (.aP [.rv (.int .i64 (kz (bu l n) x)),.rv (.bool (yw (bu l n) x))]):=by
 refine uY (iU:=[.rv (.sl 1 (aM (br (bu l n)))),.rv (.int .i64 x)]) (TV (bu l n) x hb hp) rfl (fun hp hpre k y r hy hr=>?_) (.aP _ fun k y hy=>?_) (by simp)
 ·match k with
  | 0=>
    cases hy;cases hr
    have:=om (h:=hp) (τ:=fun _=>none) (j:=j) (e:=1) (az:=v) (len:=(bu l n).length) (xs:=aM (qG l n)) (hpre _ (.head _)) rfl (by rw [aj];exact DY l n) (kN _)
    rw [show (aM (qG l n)).take (bu l n).length=aM (br (bu l n)) by rw [← Ax];simp [aM,List.map_take]] at this
    exact .fz _ _ this
  | 1=>cases hy;cases hr;exact aG.2 rfl
  | k+2=>simp at hy
 ·match k with
  | 0=>cases hy;exact .rv _ (.int _ _)
  | 1=>cases hy;exact .rv _ (.bool _)
  | k+2=>simp at hy
end
end Go.aL

namespace Go.aL
open Go
theorem LR {l:List Nd} (hs:gx l) {n:Int} {m:Nat} (h:m∈bu l n):n<m∧m<l.length:=by
 have h:=(List.mem_filter.1 h).1
 unfold iu at h
 split at h
 ·rename_i hin
  obtain ⟨k,rfl,hk⟩:=pM hin
  obtain ⟨h1,h2,h3⟩:=qY.1 h
  have:=hs.up m h1 h2
  simp -implicitDefEqProofs only [Int.toNat_natCast] at h3
  omega
 ·simp at h
theorem tT (l:List Nd) (n:Int):(bu l n).length≤l.length:=by
 have h1:=List.length_filter_le (fun (m:Nat)=>iE l m) (iu l n)
 have h2:=Gv l n
 unfold bu;omega
theorem AJ (e:Ed):(e.cells.map SV.rv)[26]?=some (.rv (.bool e.nN)):=rfl
theorem LF (e:Ed):(e.cells.map SV.rv)[27]?=some (.rv (.bool e.lK)):=rfl
theorem sg (e:Ed):e.cells.length=28:=rfl
theorem yp (f:Fm):(f.cells.map SV.rv).take 25=f.cells.map SV.rv:=rfl
theorem yq (f:Fm):f.cells.take 25=f.cells:=rfl
theorem EO (f:Fm):(f.cells.map SV.rv).drop 25=[]:=rfl
theorem EM (f:Fm):((f.cells.map SV.rv).drop 17).take 8=f.child.cells.map SV.rv:=rfl
theorem DS (c:Ch):c.cells.length=8:=rfl
theorem Dv {X:List (Nat×Fm)} {m:Nat} {f:Fm}:aN (gK X)++[SV.rv (.int .i64 m)::f.cells.map SV.rv]=aN (gK (X++[(m,f)])):=by simp [aN,gK,jn]
theorem Dw {X Y:List (Nat×Fm)}:aN (gK X)++aN (gK Y)=aN (gK (X++Y)):=by simp [aN,gK]
theorem Du {X:List Ch} {c:Ch}:aN (gF X)++[c.cells.map SV.rv]=aN (gF (X++[c])):=by simp [aN,gF]
theorem Jc {X:List (Nat×Fm)}:(gK X).take X.length=gK X:=List.take_of_length_le (by rw [mb];omega)
theorem Jd {X:List (Nat×Fm)} {y:Nat×Fm}:(gK (X++[y])).take (X.length+1)=gK (X++[y]):=List.take_of_length_le (by rw [mb];simp)
def xp:List SV:=[.rv .cr,.rv .cr,.rv (.int .i64 0),.rv (.int .i64 0),.rv (.int .i64 0),.rv (.int .i64 0),.rv (.int .i64 0),.rv (.bool false),.rv (.int .i64 0)]
def qS (h:Sz) (e:Ed) (k n:Nat) (o:List Int) (c:List Ch) (L:List (Nat×Fm)):List (Option HB):=
 [some (.var (h.cells.map .rv)),some (.var (e.cells.map .rv)),some (.var xp),some (.var [.row 6 (2*k) n,.rv .cr,.rv (.int .i64 0),.rv (.int .i64 0),.rv (.int .i64 0),.rv (.int .i64 0),.rv (.int .i64 0),.rv (.bool false),.rv (.int .i64 0)]),
  some (.row 1 k (aN (aM o))),some (.row 8 k (aN (gF c))),some (.row 26 (2*k) (aN (gK L)))]
def yW (h:Sz) (e:Ed) (rs:List (Nat×Fm×La)):List (Option HB):=qS h e rs.length (bU rs).length (jm rs) (gG rs) (bU rs)
theorem Ot (h:Sz) (e:Ed) (k n:Nat) (o:List Int) (c:List Ch) (L:List (Nat×Fm)):lz (mS 7) (qS h e k n o c L):=
 ⟨jE,jE,jE (rs:=bk none),⟨jF.2 (by decide),jE (rs:=[.cr,.int .i64 0,.int .i64 0,.int .i64 0,.int .i64 0,.int .i64 0,.bool false,.int .i64 0])⟩,iV,iV,iV,trivial⟩
theorem EJ (l:List Nd) (n:Int):(bu l n).Pairwise (·< ·):=by
 unfold bu iu
 split
 ·unfold iw bG
  exact (List.pairwise_lt_range.filter _).filter _
 ·exact .nil
theorem Ov (h:Sz) (e:Ed):lz (mS 3) [some (.var (h.cells.map .rv)),some (.var (e.cells.map .rv)),some (.var xp)]:=⟨jE,jE,jE (rs:=bk none),trivial⟩
theorem IB (l:List Nd) (hb:l.length≤1000) (n:Int) (w:Int) (h:Sz) (e:Ed) (bx:Nat→Option (Fm×La)) (more:Int) (ks:List Nat) (hks:(more<0∧ks=bu l n)∨∃ x:Nat,more=x∧ks=ke (bu l n) x) (Wr:ks.length≤1000)
 (hlen:∀ m∈ks,∀ q,bx m=some q→q.2.L.length≤1000)
 (hB:iI w h=true→∀ m∈ks,aI Go.Proofs.Tryz.prog 30 [.rv (cu l),.rv (.int .i64 m),.rv (.int .i64 w),h.sv,.rv (.bool (bP l n).bT)] [] [] (lE (bx m))) :
 aI Go.Proofs.Tryz.prog 49 [.rv (cu l),.rv (.int .i64 n),.rv (.int .i64 w),h.sv,e.sv,.rv (.int .i64 more)] [] [] (.aP [.agg ((bk (kY bx ks (iI w h) e.nN e.lK).1).map .rv),.rv (.bool (kY bx ks (iI w h) e.nN e.lK).2)]):=by
 refine bt Qy [.rv (cu l),.rv (.int .i64 n),.rv (.int .i64 w),h.sv,e.sv,.rv (.int .i64 more)] _ (by simp) (by simp [aO,aW,bp,aS,bg,aC.sv,Ln.sv,Nd.sv]) (fun K hK=>?_)
 have hm:=zM w h
 have hfl:=zj ks
 have hst:=Iy l n
 unfold kY at hK
 cases hmay:iI w h with
 | false=>
   rw [hmay] at hm
   simp -implicitDefEqProofs only [hmay,Bool.false_eq_true,if_false] at hK
   conv in fc _ _ _ _=>reduce
   simp -implicitDefEqProofs only [Sz.sv,Sz.cells,Ed.sv,go_sem,Int.reduceNegSucc] at hm ⊢
   have aT:=hm;repeat' (first | (simp -implicitDefEqProofs only [go_sem,Int.reduceNegSucc,sg]) | (with_reducible refine aA ?_) | (with_reducible first | refine af aT ?_ | refine ag aT ?_) | ((first | refine ai (fun hg=>?_) (fun hg=>?_) | refine ax (fun hg=>?_) (fun hg=>?_) | refine ay (fun hg=>?_) (fun hg=>?_)) <;> try simp -implicitDefEqProofs only [hg,Bool.not_true,Bool.not_false]) | ((with_reducible apply And.intro);focus (first | trivial | omega | decide | (simp -implicitDefEqProofs only [maxLen];omega) | (simp [maxLen,ah,ak,an,av,aj,au,aq] <;> omega))) | fail)
   all_goals (refine (hK _ _ ?_).2;clear hK;simp -implicitDefEqProofs only [go_sem,Int.reduceNegSucc,aQ,aR,aV,bf,aH,aG,aF,bk] <;>(try simp_all [-Int.not_lt,-Int.not_le,aH,aG,aF,bB,bk]) <;> try omega)
 | true=>
   rw [hmay] at hm
   simp -implicitDefEqProofs only [hmay,if_true] at hK
   have hB:=hB hmay
   conv in fc _ _ _ _=>reduce
   simp -implicitDefEqProofs only [Sz.sv,Sz.cells,Ed.sv,go_sem,Int.reduceNegSucc] at hm ⊢
   have flb:=tT l n
   apply VZ
   ·intro main
    rcases hks with ⟨hm0,hk⟩ | ⟨x,rfl,hk⟩
    ·have g0:decide (more≥0)=false:=decide_eq_false (by clear main;omega)
     have hf:=Iw l n (by clear main;omega)
     rw [← hk] at hf
     have y_2:=hm;have bA:=hf;repeat' (first | (simp -implicitDefEqProofs only [go_sem,Int.reduceNegSucc,g0,sg]) | (with_reducible first | refine af y_2 ?_ | refine ag y_2 ?_) | (with_reducible first | refine af bA ?_ | refine ag bA ?_) | ((first | refine ai (fun hg=>?_) (fun hg=>?_) | refine ax (fun hg=>?_) (fun hg=>?_) | refine ay (fun hg=>?_) (fun hg=>?_)) <;> try simp -implicitDefEqProofs only [hg,Bool.not_true,Bool.not_false]) | ((with_reducible apply And.intro);focus (first | trivial | omega | decide | (simp -implicitDefEqProofs only [maxLen];omega) | (simp [maxLen,ah,ak,an,av,aj,au,aq] <;> omega))) | fail)
     refine js [(14,.rv (.sl 1 (aM (br ks)))),(0,.rv (cu l)),(1,.rv (.int .i64 n)),(2,.rv (.int .i64 w)),(9,.ptr 0 0),(10,.ptr 1 0),(12,.ptr 2 0)] [some (.var (h.cells.map .rv)),some (.var (e.cells.map .rv)),some (.var xp)] (bh (by simp [lk])) main
    ·have g0:decide ((x:Int)≥0)=true:=decide_eq_true (by clear main;omega)
     have hf:=Iv l n (by clear main;omega) 3
     have mB:=TW l n (by clear main;omega) (EJ l n) 3 1 x
     have hin:=Ui 3 4 1 0 (kz (bu l n) x) (bu l n).length x (qG l n) (by decide) (DY l n) (DZ _ _) (by clear main;omega)
     rw [Ax,Ow,← hk] at hin
     rw [show (mz (br (iu l n)) fun m=>!iE l m)=qG l n from rfl] at hf
     have gI:ks.length=(bu l n).length+1:=by rw [hk,yY]
     have bC:=hm;have bH:=hf;have bJ:=mB;have bL:=hin;repeat' (first | (simp -implicitDefEqProofs only [go_sem,Int.reduceNegSucc,g0,sg]) | (with_reducible first | refine af bC ?_ | refine ag bC ?_) | (refine bS bH ?_ ?_ ?_;(focus (simp [aY,aB] <;> fail));(focus (simp [bq,aX] <;> fail))) | (refine ck bH ?_ ?_ ?_;(focus (simp [aY,aB] <;> fail));(focus (simp [bq,aX] <;> fail))) | (refine bS bJ ?_ ?_ ?_;(focus (simp [aY,aB] <;> fail));(focus (simp [bq,aX] <;> fail))) | (refine ck bJ ?_ ?_ ?_;(focus (simp [aY,aB] <;> fail));(focus (simp [bq,aX] <;> fail))) | (refine bS bL ?_ ?_ ?_;(focus (simp [aY,aB] <;> fail));(focus (simp [bq,aX] <;> fail))) | (refine ck bL ?_ ?_ ?_;(focus (simp [aY,aB] <;> fail));(focus (simp [bq,aX] <;> fail))) | ((first | refine ai (fun hg=>?_) (fun hg=>?_) | refine ax (fun hg=>?_) (fun hg=>?_) | refine ay (fun hg=>?_) (fun hg=>?_)) <;> try simp -implicitDefEqProofs only [hg,Bool.not_true,Bool.not_false]) | ((with_reducible apply And.intro);focus (first | trivial | omega | decide | (simp -implicitDefEqProofs only [maxLen];omega) | (simp [maxLen,ah,ak,an,av,aj,au,aq] <;> omega))) | fail)
     have htl:(aM (br ks)).take ((bu l n).length+1)=aM (br ks):=List.take_of_length_le (by clear main;rw [hfl];omega)
     refine js _ _ ?_ main
     refine LK (j:=3) (e:=1) (az:=2) (len:=(bu l n).length+1) (xs:=aM (br ks)) (h':=[some (.var (h.cells.map .rv)),some (.var (e.cells.map .rv)),some (.var xp)]) (C:=[some (.row 1 2 (aN (aM (br ks)))),some (.row 1 0 [[.rv (.int .i64 x)]])]) htl (Nat.zero_le _) (Ov h e) ?_ (by simp) rfl (by clear main;rw [hfl];omega) (kN _) ?_
     ·rfl
     ·simp [ij,lk,jU,lQ]
   clear hks hm
   repeat' (first | (simp -implicitDefEqProofs only [go_sem,Int.reduceNegSucc,hfl]) | (with_reducible refine aA ?_) | ((first | refine ai (fun hg=>?_) (fun hg=>?_) | refine ax (fun hg=>?_) (fun hg=>?_) | refine ay (fun hg=>?_) (fun hg=>?_)) <;> try simp -implicitDefEqProofs only [hg,Bool.not_true,Bool.not_false]) | ((with_reducible apply And.intro);focus (first | trivial | omega | decide | (simp -implicitDefEqProofs only [maxLen];omega) | (simp [maxLen,ah,ak,an,av,aj,au,aq] <;> omega))) | fail)
   refine fE (ι:=List (Nat×Fm×La)) (fun rs=>[(54,.rv (.int .i64 rs.length)),(53,.rv (.int .i64 ks.length)),(52,.rv (.sl 1 (aM (br ks)))),(17,.ptr 3 0),(18,.row 4 rs.length rs.length),(19,.row 5 rs.length rs.length),(12,.ptr 2 0),(9,.ptr 0 0),(10,.ptr 1 0),(0,.rv (cu l)),(1,.rv (.int .i64 n)),(2,.rv (.int .i64 w))]) (yW h e)
    (fun rs=>rs.length≤ks.length∧(bU rs).length≤1001*rs.length∧kF bx ks=(kF bx (ks.drop rs.length)).map (rs ++ ·)) (fun rs=>ks.length - rs.length) [] ⟨Nat.zero_le _,by simp [bU],by cases hq:kF bx ks <;> simp [hq]⟩
    ((qL 18 1 0 rfl).trans ((qL 19 8 0 rfl).trans ((tM 3 26 0 rfl rfl).trans (bh (by simp [lk,aX]))))) (fun rs Oa K' hN hX hR=>?_)
   obtain ⟨FG,ud,gW⟩:=Oa
   simp -implicitDefEqProofs only [yW,qS,Sz.cells,go_sem,Int.reduceNegSucc]
   refine ai (fun hg=>?_) (fun hg=>?_)
   ·have aE:rs.length<ks.length:=by simp at hg;omega
    have wu:=cz (k:=rs.length) (by omega)
    have hx:(aM (br ks))[rs.length]?.getD []=[.int .i64 (ks[rs.length]:Nat)]:=by simp [aM,br,aE]
    have kL:=hB _ (List.getElem_mem aE)
    rw [List.drop_eq_getElem_cons aE,kF] at gW
    have sG:=hlen _ (List.getElem_mem aE)
    have ET:=cB (bP l n)
    have q1:((bP l n).cells.map SV.rv).length=48:=rfl
    generalize ks[rs.length]=m at *
    cases sx:bx m with
    | none=>
      rw [sx] at kL gW
      simp -implicitDefEqProofs only [Option.map] at gW
      rw [gW] at hK
      simp -implicitDefEqProofs only [lE,bN,bk,Option.map,Option.isSome,List.map_cons,List.map_nil,Sz.sv,Sz.cells] at kL
      have bQ:=hst;have bZ:=kL;repeat' (first | (simp -implicitDefEqProofs only [go_sem,Int.reduceNegSucc,hfl,hx,ET,q1,ah]) | (with_reducible refine aA ?_) | (with_reducible first | refine af bQ ?_ | refine ag bQ ?_) | (with_reducible first | refine af bZ ?_ | refine ag bZ ?_) | ((first | refine ai (fun hg=>?_) (fun hg=>?_) | refine ax (fun hg=>?_) (fun hg=>?_) | refine ay (fun hg=>?_) (fun hg=>?_)) <;> try simp -implicitDefEqProofs only [hg,Bool.not_true,Bool.not_false]) | ((with_reducible apply And.intro);focus (first | trivial | omega | decide | (simp -implicitDefEqProofs only [maxLen];omega) | (simp [maxLen,ah,ak,an,av,aj,au,aq] <;> omega))) | fail)
      refine hR _ _ (hK _ _ ?_).2
      simp -implicitDefEqProofs only [go_sem,Int.reduceNegSucc,aQ,aR,aV,bf,aH,aG,aF,bk]
    | some q=>
      rw [sx] at kL gW
      obtain ⟨f,t⟩:=q
      have Bz:=sG _ sx
      simp -implicitDefEqProofs only [Option.map_map] at gW
      have By:(bU rs).length≤1001000:=by omega
      have hrl:rs.length≤1000:=by omega
      have hv:2*rs.length+1+1=2*(rs.length+1):=by omega
      have ho:=Hi (rs:=rs) (r:=(m,f,t))
      have hc:=DP (rs:=rs) (r:=(m,f,t))
      have hls:bU rs++[(m,f)]++t.L=bU (rs++[(m,f,t)]):=by rw [Dm];simp [oa]
      have BK:(aM (jm rs)).take rs.length=aM (jm rs):=List.take_of_length_le (by rw [aj,uo];omega)
      have BL:(gF (gG rs)).take rs.length=gF (gG rs):=List.take_of_length_le (by rw [oe];simp [gG])
      have l1:(aM (jm rs)).length=rs.length:=by rw [aj,uo]
      have l2:(gF (gG rs)).length=rs.length:=by rw [oe];simp [gG]
      have l3:=mb (bU rs)
      have l4:=mb t.L
      have l5:(gK (bU rs++[(m,f)])).length=(bU rs).length+1:=by rw [mb];simp
      simp only at Bz
      simp -implicitDefEqProofs only [lE,bN,bk,Option.map,Option.isSome,Pl.cells,List.map_cons,List.map_nil,List.cons_append,List.nil_append,Sz.sv,Sz.cells] at kL
      have cm:=hst;have fO:=kL;repeat' (first | (simp -implicitDefEqProofs only [go_sem,Int.reduceNegSucc,hfl,hx,ET,q1,ah,yo,yp,yq,EO,EM,DS,Dv,Dw,Du,mL,Jc,Jd,BK,BL,l1,l2,l3,l4,l5,wu,hv]) | (with_reducible refine aA ?_) | (with_reducible first | refine af cm ?_ | refine ag cm ?_) | (with_reducible first | refine af fO ?_ | refine ag fO ?_) | ((first | refine ai (fun hg=>?_) (fun hg=>?_) | refine ax (fun hg=>?_) (fun hg=>?_) | refine ay (fun hg=>?_) (fun hg=>?_)) <;> try simp -implicitDefEqProofs only [hg,Bool.not_true,Bool.not_false]) | ((with_reducible apply And.intro);focus (first | trivial | omega | decide | (simp -implicitDefEqProofs only [maxLen];omega) | (simp [maxLen,ah,ak,an,av,aj,au,aq] <;> omega) | (omega;done))) | fail)
      have hq:yW h e (rs++[(m,f,t)])=qS h e (rs.length+1) ((bU rs).length+1+t.L.length) (jm rs++[((bU rs).length:Int)]) (gG rs++[f.child]) (bU rs++[(m,f)]++t.L):=by
       unfold yW
       rw [ho,hc,← hls]
       simp -implicitDefEqProofs only [List.length_append,List.length_cons,List.length_nil,Nat.zero_add]
      refine hN (rs++[(m,f,t)]) _ _ ⟨by simp;omega,by rw [← hls];simp;omega,?_⟩ (by simp;omega) ?_
      ·rw [gW]
       simp -implicitDefEqProofs only [List.length_append,List.length_cons,List.length_nil,Nat.zero_add]
       congr 1
       funext x
       simp
      ·rw [hq]
       exact nA (h':=qS h e (rs.length+1) ((bU rs).length+1+t.L.length) (jm rs++[((bU rs).length:Int)]) (gG rs++[f.child]) (bU rs++[(m,f)]++t.L)) (Nat.zero_le _) (Ot _ _ _ _ _ _ _) (by simp [ij,lk,jU,jF,lQ,qS])
   ·have aE:rs.length=ks.length:=by simp at hg;omega
    rw [aE,List.drop_length] at gW
    simp -implicitDefEqProofs only [kF,Option.map,List.append_nil] at gW
    rw [gW] at hK
    simp -implicitDefEqProofs only [gW] at hK
    simp -implicitDefEqProofs only [go_sem,Int.reduceNegSucc]
    refine hX _ _ _ ?_
    clear hN hX hR
    have hrl:rs.length≤1000:=by omega
    have hcl:(gG rs).length=rs.length:=by simp [gG]
    have hS:=Ur (gG rs) e.nN (by omega) 5 rs.length 7 (by decide)
    rw [hcl] at hS
    cases oy:jy (gG rs) e.nN with
    | none=>
      rw [oy] at hS
      simp -implicitDefEqProofs only [oy] at hK
      have hv:=CY ⟨0,0⟩
      simp -implicitDefEqProofs only [mc,kP,Option.isSome,Su.sv,Su.cells,List.map_cons,List.map_nil] at hS hv
      have gj:=hS;have gQ:=hv;repeat' (first | (simp -implicitDefEqProofs only [go_sem,Int.reduceNegSucc,AJ,sg]) | (with_reducible refine aA ?_) | (refine bS gj ?_ ?_ ?_;(focus (simp [aY,aB] <;> fail));(focus (simp [bq,aX] <;> fail))) | (refine ck gj ?_ ?_ ?_;(focus (simp [aY,aB] <;> fail));(focus (simp [bq,aX] <;> fail))) | (with_reducible first | refine af gQ ?_ | refine ag gQ ?_) | ((first | refine ai (fun hg=>?_) (fun hg=>?_) | refine ax (fun hg=>?_) (fun hg=>?_) | refine ay (fun hg=>?_) (fun hg=>?_)) <;> try simp -implicitDefEqProofs only [hg,Bool.not_true,Bool.not_false]) | ((with_reducible apply And.intro);focus (first | trivial | omega | decide | (simp -implicitDefEqProofs only [maxLen];omega) | (simp [maxLen,ah,ak,an,av,aj,au,aq] <;> omega))) | fail)
      all_goals (refine (hK _ _ ?_).2;clear hK;simp -implicitDefEqProofs only [go_sem,Int.reduceNegSucc,aQ,aR,aV,bf,aH,aG,aF,bk] <;>(try simp_all [-Int.not_lt,-Int.not_le,aH,aG,aF,bB,bk]) <;> try omega)
    | some q=>
      obtain ⟨p,ys⟩:=q
      rw [oy] at hS
      simp -implicitDefEqProofs only [oy] at hK
      have mI:=zR oy
      simp -implicitDefEqProofs only [List.length_nil,Nat.zero_add,hcl] at mI
      have hv:=CY p.cur
      simp -implicitDefEqProofs only [mc,kP,lN,Option.isSome,Pl.cells,Su.sv,Su.cells,List.map_cons,List.map_nil] at hS hv
      cases qm:nT p.cur with
      | false=>
        rw [qm] at hv
        simp -implicitDefEqProofs only [qm,Bool.false_eq_true,if_false] at hK
        have gR:=hS;have gS:=hv;repeat' (first | (simp -implicitDefEqProofs only [go_sem,Int.reduceNegSucc,AJ,sg]) | (with_reducible refine aA ?_) | (refine bS gR ?_ ?_ ?_;(focus (simp [aY,aB] <;> fail));(focus (simp [bq,aX] <;> fail))) | (refine ck gR ?_ ?_ ?_;(focus (simp [aY,aB] <;> fail));(focus (simp [bq,aX] <;> fail))) | (with_reducible first | refine af gS ?_ | refine ag gS ?_) | ((first | refine ai (fun hg=>?_) (fun hg=>?_) | refine ax (fun hg=>?_) (fun hg=>?_) | refine ay (fun hg=>?_) (fun hg=>?_)) <;> try simp -implicitDefEqProofs only [hg,Bool.not_true,Bool.not_false]) | ((with_reducible apply And.intro);focus (first | trivial | omega | decide | (simp -implicitDefEqProofs only [maxLen];omega) | (simp [maxLen,ah,ak,an,av,aj,au,aq] <;> omega))) | fail)
        all_goals (refine (hK _ _ ?_).2;clear hK;simp -implicitDefEqProofs only [go_sem,Int.reduceNegSucc,aQ,aR,aV,bf,aH,aG,aF,bk] <;>(try simp_all [-Int.not_lt,-Int.not_le,aH,aG,aF,bB,bk]) <;> try omega)
      | true=>
        rw [qm] at hv
        simp -implicitDefEqProofs only [qm,if_true] at hK
        have gT:=hS;have gU:=hv;repeat' (first | (simp -implicitDefEqProofs only [go_sem,Int.reduceNegSucc,AJ,sg]) | (with_reducible refine aA ?_) | (refine bS gT ?_ ?_ ?_;(focus (simp [aY,aB] <;> fail));(focus (simp [bq,aX] <;> fail))) | (refine ck gT ?_ ?_ ?_;(focus (simp [aY,aB] <;> fail));(focus (simp [bq,aX] <;> fail))) | (with_reducible first | refine af gU ?_ | refine ag gU ?_) | ((first | refine ai (fun hg=>?_) (fun hg=>?_) | refine ax (fun hg=>?_) (fun hg=>?_) | refine ay (fun hg=>?_) (fun hg=>?_)) <;> try simp -implicitDefEqProofs only [hg,Bool.not_true,Bool.not_false]) | ((with_reducible apply And.intro);focus (first | trivial | omega | decide | (simp -implicitDefEqProofs only [maxLen];omega) | (simp [maxLen,ah,ak,an,av,aj,au,aq] <;> omega))) | fail)
        have BP:=aj ys
        have ql:=zB rs
        refine fE (ι:=Nat) (fun i=>[(119,.rv (.int .i64 i)),(118,.rv (.int .i64 rs.length)),(117,.row 4 rs.length rs.length),(17,.ptr 3 0),(25,.ptr 8 0),(27,.rv (.int .i64 (iT p.cur))),(10,.ptr 1 0),(12,.ptr 2 0)])
         (fun i=>qS h e rs.length (bU rs).length (jm rs) (gG rs) (jo rs (ys.take i))++[some (.row 1 ys.length (aN (aM ys))),some (.var [.row 7 ys.length ys.length,.rv (.int .i64 p.iF),.rv (.int .i64 p.top.p),.rv (.int .i64 p.top.n),.rv (.int .i64 p.cur.p),.rv (.int .i64 p.cur.n),.rv (.bool p.mo)])])
         (fun i=>i≤rs.length) (fun i=>rs.length - i) 0 (Nat.zero_le _) (by rw [List.take_zero,ql];exact bh (by simp [lk])) (fun i hi K' hN hX hR=>?_)
        simp -implicitDefEqProofs only [qS,Sz.cells,go_sem,Int.reduceNegSucc]
        refine ai (fun hg=>?_) (fun hg=>?_)
        ·have hi4:i<rs.length:=by simp at hg;omega
         have wu:=cz (k:=i) (by omega)
         have ho:=Hh hi4
         have BC:=uo (rs:=rs)
         have hy:=oC (show i<ys.length by omega)
         have iX:=HD hi4 (show i<ys.length by omega)
         have ji:=HE hi4 (show i<ys.length by omega)
         have hlt:(bU (rs.take i)).length<(bU rs).length:=by
          have:=(wK rs ys i hi4 (by omega)).1
          have:=(List.getElem?_eq_some_iff.1 this).1
          rwa [qu] at this
         have fS:(gK (jo rs (ys.take i))).length=(bU rs).length:=by rw [mb,qu]
         have fH:=aj (jm rs)
         have Da:=IV (rs[i].1,rs[i].2.1) ys[i]
         have vL:=HC (rs[i].1,rs[i].2.1)
         repeat' (first | (simp -implicitDefEqProofs only [go_sem,Int.reduceNegSucc,ho,hy,iX,ji,fS,fH,BC,Da,vL,wu,BP]) | (with_reducible refine aA ?_) | ((first | refine ai (fun hg=>?_) (fun hg=>?_) | refine ax (fun hg=>?_) (fun hg=>?_) | refine ay (fun hg=>?_) (fun hg=>?_)) <;> try simp -implicitDefEqProofs only [hg,Bool.not_true,Bool.not_false]) | ((with_reducible apply And.intro);focus (first | trivial | omega | decide | (simp -implicitDefEqProofs only [maxLen];omega) | (simp [maxLen,ah,ak,an,av,aj,au,aq] <;> omega) | (omega;done))) | fail)
         exact hN (i+1) _ _ (by omega) (by omega) (bh (by simp [lk]))
        ·have hi4:i=rs.length:=by simp at hg;omega
         have jk:ys.take i=ys:=List.take_of_length_le (by omega)
         rw [jk]
         clear jk hg
         simp -implicitDefEqProofs only [go_sem,Int.reduceNegSucc]
         refine hX _ _ _ ?_
         clear hN hX hR
         have hfit:=mg (qX rs (p,ys) e.lK).high
         have fS:(gK (jo rs ys)).length=(bU rs).length:=by rw [mb,qu]
         simp -implicitDefEqProofs only [qX] at hfit hK
         cases iX:p.mo <;> cases nc:e.lK <;> simp -implicitDefEqProofs only [iX,nc,Bool.false_eq_true,if_true,if_false] at hfit hK
         all_goals ((have gV:=hfit;repeat' (first | (simp -implicitDefEqProofs only [go_sem,Int.reduceNegSucc,LF,sg,iX,nc]) | (with_reducible refine aA ?_) | (with_reducible first | refine af gV ?_ | refine ag gV ?_) | ((first | refine ai (fun hg=>?_) (fun hg=>?_) | refine ax (fun hg=>?_) (fun hg=>?_) | refine ay (fun hg=>?_) (fun hg=>?_)) <;> try simp -implicitDefEqProofs only [hg,Bool.not_true,Bool.not_false]) | ((with_reducible apply And.intro);focus (first | trivial | omega | decide | (simp -implicitDefEqProofs only [maxLen];omega) | (simp [maxLen,ah,ak,an,av,aj,au,aq] <;> omega))) | fail)))
         all_goals (refine (hK _ _ ?_).2;simp -implicitDefEqProofs only [go_sem,Int.reduceNegSucc,aQ,aR,aV,bf,aH,aG,aF,bk,Pl.cells,iX])
         all_goals (refine ⟨pQ rfl rfl (by rw [fS]) (zw _),pQ rfl rfl (by rw [aj]) (kN _)⟩)
theorem UI (l:List Nd) (hb:l.length≤1000) (n:Int) (w:Int) (h:Sz) (e:Ed) (bx:Nat→Option (Fm×La)) (hlen:∀ m∈bu l n,∀ q,bx m=some q→q.2.L.length≤1000)
 (hB:∀ m∈bu l n,aI Go.Proofs.Tryz.prog 30 [.rv (cu l),.rv (.int .i64 m),.rv (.int .i64 w),h.sv,.rv (.bool (bP l n).bT)] [] [] (lE (bx m))) :
 aI Go.Proofs.Tryz.prog 49 [.rv (cu l),.rv (.int .i64 n),.rv (.int .i64 w),h.sv,e.sv,.rv (.int .i64 (-1))] [] [] (.aP [.agg ((bk (kY bx (bu l n) (iI w h) e.nN e.lK).1).map .rv),.rv (.bool (kY bx (bu l n) (iI w h) e.nN e.lK).2)]):=
 IB l hb n w h e bx (-1) (bu l n) (.inl ⟨by decide,rfl⟩) (by have:=tT l n;omega) hlen (fun _=>hB)
end Go.aL

namespace Go.aL
open Go
theorem Qq:aU Go.Proofs.Tryz.prog 10 34 (fc Go.Proofs.Tryz.prog 10 34 [(.c 10 25 true),(.c 11 9 true),(.t 12)]) [(.c 10 25 true),(.c 11 9 true),(.t 12)]:=bl (by kernel_rfl)
def yX (l:List Nd) (bd:Nat→Int→Sz→Bool→Option (Fm×La)) (n:Nat) (e:Ed) (x:Ao):Option La×Bool:=
 kY (fun m=>bd m x.w (mG e) (bP l n).bT) (bu l n) (iI x.w (mG e)) e.nN e.lK
def mq (l:List Nd):Nat→Nat→Int→Sz→Bool→Option (Fm×La)
 | 0,_,_,_,_=>none
 | d+1,n,w,h,bT=>rV l (yX l (mq l d) n) n w h bT
def An (l:List Nd) (n:Int) (w:Int) (h:Sz) (bT:Bool):Option (Fm×La):=if (iA l n && iI w h)=true then mq l (l.length+1) n.toNat w h bT else none
theorem Mf (l:List Nd) (n:Int):(bu l n).Pairwise (·< ·):=by
 unfold bu iu
 split
 ·unfold iw bG
  exact (List.pairwise_lt_range.filter _).filter _
 ·exact .nil
theorem pe {l:List Nd} {n:Nat} {m:Nat} (h:m∈bu l n):0<m∧m<l.length∧bE l m=n:=by
 have h:=(List.mem_filter.1 h).1
 unfold iu at h
 split at h
 ·exact qY.1 (by simpa using h)
 ·simp at h
theorem Mg {l:List Nd} (hs:gx l) {n:Nat} (hn:n<l.length):(bu l n).Pairwise (fun x y=>iq l x≤y)∧∀ m∈bu l n,n+1≤m∧m≤iq l m∧iq l m≤iq l n:=by
 have hwf:=hs.wf
 refine ⟨?_,fun m hm=>?_⟩
 ·refine List.Pairwise.imp_of_mem (fun {x y} hx hy hlt=>?_) (Mf l n)
  obtain ⟨x1,x2,x3⟩:=pe hx
  obtain ⟨y1,y2,y3⟩:=pe hy
  have WI:=hs.up x x1 x2
  apply Classical.byContradiction
  intro hc
  have:=(hs.below x2 y2).2 ⟨by omega,by omega⟩
  rcases (sR hwf y1 y2).1 this with h | h
  ·omega
  ·rw [y3] at h
   have:=uv _ _ h
   simp at this
   omega
 ·obtain ⟨m1,m2,m3⟩:=pe hm
  have hu:=hs.up m m1 m2
  obtain ⟨g1,g2⟩:=hs.si m2
  refine ⟨by omega,by omega,?_⟩
  have h1:=(hs.below m2 (show iq l m - 1<l.length by omega)).2 ⟨by omega,by omega⟩
  have h2:n∈bz l m:=(sR hwf m1 m2).2 (.inr (by rw [m3];simpa using zf))
  have:=(hs.below hn (show iq l m - 1<l.length by omega)).1 (Cz h1 n h2)
  omega
theorem IU (e:Nat→Nat):∀ (ks:List Nat) (a b:Nat),ks.Pairwise (fun x y=>e x≤y)→(∀ k∈ks,a≤k∧k≤e k∧e k≤b)→(ks.map fun k=>e k - k).sum≤b - a
 | [],_,_,_,_=>by simp
 | k::ks,a,b,hp,hk=>by
   rw [List.pairwise_cons] at hp
   have:=IU e ks (e k) b hp.2 (fun x hx=>⟨hp.1 x hx,(hk x (.tail _ hx)).2⟩)
   have:=hk k (.head _)
   simp -implicitDefEqProofs only [List.map_cons,List.sum_cons]
   omega
theorem CH {bx:Nat→Option (Fm×La)} {g:Nat→Nat}:∀ {ks:List Nat} {rs:List (Nat×Fm×La)},kF bx ks=some rs→(∀ m∈ks,∀ q,bx m=some q→q.2.L.length+1≤g m)→(bU rs).length≤(ks.map g).sum
 | [],rs,h,_=>by cases h;simp [bU]
 | m::ks,rs,h,hg=>by
   rw [kF] at h
   split at h
   ·rename_i q hq
    rw [Option.map_eq_some_iff] at h
    obtain ⟨rs',h1,rfl⟩:=h
    have:=CH h1 (fun x hx=>hg x (.tail _ hx))
    have:=hg m (.head _) q hq
    show (oa (m,q)++bU rs').length≤_
    simp -implicitDefEqProofs only [oa,List.length_append,List.length_cons,List.map_cons,List.sum_cons]
    omega
   ·cases h
theorem FT {bx:Nat→Option (Fm×La)} {ks:List Nat} {ok ot ob:Bool} {t:La} (h:(kY bx ks ok ot ob).1=some t):∃ rs q,kF bx ks=some rs∧jy (gG rs) ot=some q∧t=qX rs q ob:=by
 unfold kY at h
 repeat' split at h
 all_goals first | (cases h;done) | (cases h;exact ⟨_,_,by assumption,by assumption,rfl⟩)
theorem KR {l:List Nd} {ins:Ed→Ao→Option La×Bool} {n w:Int} {h:Sz} {bT:Bool} {q:Fm×La} (hq:rV l ins n w h bT=some q):∃ x,nt (qB l n w h bT)=some x∧okB l n w h=true∧(ins (cq l n w h) x)=(some q.2,true)∧q.1=tU (cq l n w h) x (bu l n).length q.2:=by
 unfold rV at hq
 split at hq
 ·rename_i hok
  rw [Option.bind_eq_some_iff] at hq
  obtain ⟨x,hx,hf⟩:=hq
  unfold oZ at hf
  split at hf
  ·rename_i h2
   rw [Option.bind_eq_some_iff] at hf
   obtain ⟨t,ht,hf⟩:=hf
   split at hf
   ·cases hf;exact ⟨x,hx,hok,Prod.ext ht h2,rfl⟩
   ·cases hf
  ·cases hf
 ·cases hq
theorem tE {l:List Nd} (hs:gx l):∀ (d n:Nat) (w:Int) (h:Sz) (bT:Bool) (q:Fm×La),n<l.length→mq l d n w h bT=some q→q.2.L.length+1≤iq l n - n
 | 0,_,_,_,_,_,_,h=>by cases h
 | d+1,n,w,h,bT,q,hn,hq=>by
   obtain ⟨x,_,_,hi,_⟩:=KR hq
   obtain ⟨rs,z,h1,h2,h3⟩:=FT (t:=q.2) (by rw [show kY _ _ _ _ _=yX l (mq l d) n (cq l n w h) x from rfl,hi])
   obtain ⟨p1,p2⟩:=Mg hs hn
   have hl:=CH (g:=fun m=>iq l m - m) h1 (fun m hm r hr=>tE hs d m _ _ _ r (pe hm).2.1 hr)
   have WH:=IU (iq l) _ (n+1) (iq l n) p1 p2
   have:=(hs.si hn).1
   rw [h3]
   simp -implicitDefEqProofs only [qX,qu]
   omega
theorem CS (l:List Nd) (hs:gx l) (hb:l.length≤1000):∀ (d n:Nat) (w:Int) (h:Sz) (bT:Bool),n<l.length→l.length<n+d→aI Go.Proofs.Tryz.prog 30 [.rv (cu l),.rv (.int .i64 n),.rv (.int .i64 w),h.sv,.rv (.bool bT)] [] [] (lE (mq l d n w h bT))
 | 0,n,w,h,bT,hn,hd=>by omega
 | d+1,n,w,h,bT,hn,hd=>by
   refine Ux l (by omega) n w h bT (yX l (mq l d) n) (fun e x hq=>FU hq) (fun x=>?_)
   refine UI l hb n x.w (mG (cq l n w h)) (cq l n w h) (fun m=>mq l d m x.w (mG (cq l n w h)) (bP l n).bT) (fun m hm q hq=>?_) (fun m hm=>?_)
   ·have:=tE hs d m _ _ _ q (pe hm).2.1 hq
    have:=(hs.si (pe hm).2.1).2
    omega
   ·obtain ⟨h1,h2,h3⟩:=pe hm
    have:=hs.up m h1 h2
    exact CS l hs hb d m _ _ _ h2 (by omega)
theorem UG (l:List Nd) (hs:gx l) (hb:l.length≤1000) (n:Int) (w:Int) (h:Sz) (bT:Bool):aI Go.Proofs.Tryz.prog 10 [.rv (cu l),.rv (.int .i64 n),.rv (.int .i64 w),h.sv,.rv (.bool bT)] [] [] (lE (An l n w h bT)):=by
 refine bt Qq [.rv (cu l),.rv (.int .i64 n),.rv (.int .i64 w),h.sv,.rv (.bool bT)] _ (by simp) (by simp [aO,aW,bp,aS,bg,aC.sv,Ln.sv,Nd.sv]) (fun K hK=>?_)
 have hm:=CQ l n
 have hw:=zM w h
 unfold An at hK
 cases jg:iA l n with
 | false=>
   rw [jg] at hm
   simp -implicitDefEqProofs only [jg,Bool.false_and,Bool.false_eq_true,if_false] at hK
   conv in fc _ _ _ _=>reduce
   simp -implicitDefEqProofs only [Sz.sv,Sz.cells,go_sem,Int.reduceNegSucc]
   have aT:=hm;repeat' (first | (simp -implicitDefEqProofs only [go_sem,Int.reduceNegSucc]) | (with_reducible refine aA ?_) | (with_reducible first | refine af aT ?_ | refine ag aT ?_) | ((first | refine ai (fun hg=>?_) (fun hg=>?_) | refine ax (fun hg=>?_) (fun hg=>?_) | refine ay (fun hg=>?_) (fun hg=>?_)) <;> try simp -implicitDefEqProofs only [hg,Bool.not_true,Bool.not_false]) | ((with_reducible apply And.intro);focus (first | trivial | omega | decide | (simp -implicitDefEqProofs only [maxLen];omega) | (simp [maxLen,ah,ak,an,av,aj,au,aq] <;> omega))) | fail)
   all_goals (refine (hK _ _ ?_).2;clear hK;simp -implicitDefEqProofs only [go_sem,Int.reduceNegSucc,aQ,aR,aV,bf,aH,aG,aF,bN,bk,Option.map,Option.isSome] <;>(try simp_all [-Int.not_lt,-Int.not_le,aH,aG,aF,bB,bN,bk,Option.map,Option.isSome]) <;> try omega)
 | true=>
   rw [jg] at hm
   cases iP:iI w h with
   | false=>
     rw [iP] at hw
     simp -implicitDefEqProofs only [jg,iP,Bool.true_and,Bool.false_eq_true,if_false] at hK
     conv in fc _ _ _ _=>reduce
     simp -implicitDefEqProofs only [Sz.sv,Sz.cells,go_sem,Int.reduceNegSucc] at hw ⊢
     have y_2:=hm;have bA:=hw;repeat' (first | (simp -implicitDefEqProofs only [go_sem,Int.reduceNegSucc]) | (with_reducible refine aA ?_) | (with_reducible first | refine af y_2 ?_ | refine ag y_2 ?_) | (with_reducible first | refine af bA ?_ | refine ag bA ?_) | ((first | refine ai (fun hg=>?_) (fun hg=>?_) | refine ax (fun hg=>?_) (fun hg=>?_) | refine ay (fun hg=>?_) (fun hg=>?_)) <;> try simp -implicitDefEqProofs only [hg,Bool.not_true,Bool.not_false]) | ((with_reducible apply And.intro);focus (first | trivial | omega | decide | (simp -implicitDefEqProofs only [maxLen];omega) | (simp [maxLen,ah,ak,an,av,aj,au,aq] <;> omega))) | fail)
     all_goals (refine (hK _ _ ?_).2;clear hK;simp -implicitDefEqProofs only [go_sem,Int.reduceNegSucc,aQ,aR,aV,bf,aH,aG,aF,bN,bk,Option.map,Option.isSome] <;>(try simp_all [-Int.not_lt,-Int.not_le,aH,aG,aF,bB,bN,bk,Option.map,Option.isSome]) <;> try omega)
   | true=>
     rw [iP] at hw
     simp -implicitDefEqProofs only [jg,iP,Bool.and_self,if_true] at hK
     have hin:ic l n=true:=by simp [iA] at jg;exact jg.1
     obtain ⟨k,rfl,hk⟩:=pM hin
     have hx:=CS l hs hb (l.length+1) k w h bT hk (by omega)
     simp -implicitDefEqProofs only [Int.toNat_natCast] at hK
     generalize mq l (l.length+1) k w h bT=r at *
     simp -implicitDefEqProofs only [lE] at hx hK
     obtain ⟨u,hu,ir⟩:∃ u,bN (r.map (·.1))=u∧u.length=25:=⟨_,rfl,by cases r <;> rfl⟩
     obtain ⟨v,hv,hvl⟩:∃ v,bk (r.map (·.2))=v∧v.length=9:=⟨_,rfl,by cases r <;> rfl⟩
     rw [hu,hv] at hx hK
     have u1:(u.map SV.rv).drop 25=[]:=List.drop_of_length_le (by simp [ir])
     have u2:(u.map SV.rv).take 25=u.map SV.rv:=List.take_of_length_le (by simp [ir])
     have v1:(v.map SV.rv).drop 9=[]:=List.drop_of_length_le (by simp [hvl])
     have v2:(v.map SV.rv).take 9=v.map SV.rv:=List.take_of_length_le (by simp [hvl])
     conv in fc _ _ _ _=>reduce
     simp -implicitDefEqProofs only [Sz.sv,Sz.cells,go_sem,Int.reduceNegSucc] at hw hx ⊢
     have bC:=hm;have bH:=hw;have bJ:=hx;repeat' (first | (simp -implicitDefEqProofs only [go_sem,Int.reduceNegSucc,ir,hvl,u1,u2,v1,v2,List.length_map,List.append_nil]) | (with_reducible refine aA ?_) | (with_reducible first | refine af bC ?_ | refine ag bC ?_) | (with_reducible first | refine af bH ?_ | refine ag bH ?_) | (with_reducible first | refine af bJ ?_ | refine ag bJ ?_) | ((first | refine ai (fun hg=>?_) (fun hg=>?_) | refine ax (fun hg=>?_) (fun hg=>?_) | refine ay (fun hg=>?_) (fun hg=>?_)) <;> try simp -implicitDefEqProofs only [hg,Bool.not_true,Bool.not_false]) | ((with_reducible apply And.intro);focus (first | trivial | omega | decide | (simp -implicitDefEqProofs only [maxLen];omega) | (simp [maxLen,ah,ak,an,av,aj,au,aq] <;> omega))) | fail)
     all_goals (refine (hK _ _ ?_).2;simp -implicitDefEqProofs only [go_sem,Int.reduceNegSucc,aQ,aR,aV,bf,aH,aG,aF,fU,ir,hvl,u2,v2,List.length_map,List.drop_zero])
end Go.aL

namespace Go.aL
open Go
theorem Qf:aU Go.Proofs.Tryz.prog 18 168 (fc Go.Proofs.Tryz.prog 18 168 [(.c 14 9 true),(.t 15)]) [(.c 14 9 true),(.t 15)]:=bl (by kernel_rfl)
def sZ (l:List Nd) (n more:Int) (k:Nat):Bool:=decide (k≠0) && decide (bE l k=n) && (decide ((k:Int)=more) || iE l k)
def lV (l:List Nd) (n more:Int):List Nat:=(List.range l.length).filter (sZ l n more)
theorem Gw (l:List Nd) (n:Nat) (hn:n<l.length):lV l n (-1)=bu l n:=by
 unfold lV bu iu
 rw [if_pos (sM hn)]
 unfold iw bG
 rw [List.filter_filter]
 refine List.filter_congr fun k hk=>?_
 unfold sZ
 have:((k:Int) = -1)=False:=eq_false (by omega)
 simp -implicitDefEqProofs only [this,decide_false,Bool.false_or,Int.toNat_natCast]
 rw [Bool.and_comm]
 congr 1
 rw [Bool.eq_iff_iff];simp <;> try omega
def qT (h:Sz) (k n:Nat) (o:List Int) (c:List Ch) (L:List (Nat×Fm)):List (Option HB):=
 [some (.var (h.cells.map .rv)),some (.var xp),some (.var [.row 5 (2*k) n,.rv .cr,.rv (.int .i64 0),.rv (.int .i64 0),.rv (.int .i64 0),.rv (.int .i64 0),.rv (.int .i64 0),.rv (.bool false),.rv (.int .i64 0)]),
  some (.row 1 k (aN (aM o))),some (.row 8 k (aN (gF c))),some (.row 26 (2*k) (aN (gK L)))]
def yV (h:Sz) (rs:List (Nat×Fm×La)):List (Option HB):=qT h rs.length (bU rs).length (jm rs) (gG rs) (bU rs)
theorem Ou (h:Sz) (k n:Nat) (o:List Int) (c:List Ch) (L:List (Nat×Fm)):lz (mS 6) (qT h k n o c L):=
 ⟨jE,jE (rs:=bk none),⟨jF.2 (by decide),jE (rs:=[.cr,.int .i64 0,.int .i64 0,.int .i64 0,.int .i64 0,.int .i64 0,.bool false,.int .i64 0])⟩,iV,iV,iV,trivial⟩
theorem Sv (x:Nd):(x.cells.drop 42)[0]?=some (.bool x.s.bT):=rfl
theorem II (l:List Nd) (ht:fW l=true) (hb:l.length≤1000) (n:Nat) (hn:n<l.length) (more:Int) (w:Int) (h:Sz) (ot ob:Bool) (bx:Nat→Option (Fm×La)) (hlen:∀ m∈lV l n more,∀ q,bx m=some q→q.2.L.length≤1000)
 (hB:iI w h=true→∀ m∈lV l n more,aI Go.Proofs.Tryz.prog 11 [.rv (.sl 49 (bw l)),.rv (.int .i64 m),.rv (.int .i64 w),h.sv,.rv (.bool (bP l n).bT)] [] [] (lE (bx m))) :
 aI Go.Proofs.Tryz.prog 18 [.rv (.sl 49 (bw l)),.rv (.int .i64 n),.rv (.int .i64 more),.rv (.int .i64 w),h.sv,.rv (.bool ot),.rv (.bool ob)] [] [] (.aP [.agg ((bk (kY bx (lV l n more) (iI w h) ot ob).1).map .rv),.rv (.bool (kY bx (lV l n more) (iI w h) ot ob).2)]):=by
 refine bt Qf [.rv (.sl 49 (bw l)),.rv (.int .i64 n),.rv (.int .i64 more),.rv (.int .i64 w),h.sv,.rv (.bool ot),.rv (.bool ob)] _ (by simp) (by simp [aO,aW,bp,aS,bg,aC.sv,Ln.sv,Nd.sv]) (fun K hK=>?_)
 have hm:=CX w h
 have hl:=an l
 have FO:=iS hn
 have ji:bP l n=(l[n]'hn).s:=by simp [bP,sM hn,hn]
 rw [ji] at hB
 unfold kY at hK
 cases hmay:iI w h with
 | false=>
   rw [hmay] at hm
   simp -implicitDefEqProofs only [hmay,Bool.false_eq_true,if_false] at hK
   conv in fc _ _ _ _=>reduce
   simp -implicitDefEqProofs only [Sz.sv,Sz.cells,go_sem,Int.reduceNegSucc] at hm ⊢
   have aT:=hm;repeat' (first | (simp -implicitDefEqProofs only [go_sem,Int.reduceNegSucc]) | (with_reducible refine aA ?_) | (with_reducible first | refine af aT ?_ | refine ag aT ?_) | ((first | refine ai (fun hg=>?_) (fun hg=>?_) | refine ax (fun hg=>?_) (fun hg=>?_) | refine ay (fun hg=>?_) (fun hg=>?_)) <;> try simp -implicitDefEqProofs only [hg,Bool.not_true,Bool.not_false]) | ((with_reducible apply And.intro);focus (first | trivial | omega | decide | (simp -implicitDefEqProofs only [maxLen];omega) | (simp [maxLen,ah,ak,an,av,aj,au,aq] <;> omega))) | fail)
   all_goals (refine (hK _ _ ?_).2;clear hK;simp -implicitDefEqProofs only [go_sem,Int.reduceNegSucc,aQ,aR,aV,bf,aH,aG,aF,bk] <;>(try simp_all [-Int.not_lt,-Int.not_le,aH,aG,aF,bB,bk]) <;> try omega)
 | true=>
   have hB:=hB hmay
   rw [hmay] at hm
   simp -implicitDefEqProofs only [hmay,if_true] at hK
   conv in fc _ _ _ _=>reduce
   simp -implicitDefEqProofs only [Sz.sv,Sz.cells,go_sem,Int.reduceNegSucc] at hm ⊢
   have y_2:=hm;repeat' (first | (simp -implicitDefEqProofs only [go_sem,Int.reduceNegSucc,hl]) | (with_reducible refine aA ?_) | (with_reducible first | refine af y_2 ?_ | refine ag y_2 ?_) | ((first | refine ai (fun hg=>?_) (fun hg=>?_) | refine ax (fun hg=>?_) (fun hg=>?_) | refine ay (fun hg=>?_) (fun hg=>?_)) <;> try simp -implicitDefEqProofs only [hg,Bool.not_true,Bool.not_false]) | ((with_reducible apply And.intro);focus (first | trivial | omega | decide | (simp -implicitDefEqProofs only [maxLen];omega) | (simp [maxLen,ah,ak,an,av,aj,au,aq] <;> omega))) | fail)
   refine fE (ι:=Nat×List (Nat×Fm×La)) (fun q=>[(35,.rv (.int .i64 q.1)),(34,.rv (.int .i64 l.length)),(16,.ptr 2 0),(18,.row 3 q.2.length q.2.length),(17,.row 4 q.2.length q.2.length),(14,.ptr 1 0),(11,.ptr 0 0),(0,.rv (.sl 49 (bw l))),(1,.rv (.int .i64 n)),(2,.rv (.int .i64 more)),(3,.rv (.int .i64 w)),(5,.rv (.bool ot)),(6,.rv (.bool ob))]) (fun q=>yV h q.2)
    (fun q=>q.1≤l.length∧q.2.length≤q.1∧(bU q.2).length≤1001*q.2.length∧kF bx (lV l n more)=(kF bx (((List.range l.length).drop q.1).filter (sZ l n more))).map (q.2 ++ ·)) (fun q=>l.length - q.1) (0,[]) ⟨Nat.zero_le _,Nat.zero_le _,by simp [bU],by show kF bx (lV l n more)=(kF bx (lV l n more)).map _;cases hq:kF bx (lV l n more) <;> simp [hq]⟩
    ((qL 18 1 0 rfl).trans ((qL 17 8 0 rfl).trans ((tM 2 26 0 rfl rfl).trans (bh (by simp [lk,aX]))))) (fun q hq K' hN hX hR=>?_)
   obtain ⟨k,rs⟩:=q
   obtain ⟨fJ,hk2,ud,gW⟩:=hq
   dsimp at fJ hk2 ud gW ⊢
   simp -implicitDefEqProofs only [yV,qT,Sz.cells,go_sem,Int.reduceNegSucc]
   refine ai (fun hg=>?_) (fun hg=>?_)
   ·have aE:k<l.length:=by simp at hg;omega
    have wu:=cz (k:=k) (by omega)
    have WY:=cz (k:=rs.length) (by omega)
    have hx:=iS aE
    have yP:bE l k=(l[k]'aE).parent:=(lZ aE).symm
    have jg:=zP l ht k
    have vK:=zQ l ht k
    have Fh:(List.range l.length).drop k=k::(List.range l.length).drop (k+1):=by
     rw [List.drop_eq_getElem_cons (by simpa using aE)];simp
    rw [Fh,List.filter_cons] at gW
    have hmem:sZ l n more k=true→k∈lV l n more:=fun hp=>List.mem_filter.2 ⟨List.mem_range.2 aE,hp⟩
    have hpk:sZ l n more k=(decide (k≠0) && decide ((l[k]'aE).parent=n) && (decide ((k:Int)=more) || (iA l k && !jw l k))):=by rw [← yP];rfl
    have x1:=ak (l[k]'aE)
    have x2:=kO (l[k]'aE)
    have y1:=ak (l[n]'hn)
    have y2:=Sv (l[n]'hn)
    generalize l[k]'aE=x at *
    generalize l[n]'hn=xn at *
    generalize iA l k=M at *
    generalize jw l k=O at *
    clear yP Fh
    cases hp:sZ l n more k with
    | false=>
      rw [hp] at gW hpk
      simp -implicitDefEqProofs only [Bool.false_eq_true,if_false] at gW
      have e4:k=0∨(k≠0∧x.parent≠n)∨(k≠0∧x.parent=n∧(k:Int)≠more∧M=false)∨(k≠0∧x.parent=n∧(k:Int)≠more∧M=true∧O=true):=by
       by_cases a:k=0
       ·exact .inl a
       by_cases b:x.parent=n
       ·by_cases c:(k:Int)=more
        ·simp [a,b,c] at hpk
        ·cases hM:M
         ·exact .inr (.inr (.inl ⟨a,b,c,rfl⟩))
         ·cases hO:O
          ·simp [a,b,c,hM,hO] at hpk
          ·exact .inr (.inr (.inr ⟨a,b,c,rfl,rfl⟩))
       ·exact .inr (.inl ⟨a,b⟩)
      have done:=hN (k+1,rs)
      rcases e4 with h0 | ⟨h0,h1⟩ | ⟨h0,h1,h2,h3⟩ | ⟨h0,h1,h2,h3,h4⟩
      ·have g0:(((k:Int)) == 0)=true:=by simp [h0]
       repeat' (first | (simp -implicitDefEqProofs only [go_sem,Int.reduceNegSucc,hl,hx,x1,x2,g0,List.length_drop,wu]) | (with_reducible refine aA ?_) | ((first | refine ai (fun hg=>?_) (fun hg=>?_) | refine ax (fun hg=>?_) (fun hg=>?_) | refine ay (fun hg=>?_) (fun hg=>?_)) <;> try simp -implicitDefEqProofs only [hg,Bool.not_true,Bool.not_false]) | ((with_reducible apply And.intro);focus (first | trivial | omega | decide | (simp -implicitDefEqProofs only [maxLen];omega) | (simp [maxLen,ah,ak,an,av,aj,au,aq] <;> omega))) | fail)
       exact done _ _ ⟨aE,by dsimp;omega,ud,gW⟩ (by dsimp;omega) (bh (by simp [lk]))
      ·have g0:(((k:Int)) == 0)=false:=by simp [h0]
       have g1:(x.parent !=(n:Int))=true:=by simp [h1]
       repeat' (first | (simp -implicitDefEqProofs only [go_sem,Int.reduceNegSucc,hl,hx,x1,x2,g0,g1,List.length_drop,wu]) | (with_reducible refine aA ?_) | ((first | refine ai (fun hg=>?_) (fun hg=>?_) | refine ax (fun hg=>?_) (fun hg=>?_) | refine ay (fun hg=>?_) (fun hg=>?_)) <;> try simp -implicitDefEqProofs only [hg,Bool.not_true,Bool.not_false]) | ((with_reducible apply And.intro);focus (first | trivial | omega | decide | (simp -implicitDefEqProofs only [maxLen];omega) | (simp [maxLen,ah,ak,an,av,aj,au,aq] <;> omega))) | fail)
       exact done _ _ ⟨aE,by dsimp;omega,ud,gW⟩ (by dsimp;omega) (bh (by simp [lk]))
      ·have g0:(((k:Int)) == 0)=false:=by simp [h0]
       have g1:(x.parent !=(n:Int))=false:=by simp [h1]
       have g2:((k:Int) != more)=true:=by simp [h2]
       rw [h3] at jg
       have bA:=jg;repeat' (first | (simp -implicitDefEqProofs only [go_sem,Int.reduceNegSucc,hl,hx,x1,x2,g0,g1,g2,List.length_drop,wu]) | (with_reducible refine aA ?_) | (with_reducible first | refine af bA ?_ | refine ag bA ?_) | ((first | refine ai (fun hg=>?_) (fun hg=>?_) | refine ax (fun hg=>?_) (fun hg=>?_) | refine ay (fun hg=>?_) (fun hg=>?_)) <;> try simp -implicitDefEqProofs only [hg,Bool.not_true,Bool.not_false]) | ((with_reducible apply And.intro);focus (first | trivial | omega | decide | (simp -implicitDefEqProofs only [maxLen];omega) | (simp [maxLen,ah,ak,an,av,aj,au,aq] <;> omega))) | fail)
       exact done _ _ ⟨aE,by dsimp;omega,ud,gW⟩ (by dsimp;omega) (bh (by simp [lk]))
      ·have g0:(((k:Int)) == 0)=false:=by simp [h0]
       have g1:(x.parent !=(n:Int))=false:=by simp [h1]
       have g2:((k:Int) != more)=true:=by simp [h2]
       rw [h3] at jg
       rw [h4] at vK
       have bC:=jg;have bH:=vK;repeat' (first | (simp -implicitDefEqProofs only [go_sem,Int.reduceNegSucc,hl,hx,x1,x2,g0,g1,g2,List.length_drop,wu]) | (with_reducible refine aA ?_) | (with_reducible first | refine af bC ?_ | refine ag bC ?_) | (with_reducible first | refine af bH ?_ | refine ag bH ?_) | ((first | refine ai (fun hg=>?_) (fun hg=>?_) | refine ax (fun hg=>?_) (fun hg=>?_) | refine ay (fun hg=>?_) (fun hg=>?_)) <;> try simp -implicitDefEqProofs only [hg,Bool.not_true,Bool.not_false]) | ((with_reducible apply And.intro);focus (first | trivial | omega | decide | (simp -implicitDefEqProofs only [maxLen];omega) | (simp [maxLen,ah,ak,an,av,aj,au,aq] <;> omega))) | fail)
       exact done _ _ ⟨aE,by dsimp;omega,ud,gW⟩ (by dsimp;omega) (bh (by simp [lk]))
    | true=>
      rw [hp] at gW hpk
      simp -implicitDefEqProofs only [if_true] at gW
      rw [kF] at gW
      have kL:=hB _ (hmem hp)
      have sG:=hlen _ (hmem hp)
      have Bv:k≠0∧x.parent=n∧∃ c:Bool,((k:Int) != more)=c∧(c=true→M=true∧O=false):=by
       simp at hpk
       refine ⟨hpk.1.1,hpk.1.2,_,rfl,fun hc=>?_⟩
       have:¬ (k:Int)=more:=by simpa using hc
       simpa [this] using hpk.2
      obtain ⟨h0,h1,c,g2,Nu⟩:=Bv
      cases c
      case' true=>
       obtain ⟨hM,hO⟩:=Nu rfl
       rw [hM] at jg
       rw [hO] at vK
      all_goals
       have g0:(((k:Int)) == 0)=false:=by simp [h0]
       have g1:(x.parent !=(n:Int))=false:=by simp [h1]
       cases sx:bx k with
       | none=>
         rw [sx] at kL gW
         simp -implicitDefEqProofs only [Option.map] at gW
         rw [gW] at hK
         simp -implicitDefEqProofs only [lE,bN,bk,Option.map,Option.isSome,List.map_cons,List.map_nil,Sz.sv,Sz.cells] at kL
         have bJ:=jg;have bL:=vK;have bQ:=kL;repeat' (first | (simp -implicitDefEqProofs only [go_sem,Int.reduceNegSucc,hl,hx,FO,x1,x2,y1,y2,g0,g1,g2,List.length_drop,wu]) | (with_reducible refine aA ?_) | (with_reducible first | refine af bJ ?_ | refine ag bJ ?_) | (with_reducible first | refine af bL ?_ | refine ag bL ?_) | (with_reducible first | refine af bQ ?_ | refine ag bQ ?_) | ((first | refine ai (fun hg=>?_) (fun hg=>?_) | refine ax (fun hg=>?_) (fun hg=>?_) | refine ay (fun hg=>?_) (fun hg=>?_)) <;> try simp -implicitDefEqProofs only [hg,Bool.not_true,Bool.not_false]) | ((with_reducible apply And.intro);focus (first | trivial | omega | decide | (simp -implicitDefEqProofs only [maxLen];omega) | (simp [maxLen,ah,ak,an,av,aj,au,aq] <;> omega))) | fail)
         refine hR _ _ (hK _ _ ?_).2
         simp -implicitDefEqProofs only [go_sem,Int.reduceNegSucc,aQ,aR,aV,bf,aH,aG,aF,bk]
       | some q=>
         rw [sx] at kL gW
         obtain ⟨f,t⟩:=q
         have Bz:=sG _ sx
         simp -implicitDefEqProofs only [Option.map_map] at gW
         have hrl:rs.length≤1000:=by omega
         have By:(bU rs).length≤1001000:=by omega
         have hv:2*rs.length+1+1=2*(rs.length+1):=by omega
         have ho:=Hi (rs:=rs) (r:=(k,f,t))
         have hc:=DP (rs:=rs) (r:=(k,f,t))
         have hls:bU rs++[(k,f)]++t.L=bU (rs++[(k,f,t)]):=by rw [Dm];simp [oa]
         have BK:(aM (jm rs)).take rs.length=aM (jm rs):=List.take_of_length_le (by rw [aj,uo];omega)
         have BL:(gF (gG rs)).take rs.length=gF (gG rs):=List.take_of_length_le (by rw [oe];simp [gG])
         have l1:(aM (jm rs)).length=rs.length:=by rw [aj,uo]
         have l2:(gF (gG rs)).length=rs.length:=by rw [oe];simp [gG]
         have l3:=mb (bU rs)
         have l4:=mb t.L
         have l5:(gK (bU rs++[(k,f)])).length=(bU rs).length+1:=by rw [mb];simp
         simp only at Bz
         simp -implicitDefEqProofs only [lE,bN,bk,Option.map,Option.isSome,Pl.cells,List.map_cons,List.map_nil,List.cons_append,List.nil_append,Sz.sv,Sz.cells] at kL
         have bZ:=jg;have cm:=vK;have fO:=kL;repeat' (first | (simp -implicitDefEqProofs only [go_sem,Int.reduceNegSucc,hl,hx,FO,x1,x2,y1,y2,g0,g1,g2,List.length_drop,yo,yp,yq,EO,EM,DS,Dv,Dw,Du,mL,Jc,Jd,BK,BL,l1,l2,l3,l4,l5,wu,hv]) | (with_reducible refine aA ?_) | (with_reducible first | refine af bZ ?_ | refine ag bZ ?_) | (with_reducible first | refine af cm ?_ | refine ag cm ?_) | (with_reducible first | refine af fO ?_ | refine ag fO ?_) | ((first | refine ai (fun hg=>?_) (fun hg=>?_) | refine ax (fun hg=>?_) (fun hg=>?_) | refine ay (fun hg=>?_) (fun hg=>?_)) <;> try simp -implicitDefEqProofs only [hg,Bool.not_true,Bool.not_false]) | ((with_reducible apply And.intro);focus (first | trivial | omega | decide | (simp -implicitDefEqProofs only [maxLen];omega) | (simp [maxLen,ah,ak,an,av,aj,au,aq] <;> omega) | (omega;done))) | fail)
         have hq:yV h (rs++[(k,f,t)])=qT h (rs.length+1) ((bU rs).length+1+t.L.length) (jm rs++[((bU rs).length:Int)]) (gG rs++[f.child]) (bU rs++[(k,f)]++t.L):=by
          unfold yV
          rw [ho,hc,← hls]
          simp -implicitDefEqProofs only [List.length_append,List.length_cons,List.length_nil,Nat.zero_add]
         refine hN (k+1,rs++[(k,f,t)]) _ _ ⟨by dsimp;omega,by simp;omega,by dsimp;rw [← hls];simp;omega,?_⟩ (by dsimp;omega) ?_
         ·rw [gW]
          congr 1
          funext x
          simp
         ·dsimp
          rw [hq]
          exact nA (h':=qT h (rs.length+1) ((bU rs).length+1+t.L.length) (jm rs++[((bU rs).length:Int)]) (gG rs++[f.child]) (bU rs++[(k,f)]++t.L)) (Nat.zero_le _) (Ou _ _ _ _ _ _) (by simp [ij,lk,jU,jF,lQ,qT])
   ·have aE:k=l.length:=by simp at hg;omega
    subst aE
    simp -implicitDefEqProofs only [go_sem,Int.reduceNegSucc]
    have FH:kF bx (lV l n more)=some rs:=by rw [gW,List.drop_of_length_le (by simp)];simp [kF]
    rw [FH] at hK
    clear gW FH
    refine hX _ _ _ ?_
    clear hN hX hR
    have hcl:(gG rs).length=rs.length:=by simp [gG]
    have hrl:rs.length≤1000:=by omega
    have hS:=Vp (gG rs) ot (by omega) 4 rs.length 6 (by decide)
    rw [hcl] at hS
    cases oy:jy (gG rs) ot with
    | none=>
      rw [oy] at hS
      simp -implicitDefEqProofs only [oy] at hK
      have hv:=CV ⟨0,0⟩
      simp -implicitDefEqProofs only [mc,kP,Option.isSome,Su.sv,Su.cells,List.map_cons,List.map_nil] at hS hv
      have gj:=hS;have gQ:=hv;repeat' (first | (simp -implicitDefEqProofs only [go_sem,Int.reduceNegSucc]) | (with_reducible refine aA ?_) | (refine bS gj ?_ ?_ ?_;(focus (simp [aY,aB] <;> fail));(focus (simp [bq,aX] <;> fail))) | (refine ck gj ?_ ?_ ?_;(focus (simp [aY,aB] <;> fail));(focus (simp [bq,aX] <;> fail))) | (with_reducible first | refine af gQ ?_ | refine ag gQ ?_) | ((first | refine ai (fun hg=>?_) (fun hg=>?_) | refine ax (fun hg=>?_) (fun hg=>?_) | refine ay (fun hg=>?_) (fun hg=>?_)) <;> try simp -implicitDefEqProofs only [hg,Bool.not_true,Bool.not_false]) | ((with_reducible apply And.intro);focus (first | trivial | omega | decide | (simp -implicitDefEqProofs only [maxLen];omega) | (simp [maxLen,ah,ak,an,av,aj,au,aq] <;> omega))) | fail)
      all_goals (refine (hK _ _ ?_).2;clear hK;simp -implicitDefEqProofs only [go_sem,Int.reduceNegSucc,aQ,aR,aV,bf,aH,aG,aF,bk] <;>(try simp_all [-Int.not_lt,-Int.not_le,aH,aG,aF,bB,bk]) <;> try omega)
    | some q=>
      obtain ⟨p,ys⟩:=q
      rw [oy] at hS
      simp -implicitDefEqProofs only [oy] at hK
      have mI:=zR oy
      simp -implicitDefEqProofs only [List.length_nil,Nat.zero_add,hcl] at mI
      have hv:=CV p.cur
      simp -implicitDefEqProofs only [mc,kP,lN,Option.isSome,Pl.cells,Su.sv,Su.cells,List.map_cons,List.map_nil] at hS hv
      cases qm:nT p.cur with
      | false=>
        rw [qm] at hv
        simp -implicitDefEqProofs only [qm,Bool.false_eq_true,if_false] at hK
        have gR:=hS;have gS:=hv;repeat' (first | (simp -implicitDefEqProofs only [go_sem,Int.reduceNegSucc]) | (with_reducible refine aA ?_) | (refine bS gR ?_ ?_ ?_;(focus (simp [aY,aB] <;> fail));(focus (simp [bq,aX] <;> fail))) | (refine ck gR ?_ ?_ ?_;(focus (simp [aY,aB] <;> fail));(focus (simp [bq,aX] <;> fail))) | (with_reducible first | refine af gS ?_ | refine ag gS ?_) | ((first | refine ai (fun hg=>?_) (fun hg=>?_) | refine ax (fun hg=>?_) (fun hg=>?_) | refine ay (fun hg=>?_) (fun hg=>?_)) <;> try simp -implicitDefEqProofs only [hg,Bool.not_true,Bool.not_false]) | ((with_reducible apply And.intro);focus (first | trivial | omega | decide | (simp -implicitDefEqProofs only [maxLen];omega) | (simp [maxLen,ah,ak,an,av,aj,au,aq] <;> omega))) | fail)
        all_goals (refine (hK _ _ ?_).2;clear hK;simp -implicitDefEqProofs only [go_sem,Int.reduceNegSucc,aQ,aR,aV,bf,aH,aG,aF,bk] <;>(try simp_all [-Int.not_lt,-Int.not_le,aH,aG,aF,bB,bk]) <;> try omega)
      | true=>
        rw [qm] at hv
        simp -implicitDefEqProofs only [qm,if_true] at hK
        have gT:=hS;have gU:=hv;repeat' (first | (simp -implicitDefEqProofs only [go_sem,Int.reduceNegSucc]) | (with_reducible refine aA ?_) | (refine bS gT ?_ ?_ ?_;(focus (simp [aY,aB] <;> fail));(focus (simp [bq,aX] <;> fail))) | (refine ck gT ?_ ?_ ?_;(focus (simp [aY,aB] <;> fail));(focus (simp [bq,aX] <;> fail))) | (with_reducible first | refine af gU ?_ | refine ag gU ?_) | ((first | refine ai (fun hg=>?_) (fun hg=>?_) | refine ax (fun hg=>?_) (fun hg=>?_) | refine ay (fun hg=>?_) (fun hg=>?_)) <;> try simp -implicitDefEqProofs only [hg,Bool.not_true,Bool.not_false]) | ((with_reducible apply And.intro);focus (first | trivial | omega | decide | (simp -implicitDefEqProofs only [maxLen];omega) | (simp [maxLen,ah,ak,an,av,aj,au,aq] <;> omega))) | fail)
        have BP:=aj ys
        have ql:=zB rs
        refine fE (ι:=Nat) (fun i=>[(127,.rv (.int .i64 i)),(126,.rv (.int .i64 rs.length)),(18,.row 3 rs.length rs.length),(16,.ptr 2 0),(23,.ptr 7 0),(25,.rv (.int .i64 (iT p.cur))),(14,.ptr 1 0),(11,.ptr 0 0),(6,.rv (.bool ob))])
         (fun i=>qT h rs.length (bU rs).length (jm rs) (gG rs) (jo rs (ys.take i))++[some (.row 1 ys.length (aN (aM ys))),some (.var [.row 6 ys.length ys.length,.rv (.int .i64 p.iF),.rv (.int .i64 p.top.p),.rv (.int .i64 p.top.n),.rv (.int .i64 p.cur.p),.rv (.int .i64 p.cur.n),.rv (.bool p.mo)])])
         (fun i=>i≤rs.length) (fun i=>rs.length - i) 0 (Nat.zero_le _) (by rw [List.take_zero,ql];exact bh (by simp [lk])) (fun i hi K' hN hX hR=>?_)
        simp -implicitDefEqProofs only [qT,Sz.cells,go_sem,Int.reduceNegSucc]
        refine ai (fun hg=>?_) (fun hg=>?_)
        ·have hi4:i<rs.length:=by simp at hg;omega
         have wu:=cz (k:=i) (by omega)
         have ho:=Hh hi4
         have BC:=uo (rs:=rs)
         have hy:=oC (show i<ys.length by omega)
         have iX:=HD hi4 (show i<ys.length by omega)
         have ji:=HE hi4 (show i<ys.length by omega)
         have hlt:(bU (rs.take i)).length<(bU rs).length:=by
          have:=(wK rs ys i hi4 (by omega)).1
          have:=(List.getElem?_eq_some_iff.1 this).1
          rwa [qu] at this
         have fS:(gK (jo rs (ys.take i))).length=(bU rs).length:=by rw [mb,qu]
         have fH:=aj (jm rs)
         have Da:=IV (rs[i].1,rs[i].2.1) ys[i]
         have vL:=HC (rs[i].1,rs[i].2.1)
         repeat' (first | (simp -implicitDefEqProofs only [go_sem,Int.reduceNegSucc,ho,hy,iX,ji,fS,fH,BC,Da,vL,wu,BP]) | (with_reducible refine aA ?_) | ((first | refine ai (fun hg=>?_) (fun hg=>?_) | refine ax (fun hg=>?_) (fun hg=>?_) | refine ay (fun hg=>?_) (fun hg=>?_)) <;> try simp -implicitDefEqProofs only [hg,Bool.not_true,Bool.not_false]) | ((with_reducible apply And.intro);focus (first | trivial | omega | decide | (simp -implicitDefEqProofs only [maxLen];omega) | (simp [maxLen,ah,ak,an,av,aj,au,aq] <;> omega) | (omega;done))) | fail)
         exact hN (i+1) _ _ (by omega) (by omega) (bh (by simp [lk]))
        ·have hi4:i=rs.length:=by simp at hg;omega
         have jk:ys.take i=ys:=List.take_of_length_le (by omega)
         rw [jk]
         clear jk hg
         simp -implicitDefEqProofs only [go_sem,Int.reduceNegSucc]
         refine hX _ _ _ ?_
         clear hN hX hR
         have hfit:=kj (qX rs (p,ys) ob).high
         have fS:(gK (jo rs ys)).length=(bU rs).length:=by rw [mb,qu]
         simp -implicitDefEqProofs only [qX] at hfit hK
         have Mk:decide ((0:Int)<0)=false:=rfl
         cases iX:p.mo with
         | true=>
           simp -implicitDefEqProofs only [iX,if_true] at hfit hK
           have gV:=hfit;repeat' (first | (simp -implicitDefEqProofs only [go_sem,Int.reduceNegSucc,iX,Mk]) | (with_reducible refine aA ?_) | (with_reducible first | refine af gV ?_ | refine ag gV ?_) | ((first | refine ai (fun hg=>?_) (fun hg=>?_) | refine ax (fun hg=>?_) (fun hg=>?_) | refine ay (fun hg=>?_) (fun hg=>?_)) <;> try simp -implicitDefEqProofs only [hg,Bool.not_true,Bool.not_false]) | ((with_reducible apply And.intro);focus (first | trivial | omega | decide | (simp -implicitDefEqProofs only [maxLen];omega) | (simp [maxLen,ah,ak,an,av,aj,au,aq] <;> omega))) | fail)
           all_goals (refine (hK _ _ ?_).2;simp -implicitDefEqProofs only [go_sem,Int.reduceNegSucc,aQ,aR,aV,bf,aH,aG,aF,bk,Pl.cells,iX])
           all_goals (refine ⟨pQ rfl rfl (by rw [fS]) (zw _),pQ rfl rfl (by rw [aj]) (kN _)⟩)
         | false=>
           cases nc:ob <;> simp -implicitDefEqProofs only [iX,nc,Bool.false_eq_true,if_true,if_false] at hfit hK
           case' false=>obtain ⟨A,hA⟩:∃ A,A=IntKind.i64.wrap (p.iF+iT p.cur):=⟨_,rfl⟩
           case' true=>obtain ⟨A,hA⟩:∃ A,A=p.iF:=⟨_,rfl⟩
           all_goals
            rw [← hA] at hfit hK
            by_cases hneg:0>A
            ·have g1:decide (A<0)=true:=decide_eq_true hneg
             rw [if_pos hneg] at hfit hK
             rw [hA] at g1
             have iM:=hfit;repeat' (first | (simp -implicitDefEqProofs only [go_sem,Int.reduceNegSucc,iX,nc,g1]) | (with_reducible refine aA ?_) | (with_reducible first | refine af iM ?_ | refine ag iM ?_) | ((first | refine ai (fun hg=>?_) (fun hg=>?_) | refine ax (fun hg=>?_) (fun hg=>?_) | refine ay (fun hg=>?_) (fun hg=>?_)) <;> try simp -implicitDefEqProofs only [hg,Bool.not_true,Bool.not_false]) | ((with_reducible apply And.intro);focus (first | trivial | omega | decide | (simp -implicitDefEqProofs only [maxLen];omega) | (simp [maxLen,ah,ak,an,av,aj,au,aq] <;> omega))) | fail)
             all_goals (refine (hK _ _ ?_).2;simp -implicitDefEqProofs only [go_sem,Int.reduceNegSucc,aQ,aR,aV,bf,aH,aG,aF,bk,Pl.cells,iX])
             all_goals (refine ⟨pQ rfl rfl (by rw [fS]) (zw _),pQ rfl rfl (by rw [aj]) (kN _)⟩)
            ·have g1:decide (A<0)=false:=decide_eq_false hneg
             rw [if_neg hneg] at hfit hK
             rw [hA] at g1 hfit hK
             have iN:=hfit;repeat' (first | (simp -implicitDefEqProofs only [go_sem,Int.reduceNegSucc,iX,nc,g1]) | (with_reducible refine aA ?_) | (with_reducible first | refine af iN ?_ | refine ag iN ?_) | ((first | refine ai (fun hg=>?_) (fun hg=>?_) | refine ax (fun hg=>?_) (fun hg=>?_) | refine ay (fun hg=>?_) (fun hg=>?_)) <;> try simp -implicitDefEqProofs only [hg,Bool.not_true,Bool.not_false]) | ((with_reducible apply And.intro);focus (first | trivial | omega | decide | (simp -implicitDefEqProofs only [maxLen];omega) | (simp [maxLen,ah,ak,an,av,aj,au,aq] <;> omega))) | fail)
             all_goals (refine (hK _ _ ?_).2;simp -implicitDefEqProofs only [go_sem,Int.reduceNegSucc,aQ,aR,aV,bf,aH,aG,aF,bk,Pl.cells,iX])
             all_goals (refine ⟨pQ rfl rfl (by rw [fS]) (zw _),pQ rfl rfl (by rw [aj]) (kN _)⟩)
end Go.aL

namespace Go.aL
open Go
theorem Qc:aU Go.Proofs.Tryz.prog 71 132 (fc Go.Proofs.Tryz.prog 71 132 [(.c 4 3 true),(.t 5)]) [(.c 4 3 true),(.t 5)]:=bl (by kernel_rfl)
theorem Qd:aU Go.Proofs.Tryz.prog 37 78 (fc Go.Proofs.Tryz.prog 37 78 [(.c 2 3 true),(.t 3)]) [(.c 2 3 true),(.t 3)]:=bl (by kernel_rfl)
def so (i:Ai) (s:Sz):Ao:=if bR (jd i s).w=true then jd i s else ⟨0,0,0⟩
theorem CW (i:Ai) (s:Sz) (hf:Fit i):aI Go.Proofs.Tryz.prog 71 [i.sv,s.sv] [] [] (.aP [.agg ((so i s).cells.map .rv),.rv (.bool (mU i s))]):=by
 refine bt Qc [i.sv,s.sv] _ (by simp) (by simp [aO,aW,bp,aS,bg,aC.sv,Ln.sv,Nd.sv]) (fun K hK=>?_)
 have o1:=oN i.left 0
 have o2:=oN i.right 0
 have o3:=oN ⟨false,bn i.left 0⟩ 0
 have o4:=oN ⟨false,bn i.right 0⟩ 0
 have q1:=jf.1 hf.b
 have q2:=jf.1 hf.a
 have q3:=jf.1 hf.l
 have q4:=jf.1 hf.r
 have n1:i.left.auto=false→i.left.n=bn i.left 0:=fun h=>(Cv h 0).symm
 have n2:i.right.auto=false→i.right.n=bn i.right 0:=fun h=>(Cv h 0).symm
 have e3:bn ⟨false,bn i.left 0⟩ 0=bn i.left 0:=rfl
 have e4:bn ⟨false,bn i.right 0⟩ 0=bn i.right 0:=rfl
 rw [e3] at o3
 rw [e4] at o4
 have fl:=hf.l
 have fr:=hf.r
 simp -implicitDefEqProofs only [so,mU,jd] at hK
 obtain ⟨sa,W⟩:=s
 dsimp at hK
 cases hs:sa with
 | true=>
   simp -implicitDefEqProofs only [hs,if_true] at hK
   generalize bn i.left 0=L at *
   generalize bn i.right 0=R at *
   have w1:IntKind.i64.wrap (i.base - i.around)=i.base - i.around:=wrap_i64 (by omega) (by omega)
   have w2:IntKind.i64.wrap (i.base - i.around - L)=i.base - i.around - L:=wrap_i64 (by omega) (by omega)
   have w3:IntKind.i64.wrap (i.base - i.around - L - R)=i.base - i.around - L - R:=wrap_i64 (by omega) (by omega)
   have f1:=kj (i.base - i.around - L - R)
   rw [fl,fr] at hK
   simp -implicitDefEqProofs only [Bool.true_and,Bool.and_true] at hK
   conv in fc _ _ _ _=>reduce
   simp -implicitDefEqProofs only [Ai.sv,Ai.cells,Sz.sv,Sz.cells,go_sem,Int.reduceNegSucc]
   simp -implicitDefEqProofs only [Ai.cells,Ao.cells,Sz.sv,Sz.cells,List.map_cons,List.map_nil] at o1 o2 o3 o4 hK
   cases sE:bR (i.base - i.around - L - R) with
   | false=>
     rw [sE] at f1 hK
     simp -implicitDefEqProofs only [Bool.false_eq_true,if_false] at hK
     have aT:=o1;have y_2:=o2;have bA:=o3;have bC:=o4;have bH:=f1;repeat' (first | (simp -implicitDefEqProofs only [go_sem,Int.reduceNegSucc,w1,w2,w3,hs]) | (with_reducible refine aA ?_) | (with_reducible first | refine af aT ?_ | refine ag aT ?_) | (with_reducible first | refine af y_2 ?_ | refine ag y_2 ?_) | (with_reducible first | refine af bA ?_ | refine ag bA ?_) | (with_reducible first | refine af bC ?_ | refine ag bC ?_) | (with_reducible first | refine af bH ?_ | refine ag bH ?_) | ((first | refine ai (fun hg=>?_) (fun hg=>?_) | refine ax (fun hg=>?_) (fun hg=>?_) | refine ay (fun hg=>?_) (fun hg=>?_)) <;> try simp -implicitDefEqProofs only [hg,Bool.not_true,Bool.not_false]) | ((with_reducible apply And.intro);focus (first | trivial | omega | decide | (simp -implicitDefEqProofs only [maxLen];omega) | (simp [maxLen,ah,ak,an,av,aj,au,aq] <;> omega))) | fail)
     all_goals (refine (hK _ _ ?_).2;clear hK;simp -implicitDefEqProofs only [go_sem,Int.reduceNegSucc,aQ,aR,aV,bf,aH,aG,aF] <;>(try simp_all [-Int.not_lt,-Int.not_le,aH,aG,aF,bB]) <;> try omega)
   | true=>
     rw [sE] at f1 hK
     simp -implicitDefEqProofs only [if_true] at hK
     obtain ⟨W,hW⟩:∃ W',W'=i.base - i.around - L - R:=⟨_,rfl⟩
     have q5:=jf.1 sE
     have w4:IntKind.i64.wrap (L+i.around)=L+i.around:=wrap_i64 (by omega) (by omega)
     have w5:IntKind.i64.wrap (L+i.around+W)=L+i.around+W:=wrap_i64 (by omega) (by omega)
     have w6:IntKind.i64.wrap (L+i.around+W+R)=i.base:=by rw [wrap_i64 (by omega) (by omega)];omega
     have w7:IntKind.i64.wrap (i.base - i.around - W)=i.base - i.around - W:=wrap_i64 (by omega) (by omega)
     have w8:IntKind.i64.wrap (i.base - i.around - W - R)=L:=by rw [wrap_i64 (by omega) (by omega)];omega
     have w9:IntKind.i64.wrap (i.base - i.around - W - L)=R:=by rw [wrap_i64 (by omega) (by omega)];omega
     have g1:decide (i.base>i.base)=false:=decide_eq_false (by omega)
     have f2:=kj L
     have f3:=kj R
     rw [fl] at f2
     rw [fr] at f3
     replace w3:=w3.trans hW.symm
     rw [← hW] at f1 hK
     clear hW
     cases hr:i.bT
     all_goals ((have bJ:=o1;have bL:=o2;have bQ:=o3;have bZ:=o4;have cm:=f1;have fO:=f2;have gj:=f3;repeat' (first | (simp -implicitDefEqProofs only [go_sem,Int.reduceNegSucc,w1,w2,w3,hs,w4,w5,w6,w7,w8,w9,g1,hr]) | (with_reducible refine aA ?_) | (with_reducible first | refine af bJ ?_ | refine ag bJ ?_) | (with_reducible first | refine af bL ?_ | refine ag bL ?_) | (with_reducible first | refine af bQ ?_ | refine ag bQ ?_) | (with_reducible first | refine af bZ ?_ | refine ag bZ ?_) | (with_reducible first | refine af cm ?_ | refine ag cm ?_) | (with_reducible first | refine af fO ?_ | refine ag fO ?_) | (with_reducible first | refine af gj ?_ | refine ag gj ?_) | ((first | refine ai (fun hg=>?_) (fun hg=>?_) | refine ax (fun hg=>?_) (fun hg=>?_) | refine ay (fun hg=>?_) (fun hg=>?_)) <;> try simp -implicitDefEqProofs only [hg,Bool.not_true,Bool.not_false]) | ((with_reducible apply And.intro);focus (first | trivial | omega | decide | (simp -implicitDefEqProofs only [maxLen];omega) | (simp [maxLen,ah,ak,an,av,aj,au,aq] <;> omega))) | fail)))
     all_goals all_goals (refine (hK _ _ ?_).2;clear hK;simp -implicitDefEqProofs only [go_sem,Int.reduceNegSucc,aQ,aR,aV,bf,aH,aG,aF] <;>(try simp_all [-Int.not_lt,-Int.not_le,aH,aG,aF,bB]) <;> try omega)
 | false=>
   simp -implicitDefEqProofs only [hs,Bool.false_eq_true,if_false] at hK
   simp -implicitDefEqProofs only [uj] at hK
   generalize bn i.left 0=L at *
   generalize bn i.right 0=R at *
   have f1:=kj W
   conv in fc _ _ _ _=>reduce
   simp -implicitDefEqProofs only [Ai.sv,Ai.cells,Sz.sv,Sz.cells,go_sem,Int.reduceNegSucc]
   simp -implicitDefEqProofs only [Ai.cells,Ao.cells,Sz.sv,Sz.cells,List.map_cons,List.map_nil] at o1 o2 o3 o4 hK
   cases sE:bR W with
   | false=>
     rw [sE] at f1 hK
     simp -implicitDefEqProofs only [Bool.false_eq_true,if_false,Bool.and_false,Bool.false_and] at hK
     have gQ:=o1;have gR:=o2;have gS:=o3;have gT:=o4;have gU:=f1;repeat' (first | (simp -implicitDefEqProofs only [go_sem,Int.reduceNegSucc,hs]) | (with_reducible refine aA ?_) | (with_reducible first | refine af gQ ?_ | refine ag gQ ?_) | (with_reducible first | refine af gR ?_ | refine ag gR ?_) | (with_reducible first | refine af gS ?_ | refine ag gS ?_) | (with_reducible first | refine af gT ?_ | refine ag gT ?_) | (with_reducible first | refine af gU ?_ | refine ag gU ?_) | ((first | refine ai (fun hg=>?_) (fun hg=>?_) | refine ax (fun hg=>?_) (fun hg=>?_) | refine ay (fun hg=>?_) (fun hg=>?_)) <;> try simp -implicitDefEqProofs only [hg,Bool.not_true,Bool.not_false]) | ((with_reducible apply And.intro);focus (first | trivial | omega | decide | (simp -implicitDefEqProofs only [maxLen];omega) | (simp [maxLen,ah,ak,an,av,aj,au,aq] <;> omega))) | fail)
     all_goals (refine (hK _ _ ?_).2;clear hK;simp -implicitDefEqProofs only [go_sem,Int.reduceNegSucc,aQ,aR,aV,bf,aH,aG,aF] <;>(try simp_all [-Int.not_lt,-Int.not_le,aH,aG,aF,bB]) <;> try omega)
   | true=>
     rw [sE] at f1 hK
     simp -implicitDefEqProofs only [if_true,Bool.and_true] at hK
     have q5:=jf.1 sE
     have w1:IntKind.i64.wrap (i.base - i.around)=i.base - i.around:=wrap_i64 (by omega) (by omega)
     have w4:IntKind.i64.wrap (L+i.around)=L+i.around:=wrap_i64 (by omega) (by omega)
     have w5:IntKind.i64.wrap (L+i.around+W)=L+i.around+W:=wrap_i64 (by omega) (by omega)
     have w6:IntKind.i64.wrap (L+i.around+W+R)=L+i.around+W+R:=by rw [wrap_i64 (by omega) (by omega)]
     have w7:IntKind.i64.wrap (i.base - i.around - W)=i.base - i.around - W:=wrap_i64 (by omega) (by omega)
     have w8:IntKind.i64.wrap (i.base - i.around - W - R)=i.base - i.around - W - R:=wrap_i64 (by omega) (by omega)
     have w9:IntKind.i64.wrap (i.base - i.around - W - L)=i.base - i.around - W - L:=wrap_i64 (by omega) (by omega)
     have h5:=Va (i.base - i.around - W) (by omega) (by omega)
     have Wa:IntKind.i64.wrap (i.base - i.around - W - (i.base - i.around - W) / 2)=i.base - i.around - W - (i.base - i.around - W) / 2:=wrap_i64 (by omega) (by omega)
     have yN:(i.base - i.around - W - L - R<0)↔(L+i.around+W+R>i.base):=by omega
     simp -implicitDefEqProofs only [yN] at hK
     have f2:=kj (L)
     have f3:=kj (R)
     have f4:=kj ((i.base - i.around - W) / 2)
     have f5:=kj (i.base - i.around - W - (i.base - i.around - W) / 2)
     have f6:=kj (i.base - i.around - W - R)
     have f7:=kj (i.base - i.around - W - L)
     cases hl:i.left.auto <;> cases hr:i.right.auto <;> cases ht:i.bT <;> simp -implicitDefEqProofs only [hl,hr,ht,true_implies,Bool.false_eq_true,reduceCtorEq,false_implies] at o1 o2 n1 n2 hK ⊢ <;> by_cases Fk:L+i.around+W+R>i.base <;> simp -implicitDefEqProofs only [Fk,decide_true,decide_false,not_true_eq_false,not_false_eq_true,false_and,true_and,and_true,and_self,false_or,true_or,or_false,or_true,if_true,if_false,and_false] at hK ⊢
     all_goals (try rw [n1] at o1)
     all_goals (try rw [n2] at o2)
     all_goals ((have gV:=o1;have iM:=o2;have iN:=o3;have kk:=o4;have oP:=f1;have oQ:=h5;have rG:=f2;have rH:=f3;have rI:=f4;have rJ:=f5;have rK:=f6;have rL:=f7;repeat' (first | (simp -implicitDefEqProofs only [go_sem,Int.reduceNegSucc,hs,w1,w4,w5,w6,w7,w8,w9,Wa,Fk,decide_true,decide_false,n1,n2]) | (with_reducible refine aA ?_) | (with_reducible first | refine af gV ?_ | refine ag gV ?_) | (with_reducible first | refine af iM ?_ | refine ag iM ?_) | (with_reducible first | refine af iN ?_ | refine ag iN ?_) | (with_reducible first | refine af kk ?_ | refine ag kk ?_) | (with_reducible first | refine af oP ?_ | refine ag oP ?_) | (with_reducible first | refine af oQ ?_ | refine ag oQ ?_) | (with_reducible first | refine af rG ?_ | refine ag rG ?_) | (with_reducible first | refine af rH ?_ | refine ag rH ?_) | (with_reducible first | refine af rI ?_ | refine ag rI ?_) | (with_reducible first | refine af rJ ?_ | refine ag rJ ?_) | (with_reducible first | refine af rK ?_ | refine ag rK ?_) | (with_reducible first | refine af rL ?_ | refine ag rL ?_) | ((first | refine ai (fun hg=>?_) (fun hg=>?_) | refine ax (fun hg=>?_) (fun hg=>?_) | refine ay (fun hg=>?_) (fun hg=>?_)) <;> try simp -implicitDefEqProofs only [hg,Bool.not_true,Bool.not_false]) | ((with_reducible apply And.intro);focus (first | trivial | omega | decide | (simp -implicitDefEqProofs only [maxLen];omega) | (simp [maxLen,ah,ak,an,av,aj,au,aq] <;> omega))) | fail)))
     all_goals all_goals (refine (hK _ _ ?_).2;clear hK;simp -implicitDefEqProofs only [go_sem,Int.reduceNegSucc,aQ,aR,aV,bf,aH,aG,aF] <;>(try simp_all [-Int.not_lt,-Int.not_le,aH,aG,aF,bB]) <;> try omega)
end Go.aL

namespace Go.aL
open Go
theorem AZ {i:Ai} {s:Sz} (h:mU i s=true):so i s=jd i s:=by
 simp -implicitDefEqProofs only [mU,Bool.and_eq_true] at h
 simp [so,h.1.2]
theorem Vr (i:Ai):aI Go.Proofs.Tryz.prog 37 [i.sv] [] [] (.aP [.agg ((iB (nt i)).cells.map .rv),.rv (.bool (nt i).isSome)]):=by
 refine bt Qd [i.sv] _ (by simp) (by simp [aO,aW,bp,aS,bg,aC.sv,Ln.sv,Nd.sv]) (fun K hK=>?_)
 have o1:=oN i.left 0
 have o2:=oN i.wide 0
 have o3:=oN i.right 0
 have f1:=kj i.base
 have f2:=kj i.around
 have f3:=kj (bn i.left 0)
 have f4:=kj (bn i.wide 0)
 have f5:=kj (bn i.right 0)
 cases h5:sn i with
 | true=>
   obtain ⟨hF,hw⟩:=EH h5
   have a0:=CW i i.wide hF
   have a1:=CW i ⟨false,i.most⟩ hF
   have a2:=CW i ⟨false,i.least⟩ hF
   rw [hF.b] at f1
   rw [hF.a] at f2
   rw [hF.l] at f3
   rw [hw] at f4
   rw [hF.r] at f5
   simp -implicitDefEqProofs only [nt,h5,if_true,uR,rE] at hK
   simp -implicitDefEqProofs only [Ao.cells,Ai.sv,Ai.cells,Sz.sv,Sz.cells,List.map_cons,List.map_nil] at a0 a1 a2 o1 o2 o3
   conv in fc _ _ _ _=>reduce
   simp -implicitDefEqProofs only [Ai.sv,Ai.cells,Sz.sv,Sz.cells,go_sem,Int.reduceNegSucc]
   have aT:=o1;have y_2:=o2;have bA:=o3;repeat' (first | (simp -implicitDefEqProofs only [go_sem,Int.reduceNegSucc]) | (with_reducible refine aA ?_) | (with_reducible first | refine af aT ?_ | refine ag aT ?_) | (with_reducible first | refine af y_2 ?_ | refine ag y_2 ?_) | (with_reducible first | refine af bA ?_ | refine ag bA ?_) | ((first | refine ai (fun hg=>?_) (fun hg=>?_) | refine ax (fun hg=>?_) (fun hg=>?_) | refine ay (fun hg=>?_) (fun hg=>?_)) <;> try simp -implicitDefEqProofs only [hg,Bool.not_true,Bool.not_false]) | ((with_reducible apply And.intro);focus (first | trivial | omega | decide | (simp -implicitDefEqProofs only [maxLen];omega) | (simp [maxLen,ah,ak,an,av,aj,au,aq] <;> omega))) | fail)
   refine jH 6 ?_
   have bC:=f1;have bH:=f2;have bJ:=f3;have bL:=f4;have bQ:=f5;repeat' (first | (simp -implicitDefEqProofs only [go_sem,Int.reduceNegSucc,jM,jN,jO,jP,jQ,jR,jD,Int.reduceLT,decide_true,decide_false,Int.reduceToNat,Nat.reduceMul]) | (with_reducible refine aA ?_) | (with_reducible show G _ _ (It.l _ _::_) _ _ _;refine jG ?_) | (with_reducible first | refine af bC ?_ | refine ag bC ?_) | (with_reducible first | refine af bH ?_ | refine ag bH ?_) | (with_reducible first | refine af bJ ?_ | refine ag bJ ?_) | (with_reducible first | refine af bL ?_ | refine ag bL ?_) | (with_reducible first | refine af bQ ?_ | refine ag bQ ?_) | ((first | refine ai (fun hg=>?_) (fun hg=>?_) | refine ax (fun hg=>?_) (fun hg=>?_) | refine ay (fun hg=>?_) (fun hg=>?_)) <;> try simp -implicitDefEqProofs only [hg,Bool.not_true,Bool.not_false]) | ((with_reducible apply And.intro);focus (first | trivial | omega | decide | (simp -implicitDefEqProofs only [maxLen];omega) | (simp [maxLen,ah,ak,an,av,aj,au,aq] <;> omega))) | fail)
   have i0:=@AZ i i.wide
   have i1:=@AZ i ⟨false,i.most⟩
   have i2:=@AZ i ⟨false,i.least⟩
   generalize so i i.wide=V0 at *
   generalize so i ⟨false,i.most⟩=V1 at *
   generalize so i ⟨false,i.least⟩=V2 at *
   cases k0:mU i i.wide with
   | false=>
     rw [k0] at a0
     simp -implicitDefEqProofs only [k0,Bool.false_eq_true,if_false] at hK
     have bZ:=a0;have cm:=a1;have fO:=a2;repeat' (first | (simp -implicitDefEqProofs only [go_sem,Int.reduceNegSucc]) | (with_reducible refine aA ?_) | (with_reducible first | refine af bZ ?_ | refine ag bZ ?_) | (with_reducible first | refine af cm ?_ | refine ag cm ?_) | (with_reducible first | refine af fO ?_ | refine ag fO ?_) | ((first | refine ai (fun hg=>?_) (fun hg=>?_) | refine ax (fun hg=>?_) (fun hg=>?_) | refine ay (fun hg=>?_) (fun hg=>?_)) <;> try simp -implicitDefEqProofs only [hg,Bool.not_true,Bool.not_false]) | ((with_reducible apply And.intro);focus (first | trivial | omega | decide | (simp -implicitDefEqProofs only [maxLen];omega) | (simp [maxLen,ah,ak,an,av,aj,au,aq] <;> omega))) | fail)
     all_goals (refine (hK _ _ ?_).2;clear hK;simp -implicitDefEqProofs only [go_sem,Int.reduceNegSucc,aQ,aR,aV,bf,aH,aG,aF,Ao.cells,iB] <;>(try simp_all [-Int.not_lt,-Int.not_le,aH,aG,aF,bB,Ao.cells,iB]) <;> try omega)
   | true=>
     rw [k0] at a0
     have j0:=i0 k0
     simp -implicitDefEqProofs only [k0,if_true,Option.bind,← j0] at hK
     by_cases m0:V0.w>i.most
     ·have g0:decide (V0.w>i.most)=true:=decide_eq_true m0
      simp -implicitDefEqProofs only [g0,if_true] at hK
      cases k1:mU i ⟨false,i.most⟩ with
      | false=>
        rw [k1] at a1
        simp -implicitDefEqProofs only [k1,Bool.false_eq_true,if_false] at hK
        have gj:=a0;have gQ:=a1;have gR:=a2;repeat' (first | (simp -implicitDefEqProofs only [go_sem,Int.reduceNegSucc,g0]) | (with_reducible refine aA ?_) | (with_reducible first | refine af gj ?_ | refine ag gj ?_) | (with_reducible first | refine af gQ ?_ | refine ag gQ ?_) | (with_reducible first | refine af gR ?_ | refine ag gR ?_) | ((first | refine ai (fun hg=>?_) (fun hg=>?_) | refine ax (fun hg=>?_) (fun hg=>?_) | refine ay (fun hg=>?_) (fun hg=>?_)) <;> try simp -implicitDefEqProofs only [hg,Bool.not_true,Bool.not_false]) | ((with_reducible apply And.intro);focus (first | trivial | omega | decide | (simp -implicitDefEqProofs only [maxLen];omega) | (simp [maxLen,ah,ak,an,av,aj,au,aq] <;> omega))) | fail)
        all_goals (refine (hK _ _ ?_).2;clear hK;simp -implicitDefEqProofs only [go_sem,Int.reduceNegSucc,aQ,aR,aV,bf,aH,aG,aF,Ao.cells,iB] <;>(try simp_all [-Int.not_lt,-Int.not_le,aH,aG,aF,bB,Ao.cells,iB]) <;> try omega)
      | true=>
        rw [k1] at a1
        have j1:=i1 k1
        simp -implicitDefEqProofs only [k1,if_true,Option.bind,← j1] at hK
        by_cases m1:V1.w<i.least
        ·have g1:decide (V1.w<i.least)=true:=decide_eq_true m1
         simp -implicitDefEqProofs only [rE,g1,if_true] at hK
         cases k2:mU i ⟨false,i.least⟩ with
         | false=>
           rw [k2] at a2
           simp -implicitDefEqProofs only [k2,Bool.false_eq_true,if_false] at hK
           have gS:=a0;have gT:=a1;have gU:=a2;repeat' (first | (simp -implicitDefEqProofs only [go_sem,Int.reduceNegSucc,g0,g1]) | (with_reducible refine aA ?_) | (with_reducible first | refine af gS ?_ | refine ag gS ?_) | (with_reducible first | refine af gT ?_ | refine ag gT ?_) | (with_reducible first | refine af gU ?_ | refine ag gU ?_) | ((first | refine ai (fun hg=>?_) (fun hg=>?_) | refine ax (fun hg=>?_) (fun hg=>?_) | refine ay (fun hg=>?_) (fun hg=>?_)) <;> try simp -implicitDefEqProofs only [hg,Bool.not_true,Bool.not_false]) | ((with_reducible apply And.intro);focus (first | trivial | omega | decide | (simp -implicitDefEqProofs only [maxLen];omega) | (simp [maxLen,ah,ak,an,av,aj,au,aq] <;> omega))) | fail)
           all_goals (refine (hK _ _ ?_).2;clear hK;simp -implicitDefEqProofs only [go_sem,Int.reduceNegSucc,aQ,aR,aV,bf,aH,aG,aF,Ao.cells,iB] <;>(try simp_all [-Int.not_lt,-Int.not_le,aH,aG,aF,bB,Ao.cells,iB]) <;> try omega)
         | true=>
           rw [k2] at a2
           have j2:=i2 k2
           simp -implicitDefEqProofs only [k2,if_true,← j2] at hK
           have gV:=a0;have iM:=a1;have iN:=a2;repeat' (first | (simp -implicitDefEqProofs only [go_sem,Int.reduceNegSucc,g0,g1]) | (with_reducible refine aA ?_) | (with_reducible first | refine af gV ?_ | refine ag gV ?_) | (with_reducible first | refine af iM ?_ | refine ag iM ?_) | (with_reducible first | refine af iN ?_ | refine ag iN ?_) | ((first | refine ai (fun hg=>?_) (fun hg=>?_) | refine ax (fun hg=>?_) (fun hg=>?_) | refine ay (fun hg=>?_) (fun hg=>?_)) <;> try simp -implicitDefEqProofs only [hg,Bool.not_true,Bool.not_false]) | ((with_reducible apply And.intro);focus (first | trivial | omega | decide | (simp -implicitDefEqProofs only [maxLen];omega) | (simp [maxLen,ah,ak,an,av,aj,au,aq] <;> omega))) | fail)
           all_goals (refine (hK _ _ ?_).2;clear hK;simp -implicitDefEqProofs only [go_sem,Int.reduceNegSucc,aQ,aR,aV,bf,aH,aG,aF,Ao.cells,iB] <;>(try simp_all [-Int.not_lt,-Int.not_le,aH,aG,aF,bB,Ao.cells,iB]) <;> try omega)
        ·have g1:decide (V1.w<i.least)=false:=decide_eq_false m1
         simp -implicitDefEqProofs only [rE,g1,Bool.false_eq_true,if_false] at hK
         have kk:=a0;have oP:=a1;have oQ:=a2;repeat' (first | (simp -implicitDefEqProofs only [go_sem,Int.reduceNegSucc,g0,g1]) | (with_reducible refine aA ?_) | (with_reducible first | refine af kk ?_ | refine ag kk ?_) | (with_reducible first | refine af oP ?_ | refine ag oP ?_) | (with_reducible first | refine af oQ ?_ | refine ag oQ ?_) | ((first | refine ai (fun hg=>?_) (fun hg=>?_) | refine ax (fun hg=>?_) (fun hg=>?_) | refine ay (fun hg=>?_) (fun hg=>?_)) <;> try simp -implicitDefEqProofs only [hg,Bool.not_true,Bool.not_false]) | ((with_reducible apply And.intro);focus (first | trivial | omega | decide | (simp -implicitDefEqProofs only [maxLen];omega) | (simp [maxLen,ah,ak,an,av,aj,au,aq] <;> omega))) | fail)
         all_goals (refine (hK _ _ ?_).2;clear hK;simp -implicitDefEqProofs only [go_sem,Int.reduceNegSucc,aQ,aR,aV,bf,aH,aG,aF,Ao.cells,iB] <;>(try simp_all [-Int.not_lt,-Int.not_le,aH,aG,aF,bB,Ao.cells,iB]) <;> try omega)
     ·have g0:decide (V0.w>i.most)=false:=decide_eq_false m0
      simp -implicitDefEqProofs only [g0,Bool.false_eq_true,if_false,Option.bind] at hK
      by_cases m1:V0.w<i.least
      ·have g1:decide (V0.w<i.least)=true:=decide_eq_true m1
       simp -implicitDefEqProofs only [rE,g1,if_true] at hK
       cases k2:mU i ⟨false,i.least⟩ with
       | false=>
         rw [k2] at a2
         simp -implicitDefEqProofs only [k2,Bool.false_eq_true,if_false] at hK
         have rG:=a0;have rH:=a1;have rI:=a2;repeat' (first | (simp -implicitDefEqProofs only [go_sem,Int.reduceNegSucc,g0,g1]) | (with_reducible refine aA ?_) | (with_reducible first | refine af rG ?_ | refine ag rG ?_) | (with_reducible first | refine af rH ?_ | refine ag rH ?_) | (with_reducible first | refine af rI ?_ | refine ag rI ?_) | ((first | refine ai (fun hg=>?_) (fun hg=>?_) | refine ax (fun hg=>?_) (fun hg=>?_) | refine ay (fun hg=>?_) (fun hg=>?_)) <;> try simp -implicitDefEqProofs only [hg,Bool.not_true,Bool.not_false]) | ((with_reducible apply And.intro);focus (first | trivial | omega | decide | (simp -implicitDefEqProofs only [maxLen];omega) | (simp [maxLen,ah,ak,an,av,aj,au,aq] <;> omega))) | fail)
         all_goals (refine (hK _ _ ?_).2;clear hK;simp -implicitDefEqProofs only [go_sem,Int.reduceNegSucc,aQ,aR,aV,bf,aH,aG,aF,Ao.cells,iB] <;>(try simp_all [-Int.not_lt,-Int.not_le,aH,aG,aF,bB,Ao.cells,iB]) <;> try omega)
       | true=>
         rw [k2] at a2
         have j2:=i2 k2
         simp -implicitDefEqProofs only [k2,if_true,← j2] at hK
         have rJ:=a0;have rK:=a1;have rL:=a2;repeat' (first | (simp -implicitDefEqProofs only [go_sem,Int.reduceNegSucc,g0,g1]) | (with_reducible refine aA ?_) | (with_reducible first | refine af rJ ?_ | refine ag rJ ?_) | (with_reducible first | refine af rK ?_ | refine ag rK ?_) | (with_reducible first | refine af rL ?_ | refine ag rL ?_) | ((first | refine ai (fun hg=>?_) (fun hg=>?_) | refine ax (fun hg=>?_) (fun hg=>?_) | refine ay (fun hg=>?_) (fun hg=>?_)) <;> try simp -implicitDefEqProofs only [hg,Bool.not_true,Bool.not_false]) | ((with_reducible apply And.intro);focus (first | trivial | omega | decide | (simp -implicitDefEqProofs only [maxLen];omega) | (simp [maxLen,ah,ak,an,av,aj,au,aq] <;> omega))) | fail)
         all_goals (refine (hK _ _ ?_).2;clear hK;simp -implicitDefEqProofs only [go_sem,Int.reduceNegSucc,aQ,aR,aV,bf,aH,aG,aF,Ao.cells,iB] <;>(try simp_all [-Int.not_lt,-Int.not_le,aH,aG,aF,bB,Ao.cells,iB]) <;> try omega)
      ·have g1:decide (V0.w<i.least)=false:=decide_eq_false m1
       simp -implicitDefEqProofs only [rE,g1,Bool.false_eq_true,if_false] at hK
       have wY:=a0;have wZ:=a1;have xb:=a2;repeat' (first | (simp -implicitDefEqProofs only [go_sem,Int.reduceNegSucc,g0,g1]) | (with_reducible refine aA ?_) | (with_reducible first | refine af wY ?_ | refine ag wY ?_) | (with_reducible first | refine af wZ ?_ | refine ag wZ ?_) | (with_reducible first | refine af xb ?_ | refine ag xb ?_) | ((first | refine ai (fun hg=>?_) (fun hg=>?_) | refine ax (fun hg=>?_) (fun hg=>?_) | refine ay (fun hg=>?_) (fun hg=>?_)) <;> try simp -implicitDefEqProofs only [hg,Bool.not_true,Bool.not_false]) | ((with_reducible apply And.intro);focus (first | trivial | omega | decide | (simp -implicitDefEqProofs only [maxLen];omega) | (simp [maxLen,ah,ak,an,av,aj,au,aq] <;> omega))) | fail)
       all_goals (refine (hK _ _ ?_).2;clear hK;simp -implicitDefEqProofs only [go_sem,Int.reduceNegSucc,aQ,aR,aV,bf,aH,aG,aF,Ao.cells,iB] <;>(try simp_all [-Int.not_lt,-Int.not_le,aH,aG,aF,bB,Ao.cells,iB]) <;> try omega)
 | false=>
   simp -implicitDefEqProofs only [nt,h5,Bool.false_eq_true,if_false] at hK
   simp -implicitDefEqProofs only [Ai.sv,Ai.cells,Sz.sv,Sz.cells,List.map_cons,List.map_nil] at o1 o2 o3
   conv in fc _ _ _ _=>reduce
   simp -implicitDefEqProofs only [Ai.sv,Ai.cells,Sz.sv,Sz.cells,go_sem,Int.reduceNegSucc]
   have xd:=o1;have xe:=o2;have xg:=o3;repeat' (first | (simp -implicitDefEqProofs only [go_sem,Int.reduceNegSucc]) | (with_reducible refine aA ?_) | (with_reducible first | refine af xd ?_ | refine ag xd ?_) | (with_reducible first | refine af xe ?_ | refine ag xe ?_) | (with_reducible first | refine af xg ?_ | refine ag xg ?_) | ((first | refine ai (fun hg=>?_) (fun hg=>?_) | refine ax (fun hg=>?_) (fun hg=>?_) | refine ay (fun hg=>?_) (fun hg=>?_)) <;> try simp -implicitDefEqProofs only [hg,Bool.not_true,Bool.not_false]) | ((with_reducible apply And.intro);focus (first | trivial | omega | decide | (simp -implicitDefEqProofs only [maxLen];omega) | (simp [maxLen,ah,ak,an,av,aj,au,aq] <;> omega))) | fail)
   refine jH 6 ?_
   have xh:=f1;have xj:=f2;have xk:=f3;have xm:=f4;have xo:=f5;repeat' (first | (simp -implicitDefEqProofs only [go_sem,Int.reduceNegSucc,jM,jN,jO,jP,jQ,jR,jD,Int.reduceLT,decide_true,decide_false,Int.reduceToNat,Nat.reduceMul]) | (with_reducible refine aA ?_) | (with_reducible show G _ _ (It.l _ _::_) _ _ _;refine jG ?_) | (with_reducible first | refine af xh ?_ | refine ag xh ?_) | (with_reducible first | refine af xj ?_ | refine ag xj ?_) | (with_reducible first | refine af xk ?_ | refine ag xk ?_) | (with_reducible first | refine af xm ?_ | refine ag xm ?_) | (with_reducible first | refine af xo ?_ | refine ag xo ?_) | ((first | refine ai (fun hg=>?_) (fun hg=>?_) | refine ax (fun hg=>?_) (fun hg=>?_) | refine ay (fun hg=>?_) (fun hg=>?_)) <;> try simp -implicitDefEqProofs only [hg,Bool.not_true,Bool.not_false]) | ((with_reducible apply And.intro);focus (first | trivial | omega | decide | (simp -implicitDefEqProofs only [maxLen];omega) | (simp [maxLen,ah,ak,an,av,aj,au,aq] <;> omega))) | fail)
   all_goals first | (exfalso;simp_all [sn];done) | skip
   all_goals (refine (hK _ _ ?_).2;clear hK;simp -implicitDefEqProofs only [go_sem,Int.reduceNegSucc,aQ,aR,aV,bf,aH,aG,aF,Ao.cells,iB] <;>(try simp_all [-Int.not_lt,-Int.not_le,aH,aG,aF,bB,Ao.cells,iB]) <;> try omega)
end Go.aL
