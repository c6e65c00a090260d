/- Part 4 of the proof: EngZf, F4, F5, F6, G4b, G5, G6, F7, F8, F9, G8, G8b, F10, EngZg, F9i, F11, F12, G9, G7, G7b. -/
import Derived.Test.YtnaoehbodmiekaaGreatPlaceAlone3
import Derived.Shelf.Spec.SlicesInsert
import Derived.Shelf.Spec.SlicesInsertGrow
set_option linter.unusedSimpArgs false
set_option linter.unusedVariables false
set_option maxRecDepth 100000
set_option maxHeartbeats 16000000
namespace Go.aJ
open Go
theorem tU {P:Program} {f:FuncId} {jc:List SV} {args:List SV} {pre us:List (Nat×HB)} {sv:SV} (H:aL P f jc [] us sv) (hl:args.length=jc.length)
 (hz:∀ hp,aR hp pre→∀ (j:Nat) (y x:SV),args[j]?=some y→jc[j]?=some x→Rn (fun _=>none) hp y x) (hfl:iL sv) (ko:∀ q∈us,nH q.2∧∀ p∈pre,p.1≠q.1):aL P f args pre us sv:=by
 refine ⟨H.1,fun C hp w aa vs hpre hnew R hvl hvs=>?_⟩
 let C2:Ctx:=⟨w,fun b=>aI C aa hp b∨∃ id,(hp id).isSome=true∧aa id=some b,fun _=>False,C.N,fun _=>none,fun _=>none⟩
 have sW:∀ b,C2.wY b→aI C2 (fun _=>none) (fun _=>none) b:=fun b hb=>⟨.inl hb,fun id hid=>by simp at hid⟩
 have R2:cn C2 (fun _=>none) w (fun _=>none):=⟨fun id hb h=>(by cases h),fun i j b h=>(by simp at h),fun i b h=>(by simp at h),⟨rfl,rfl,rfl,Nat.le_refl _,fun b _ _=>rfl⟩,fun id hb hb0 h=>(by cases h)⟩
 have qA:∀ id,id∈us.map (·.1)→hp id=none∧C.h0 id=none:=fun id hid=>by
  obtain ⟨q,hq,rfl⟩:=List.mem_map.1 hid
  rcases hnew q hq with ⟨hb,hm⟩ | h
  ·exact absurd rfl ((ko q hq).2 (q.1,hb) hm)
  ·exact h
 refine (H.2 C2 (fun _=>none) w (fun _=>none) vs (fun q hq=>by simp at hq) (fun q hq=>.inr ⟨rfl,rfl⟩) R2 (by simp [hvl,hl]) (fun j s hj=>?_)).mono ?_
 ·have hlt:=(List.getElem?_eq_some_iff.1 hj).1
  have hy:=List.getElem?_eq_getElem (l:=args) (i:=j) (by omega)
  exact Rp.leave (τ:=fun _=>none) (fun b hb=>sW b (.inl hb)) (fun i b _ hi hb=>sW b (.inr ⟨i,hi,hb⟩)) (fun i hb hi=>R.heap i hb hi) (fun j id h=>by cases h) (hvs j _ hy) (hz hp hpre j _ s hy hj)
 ·rintro e w' ⟨v,aK,rfl,S,hR⟩
  have R':=S.mem
  have iN:∀ b,b<w.heap.size→w'.heap[b]?=w.heap[b]?:=fun b hb=>R'.fr.block b hb (fun h=>h)
  have hsz:w.heap.size≤w'.heap.size:=R'.fr.size
  have qC:∀ id b,id∈us.map (·.1)→aK id=some b→w.heap.size≤b∧b<w'.heap.size:=fun id b hid hb=>by
   obtain ⟨h1,h2⟩:=R'.own id b (ou.2 hid) hb
   rcases h1 with ⟨a,_⟩ | a
   ·cases a
   ·exact ⟨a,h2⟩
  let gN:Nat→Option Nat:=fun id=>if id∈us.map (·.1) then aK id else aa id
  have rT:∀ id,id∈us.map (·.1)→gN id=aK id:=fun id h=>if_pos h
  have rN:∀ id,id∉us.map (·.1)→gN id=aa id:=fun id h=>if_neg h
  have hN:∀ id,id∉us.map (·.1)→bP hp us id=hp id:=fun id h=>Av h
  have hT:∀ id,id∈us.map (·.1)→bP hp us id=bP (fun _=>none) us id:=fun id h=>xC h
  have hs:∀ j,(bP (fun _=>none) us j).isSome=true→bP hp us j=bP (fun _=>none) us j∧gN j=aK j:=fun j hj=>⟨hT j (ou.1 hj),rT j (ou.1 hj)⟩
  have tv:∀ b,aI C aa hp b→b<w.heap.size→aI C gN (bP hp us) b∧w'.heap[b]?=w.heap[b]?:=fun b hb hlt=>by
   refine ⟨⟨hb.1,fun id hid he=>?_⟩,iN b hlt⟩
   by_cases hm:id∈us.map (·.1)
   ·rw [rT id hm] at he
    have:=(qC id b hm he).1;omega
   ·rw [hN id hm] at hid
    rw [rN id hm] at he
    exact hb.2 id hid he
  have E:jn w w' (aI C aa hp) (aI C gN (bP hp us)) aa gN hp (bP hp us):=jn.of tv (fun id hb hq=>by
   have hm:id∉us.map (·.1):=fun hm=>by rw [(qA id hm).1] at hq;cases hq
   refine ⟨hb,by rw [hN id hm];exact hq,?_⟩
   rw [rN id hm]
   cases hb with
   | var cs=>rfl
   | row e az xs=>exact ⟨Nat.le_refl _,fun _=>⟨rfl,rfl,fun b hb cur t hc=>⟨cur,t,by rw [iN b (R.own id b (by rw [hq];rfl) hb).2];exact hc,rfl⟩⟩⟩)
  refine ⟨v,gN,rfl,⟨⟨fun id hb hq=>?_,fun i j b h1 h2 h3 h4=>?_,fun id b h1 h2=>?_,⟨R'.fr.os.trans R.fr.os,R'.fr.tape.trans R.fr.tape,R'.fr.output.trans R.fr.output,Nat.le_trans R.fr.size hsz,fun b h1 h2=>?_⟩,fun id hb hb0 h1 h2=>?_⟩,E⟩,hR.flat hs hfl⟩
  ·by_cases hm:id∈us.map (·.1)
   ·rw [hT id hm] at hq
    have BZ:nH hb:=by
     rcases JB hq with h | h
     ·cases h
     ·exact (ko _ h).1
    exact (R'.heap id hb hq).flat hs (ou.2 hm) BZ
   ·rw [hN id hm] at hq
    rcases R.heap id hb hq with ⟨a1,a2⟩ | ⟨b,cur,t,a1,a2,a3⟩
    ·exact .inl ⟨(rN id hm).trans a1,a2⟩
    ·refine .inr ⟨b,cur,t,(rN id hm).trans a1,?_,a3.mono E⟩
     rw [iN b (R.own id b (by rw [hq];rfl) a1).2];exact a2
  ·by_cases hi:i∈us.map (·.1) <;> by_cases hj:j∈us.map (·.1)
   ·rw [rT i hi] at h3;rw [rT j hj] at h4
    exact R'.inj i j b (ou.2 hi) (ou.2 hj) h3 h4
   ·rw [rT i hi] at h3;rw [rN j hj] at h4;rw [hN j hj] at h2
    have h5:=qC i b hi h3;have h6:=R.own j b h2 h4;omega
   ·rw [rN i hi] at h3;rw [rT j hj] at h4;rw [hN i hi] at h1
    have h5:=qC j b hj h4;have h6:=R.own i b h1 h3;omega
   ·rw [rN i hi] at h3;rw [rN j hj] at h4;rw [hN i hi] at h1;rw [hN j hj] at h2
    exact R.inj i j b h1 h2 h3 h4
  ·by_cases hm:id∈us.map (·.1)
   ·rw [rT id hm] at h2
    obtain ⟨a1,a2⟩:=qC id b hm h2
    exact ⟨.inr (Nat.le_trans R.fr.size a1),a2⟩
   ·rw [hN id hm] at h1;rw [rN id hm] at h2
    obtain ⟨a1,a2⟩:=R.own id b h1 h2
    exact ⟨a1,by omega⟩
  ·rw [iN b (by have:=R.fr.size;omega)];exact R.fr.block b h1 h2
  ·by_cases hm:id∈us.map (·.1)
   ·rw [(qA id hm).2] at h2;cases h2
   ·rw [hN id hm] at h1
    have ev:=R.jS id hb hb0 h1 h2
    obtain ⟨hb',g1,g2⟩:∃ hb',bP hp us id=some hb'∧jC w w' (aa id) (gN id) hb hb':=by
     refine ⟨hb,by rw [hN id hm];exact h1,?_⟩
     rw [rN id hm]
     cases hb with
     | var cs=>rfl
     | row e az xs=>exact ⟨Nat.le_refl _,fun _=>⟨rfl,rfl,fun b hb cur t hc=>⟨cur,t,by rw [iN b (R.own id b (by rw [h1];rfl) hb).2];exact hc,rfl⟩⟩⟩
    rw [hN id hm,h1] at g1;cases g1
    exact ev.trans g2
theorem sE {n0:Nat} {env:List (Nat×SV)} {h:List (Option HB)} (i0 e o:Nat) {cs:List SV} (hi:aB h i0=some (.var cs)) (ho:cs[o]?=some (.rv .cv)):gi n0 ⟨env,h⟩ ⟨env,aQ (aQ h (h.length,.row e 0 [])) (i0,.var (cs.set o (.row h.length 0 0)))⟩:=by
 intro C a w R
 obtain ⟨⟨aa,RF⟩,h1,h0⟩:=R
 have hnone:aB h h.length=none:=by unfold aB;rw [List.getElem?_eq_none (Nat.le_refl _)]
 have vH:C.h0 h.length=none:=h0 _ h1
 obtain ⟨aK,S⟩:=RF.mem.Fs e hi ho hnone vH
 have lI:=RF.step S
 have hlt:i0<h.length:=by
  apply Classical.byContradiction
  intro hc
  unfold aB at hi
  rw [List.getElem?_eq_none (by omega)] at hi;cases hi
 have e1:=zb (h:=h) (q:=(h.length,.row e 0 [])) (Nat.le_refl _)
 have l1:=ve h (h.length,.row e 0 [])
 have e2:=zb (h:=aQ h (h.length,.row e 0 [])) (q:=(i0,.var (cs.set o (.row h.length 0 0)))) (by show i0≤_;omega)
 have l2:=ve (aQ h (h.length,.row e 0 [])) (i0,.var (cs.set o (.row h.length 0 0)))
 refine ⟨⟨aK,?_⟩,?_,h0⟩
 ·show kg C (lk env) (aB (aQ (aQ h (h.length,.row e 0 [])) (i0,.var (cs.set o (.row h.length 0 0))))) a w aK
  rw [e2,e1];exact lI
 ·have Nx:n0≤h.length:=h1
  show n0≤(aQ (aQ h (h.length,.row e 0 [])) (i0,.var (cs.set o (.row h.length 0 0)))).length
  omega
end Go.aJ

namespace Go.aJ
open Go
theorem PV:aX Go.Proofs.Tryz.prog 94 53 (fc Go.Proofs.Tryz.prog 94 53 [(.c 4 3 true),(.t 5),(.t 6)]) [(.c 4 3 true),(.t 5),(.t 6)]:=br (by kernel_rfl)
theorem PY:aX Go.Proofs.Tryz.prog 112 27 (fc Go.Proofs.Tryz.prog 112 27 [(.t 4)]) [(.t 4)]:=br (by kernel_rfl)
structure Ai where
 base:Int
 left:Sz
 wide:Sz
 right:Sz
 around:Int
 bO:Bool
 least:Int
 most:Int
def Ai.cells (i:Ai):List RV:=[.int .i64 i.base,.bool i.left.auto,.int .i64 i.left.n,.bool i.wide.auto,.int .i64 i.wide.n,.bool i.right.auto,.int .i64 i.right.n,.int .i64 i.around,.bool i.bO,.int .i64 i.least,.int .i64 i.most]
abbrev Ai.sv (i:Ai):SV:=.agg (i.cells.map .rv)
structure Ao where
 l:Int
 w:Int
 r:Int
def Ao.cells (o:Ao):List RV:=[.int .i64 o.l,.int .i64 o.w,.int .i64 o.r]
def uD (i:Ai) (w:Int):Int×Int:=
 if ¬ i.base - i.around - w - bk i.left 0 - bk i.right 0<0∧i.left.auto=true∧i.right.auto=true then ((i.base - i.around - w) / 2,i.base - i.around - w - (i.base - i.around - w) / 2)
 else if ¬ i.base - i.around - w - bk i.left 0 - bk i.right 0<0∧i.left.auto=true∨i.bO=true∧(i.base - i.around - w - bk i.left 0 - bk i.right 0<0∨i.right.auto=false) then (i.base - i.around - w - bk i.right 0,bk i.right 0)
 else (bk i.left 0,i.base - i.around - w - bk i.left 0)
def jo (i:Ai) (s:Sz):Ao:=if s.auto=true then ⟨bk i.left 0,i.base - i.around - bk i.left 0 - bk i.right 0,bk i.right 0⟩ else ⟨(uD i s.n).1,s.n,(uD i s.n).2⟩
def nh (i:Ai) (s:Sz):Bool:=bT (jo i s).l && bT (jo i s).w && bT (jo i s).r
structure Fit (i:Ai):Prop where
 b:bT i.base=true
 a:bT i.around=true
 l:bT (bk i.left 0)=true
 r:bT (bk i.right 0)=true
theorem Vo (i:Ai) (xs:List Int) (hb:bT i.base=true) (ha:bT i.around=true) (hx:∀ x∈xs,bT x=true) (hl:xs.length≤100):aL Go.Proofs.Tryz.prog 113 [i.sv,.rv (.sl 1 (aN xs))] [] [] (.rv (.int .i64 (i.base - i.around - xs.sum))):=by
 refine bz PT [i.sv,.rv (.sl 1 (aN xs))] _ (by simp) (by simp [aP,bg,bu,aY,bq,aC.sv,Ln.sv,Nd.sv]) (fun K hK=>?_)
 have rq:=ai xs
 rw [je] at hb ha
 have w0:IntKind.i64.wrap (i.base - i.around)=i.base - i.around:=wrap_i64 (by omega) (by omega)
 conv in fc _ _ _ _=>reduce
 simp -implicitDefEqProofs only [Ai.sv,Ai.cells,go_sem,Int.reduceNegSucc]
 repeat' (first | (simp -implicitDefEqProofs only [go_sem,Int.reduceNegSucc,rq,w0]) | (with_reducible refine aA ?_) | ((first | refine aj (fun hg=>?_) (fun hg=>?_) | refine ax (fun hg=>?_) (fun hg=>?_) | refine ay (fun hg=>?_) (fun hg=>?_)) <;> try simp -implicitDefEqProofs only [hg,Bool.not_true,Bool.not_false]) | ((with_reducible apply And.intro);focus (first | trivial | omega | decide | (simp -implicitDefEqProofs only [maxLen];omega) | (simp [maxLen,af,ak,an,av,ai,au,aq] <;> omega))) | fail)
 refine fG (ι:=Nat) (fun k=>[(15,.rv (.int .i64 k)),(14,.rv (.int .i64 xs.length)),(13,.rv (.sl 1 (aN xs))),(5,.rv (.int .i64 (i.base - i.around - (xs.take k).sum)))]) (fun _=>[some (.var (i.cells.map .rv))]) (fun k=>k≤xs.length∧-(1125899906842624*k)≤(xs.take k).sum∧(xs.take k).sum≤1125899906842624*k) (fun k=>xs.length - k) 0 (by simp) (aU (by simp [lk])) (fun k hk K' hN hX hR=>?_)
 obtain ⟨fH,hk2,gq⟩:=hk
 simp -implicitDefEqProofs only [go_sem,Int.reduceNegSucc]
 refine aj (fun hg=>?_) (fun hg=>?_)
 ·have aD:k<xs.length:=by simp at hg;omega
  have hg:=oS aD
  have wu:=cw (k:=k) (by omega)
  have hf:=je.1 (hx _ (List.getElem_mem aD))
  have hst:=DB aD
  have ws:IntKind.i64.wrap (i.base - i.around - (xs.take k).sum - xs[k])=i.base - i.around - (xs.take (k+1)).sum:=by rw [wrap_i64 (by omega) (by omega),hst];omega
  repeat' (first | (simp -implicitDefEqProofs only [go_sem,Int.reduceNegSucc,hg,rq,wu,ws]) | (with_reducible refine aA ?_) | ((first | refine aj (fun hg=>?_) (fun hg=>?_) | refine ax (fun hg=>?_) (fun hg=>?_) | refine ay (fun hg=>?_) (fun hg=>?_)) <;> try simp -implicitDefEqProofs only [hg,Bool.not_true,Bool.not_false]) | ((with_reducible apply And.intro);focus (first | trivial | omega | decide | (simp -implicitDefEqProofs only [maxLen];omega) | (simp [maxLen,af,ak,an,av,ai,au,aq] <;> omega))) | fail)
  exact hN (k+1) _ _ ⟨by omega,by omega,by omega⟩ (by omega) (aU (by simp [lk]))
 ·have aD:k=xs.length:=by simp at hg;omega
  subst aD
  simp -implicitDefEqProofs only [go_sem,Int.reduceNegSucc]
  refine hX _ _ _ ?_
  rw [List.take_length]
  repeat' (first | (simp -implicitDefEqProofs only [go_sem,Int.reduceNegSucc]) | (with_reducible refine aA ?_) | ((first | refine aj (fun hg=>?_) (fun hg=>?_) | refine ax (fun hg=>?_) (fun hg=>?_) | refine ay (fun hg=>?_) (fun hg=>?_)) <;> try simp -implicitDefEqProofs only [hg,Bool.not_true,Bool.not_false]) | ((with_reducible apply And.intro);focus (first | trivial | omega | decide | (simp -implicitDefEqProofs only [maxLen];omega) | (simp [maxLen,af,ak,an,av,ai,au,aq] <;> omega))) | fail)
  exact (hK _ _ (bU rfl)).2
theorem Dt (i:Ai) (xs:List Int) (hb:bT i.base=true) (ha:bT i.around=true) (hx:∀ x∈xs,bT x=true) (hl:xs.length≤100) (id:Nat):aL Go.Proofs.Tryz.prog 113 [i.sv,.row id 0 xs.length] [(id,.row 1 0 (lT xs))] [] (.rv (.int .i64 (i.base - i.around - xs.sum))):=by
 refine tU (jc:=[i.sv,.rv (.sl 1 (aN xs))]) (Vo i xs hb ha hx hl) rfl (fun hp hpre k y r hy hr=>?_) (.rv _ (.int _ _)) (by simp)
 match k with
 | 0=>cases hy;cases hr;exact aH.2 (fL.2 rfl)
 | 1=>
   cases hy;cases hr
   have:=nP (h:=hp) (τ:=fun _=>none) (j:=id) (e:=1) (az:=0) (len:=xs.length) (xs:=aN xs) (by rw [← Cq];exact hpre _ (.head _)) rfl (by rw [ai];omega) (kM _)
   rw [List.take_of_length_le (by rw [ai];omega)] at this
   exact .fz _ _ this
 | k+2=>simp at hy
theorem CX {x:Sz} (h:x.auto=false) (d:Int):bk x d=x.n:=by simp [bk,h]
theorem Vq (i:Ai) (w:Int) (hf:Fit i) (hw:bT w=true):aL Go.Proofs.Tryz.prog 114 [i.sv,.rv (.int .i64 w)] [] [] (.aO [.rv (.int .i64 (uD i w).1),.rv (.int .i64 (uD i w).2)]):=by
 refine bz PU [i.sv,.rv (.int .i64 w)] _ (by simp) (by simp [aP,bg,bu,aY,bq,aC.sv,Ln.sv,Nd.sv]) (fun K hK=>?_)
 have h1:=nC i.left 0
 have h2:=nC i.right 0
 have h3:=Dt i [w] hf.b hf.a (by simp [hw]) (by simp)
 have h4:=Dt i [w,bk i.left 0,bk i.right 0] hf.b hf.a (by simp [hw,hf.l,hf.r]) (by simp)
 have q1:=je.1 hf.b
 have q2:=je.1 hf.a
 have q3:=je.1 hf.l
 have q4:=je.1 hf.r
 have q5:=je.1 hw
 have h5:=Vd (i.base - i.around - w)
 have w1:IntKind.i64.wrap (i.base - i.around - w - (i.base - i.around - w) / 2)=i.base - i.around - w - (i.base - i.around - w) / 2:=wrap_i64 (by omega) (by omega)
 have w2:IntKind.i64.wrap (i.base - i.around - w - bk i.right 0)=i.base - i.around - w - bk i.right 0:=wrap_i64 (by omega) (by omega)
 have w3:IntKind.i64.wrap (i.base - i.around - w - bk i.left 0)=i.base - i.around - w - bk i.left 0:=wrap_i64 (by omega) (by omega)
 have e1:[w].sum=w:=by simp
 have e2:i.base - i.around - [w,bk i.left 0,bk i.right 0].sum=i.base - i.around - w - bk i.left 0 - bk i.right 0:=by simp;omega
 rw [e1] at h3
 rw [e2] at h4
 simp -implicitDefEqProofs only [lT,List.map_cons,List.map_nil,List.length_cons,List.length_nil,Ai.sv,Ai.cells,Sz.sv,Sz.cells,Nat.reduceAdd] at h1 h2 h3 h4
 simp -implicitDefEqProofs only [uD] at hK
 conv in fc _ _ _ _=>reduce
 simp -implicitDefEqProofs only [Ai.sv,Ai.cells,go_sem,Int.reduceNegSucc]
 generalize bk i.left 0=L at *
 generalize bk i.right 0=R at *
 cases hl:i.left.auto <;> cases hr:i.right.auto <;> cases ht:i.bO <;> simp -implicitDefEqProofs only [hl,hr,ht] at h1 h2 h3 h4 hK ⊢ <;> by_cases zm:i.base - i.around - w - L - R<0 <;> simp -implicitDefEqProofs only [zm,decide_true,decide_false] at hK ⊢
 all_goals ((have bh:=h1;have y_2:=h2;have bC:=h3;have bI:=h4;have bK:=h5;repeat' (first | (simp -implicitDefEqProofs only [go_sem,Int.reduceNegSucc,w1,w2,w3,zm,decide_true,decide_false]) | (with_reducible refine aA ?_) | (with_reducible first | refine ag bh ?_ | refine ah bh ?_) | (with_reducible first | refine ag y_2 ?_ | refine ah y_2 ?_) | ((first | refine bS (bC _) ?_ ?_ ?_ | refine bV (bC _) ?_ ?_ ?_ | fail);(focus (simp [aR,aB] <;> fail));(focus (simp [aV,aQ] <;> fail))) | ((first | refine bS (bI _) ?_ ?_ ?_ | refine bV (bI _) ?_ ?_ ?_ | fail);(focus (simp [aR,aB] <;> fail));(focus (simp [aV,aQ] <;> fail))) | (with_reducible first | refine ag bK ?_ | refine ah bK ?_) | ((first | refine aj (fun hg=>?_) (fun hg=>?_) | refine ax (fun hg=>?_) (fun hg=>?_) | refine ay (fun hg=>?_) (fun hg=>?_)) <;> try simp -implicitDefEqProofs only [hg,Bool.not_true,Bool.not_false]) | ((with_reducible apply And.intro);focus (first | trivial | omega | decide | (simp -implicitDefEqProofs only [maxLen];omega) | (simp [maxLen,af,ak,an,av,ai,au,aq] <;> omega))) | fail)))
 all_goals (refine (hK _ _ (gM rfl rfl)).2)
theorem VP (i:Ai) (s:Sz) (hf:Fit i) (hs:s.auto=false→bT s.n=true):aL Go.Proofs.Tryz.prog 94 [i.sv,s.sv] [] [] (.aO [.agg ((jo i s).cells.map .rv),.rv (.int .i64 (jo i s).w),.rv (.bool (nh i s))]):=by
 refine bz PV [i.sv,s.sv] _ (by simp) (by simp [aP,bg,bu,aY,bq,aC.sv,Ln.sv,Nd.sv]) (fun K hK=>?_)
 have h1:=nC i.left 0
 have h2:=nC i.right 0
 have h3:=Dt i [bk i.left 0,bk i.right 0] hf.b hf.a (by simp [hf.l,hf.r]) (by simp)
 have f1:=mz (jo i s).l
 have f2:=mz (jo i s).w
 have f3:=mz (jo i s).r
 have e2:i.base - i.around - [bk i.left 0,bk i.right 0].sum=i.base - i.around - bk i.left 0 - bk i.right 0:=by simp;omega
 rw [e2] at h3
 simp -implicitDefEqProofs only [nh] at hK
 simp -implicitDefEqProofs only [lT,List.map_cons,List.map_nil,List.length_cons,List.length_nil,Ai.sv,Ai.cells,Sz.sv,Sz.cells,Nat.reduceAdd,Ao.cells,jo] at h1 h2 h3 hK f1 f2 f3
 conv in fc _ _ _ _=>reduce
 simp -implicitDefEqProofs only [Ai.sv,Ai.cells,Sz.sv,Sz.cells,go_sem,Int.reduceNegSucc]
 cases ha:s.auto with
 | true=>
   simp -implicitDefEqProofs only [ha,if_true] at hK f1 f2 f3
   have bM:=h1;have bN:=h2;have bR:=h3;have bZ:=f1;have cm:=f2;have fT:=f3;repeat' (first | (simp -implicitDefEqProofs only [go_sem,Int.reduceNegSucc]) | (with_reducible refine aA ?_) | (with_reducible first | refine ag bM ?_ | refine ah bM ?_) | (with_reducible first | refine ag bN ?_ | refine ah bN ?_) | ((first | refine bS (bR _) ?_ ?_ ?_ | refine bV (bR _) ?_ ?_ ?_ | fail);(focus (simp [aR,aB] <;> fail));(focus (simp [aV,aQ] <;> fail))) | (with_reducible first | refine ag bZ ?_ | refine ah bZ ?_) | (with_reducible first | refine ag cm ?_ | refine ah cm ?_) | (with_reducible first | refine ag fT ?_ | refine ah fT ?_) | ((first | refine aj (fun hg=>?_) (fun hg=>?_) | refine ax (fun hg=>?_) (fun hg=>?_) | refine ay (fun hg=>?_) (fun hg=>?_)) <;> try simp -implicitDefEqProofs only [hg,Bool.not_true,Bool.not_false]) | ((with_reducible apply And.intro);focus (first | trivial | omega | decide | (simp -implicitDefEqProofs only [maxLen];omega) | (simp [maxLen,af,ak,an,av,ai,au,aq] <;> omega))) | fail)
   all_goals (refine (hK _ _ ?_).2;clear hK;simp -implicitDefEqProofs only [go_sem,Int.reduceNegSucc,aS,aT,bf,bl,aH,aG,aF] <;>(try simp_all [-Int.not_lt,-Int.not_le,aH,aG,aF,bF]) <;> try omega)
 | false=>
   have h4:=Vq i s.n hf (hs ha)
   simp -implicitDefEqProofs only [Ai.sv,Ai.cells,List.map_cons,List.map_nil] at h4
   simp -implicitDefEqProofs only [ha,Bool.false_eq_true,if_false] at hK f1 f2 f3
   have gO:=h1;have ie:=h2;have ig:=h4;have ij:=f1;have iq:=f2;have ir:=f3;repeat' (first | (simp -implicitDefEqProofs only [go_sem,Int.reduceNegSucc]) | (with_reducible refine aA ?_) | (with_reducible first | refine ag gO ?_ | refine ah gO ?_) | (with_reducible first | refine ag ie ?_ | refine ah ie ?_) | (with_reducible first | refine ag ig ?_ | refine ah ig ?_) | (with_reducible first | refine ag ij ?_ | refine ah ij ?_) | (with_reducible first | refine ag iq ?_ | refine ah iq ?_) | (with_reducible first | refine ag ir ?_ | refine ah ir ?_) | ((first | refine aj (fun hg=>?_) (fun hg=>?_) | refine ax (fun hg=>?_) (fun hg=>?_) | refine ay (fun hg=>?_) (fun hg=>?_)) <;> try simp -implicitDefEqProofs only [hg,Bool.not_true,Bool.not_false]) | ((with_reducible apply And.intro);focus (first | trivial | omega | decide | (simp -implicitDefEqProofs only [maxLen];omega) | (simp [maxLen,af,ak,an,av,ai,au,aq] <;> omega))) | fail)
   all_goals (refine (hK _ _ ?_).2;clear hK;simp -implicitDefEqProofs only [go_sem,Int.reduceNegSucc,aS,aT,bf,bl,aH,aG,aF] <;>(try simp_all [-Int.not_lt,-Int.not_le,aH,aG,aF,bF]) <;> try omega)
theorem Aj (i:Ai) (s:Sz) (hf:Fit i) (hs:s.auto=false→bT s.n=true) (j:Nat) (o:Ao) (n:Int):aL Go.Proofs.Tryz.prog 112 [.ptr j 0,s.sv]
 [(j,.var (SV.fK 94 [i.sv]::(o.cells++[RV.int .i64 n]).map .rv))] [(j,.var (SV.fK 94 [i.sv]::((jo i s).cells++[RV.int .i64 (jo i s).w]).map .rv))] (.rv (.bool (nh i s))):=by
 refine mF PY [j] [.var (SV.fK 94 [i.sv]::(o.cells++[RV.int .i64 n]).map .rv)] [.var (SV.fK 94 [i.sv]::(o.cells++[RV.int .i64 n]).map .rv)] [.ptr 0 0,s.sv] [.ptr j 0,s.sv] _ _ (by simp) (by simp [aP,mb,bg,bu]) rfl (by simp [bQ]) (by simp [iB,Ef,bg,bu,aP,aY,Ao.cells]) (fun K hK=>?_)
 have h1:=VP i s hf hs
 simp -implicitDefEqProofs only [Ao.cells,List.cons_append,List.nil_append,List.map_cons,List.map_nil] at hK ⊢
 simp -implicitDefEqProofs only [Ao.cells,Sz.sv,Sz.cells,List.map_cons,List.map_nil] at h1
 conv in fc _ _ _ _=>reduce
 simp -implicitDefEqProofs only [Sz.sv,Sz.cells,go_sem,Int.reduceNegSucc]
 have iu:=h1;repeat' (first | (simp -implicitDefEqProofs only [go_sem,Int.reduceNegSucc]) | (with_reducible refine aA ?_) | (with_reducible first | refine ag iu ?_ | refine ah iu ?_) | ((first | refine aj (fun hg=>?_) (fun hg=>?_) | refine ax (fun hg=>?_) (fun hg=>?_) | refine ay (fun hg=>?_) (fun hg=>?_)) <;> try simp -implicitDefEqProofs only [hg,Bool.not_true,Bool.not_false]) | ((with_reducible apply And.intro);focus (first | trivial | omega | decide | (simp -implicitDefEqProofs only [maxLen];omega) | (simp [maxLen,af,ak,an,av,ai,au,aq] <;> omega))) | fail)
 all_goals (try ((first | refine (hK _ _ _ _ [] (gk _ _) ?_).2 | refine (hK _ _ ?_).2 | refine (hK _ _ _ _ [] (gk _ _) ?_).1 | refine (hK _ _ ?_).1 | fail);clear hK;(simp_all [gw,bQ,newL,gB,gn,aT,aS,lk,bf,fJ,fU,fN,gL,gK,aB,gx,bl,aG,ga,gz,gS,aH,gR,aF,gd,fL,bF,TS,Ao.cells]) <;> try omega))
end Go.aJ

namespace Go.aJ
open Go
theorem PX:aX Go.Proofs.Tryz.prog 93 60 (fc Go.Proofs.Tryz.prog 93 60 [(.c 8 3 true),(.t 9)]) [(.c 8 3 true),(.t 9)]:=br (by kernel_rfl)
theorem PW:aX Go.Proofs.Tryz.prog 66 41 (fc Go.Proofs.Tryz.prog 66 41 [(.c 2 3 true),(.t 3)]) [(.c 2 3 true),(.t 3)]:=br (by kernel_rfl)
def rU (i:Ai) (c:Ao→Bool) (s:Sz) (o:Ao):Option Ao:=if c o=true then (if nh i s=true then some (jo i s) else none) else some o
def vj (i:Ai):Option Ao:=if nh i i.wide=true then (rU i (fun o=>decide (o.w>i.most)) ⟨false,i.most⟩ (jo i i.wide)).bind (rU i (fun o=>decide (o.w<i.least)) ⟨false,i.least⟩) else none
def iJ:Option Ao→Ao
 | some o=>o
 | none=>⟨0,0,0⟩
theorem UX (i:Ai) (hf:Fit i) (hw:bT (bk i.wide 0)=true) (h1:bT i.least=true) (h2:bT i.most=true):aL Go.Proofs.Tryz.prog 93 [.fK 94 [i.sv],i.wide.sv,.rv (.int .i64 i.least),.rv (.int .i64 i.most)] [] [] (.aO [.agg ((iJ (vj i)).cells.map .rv),.rv (.bool (vj i).isSome)]):=by
 refine bz PX [.fK 94 [i.sv],i.wide.sv,.rv (.int .i64 i.least),.rv (.int .i64 i.most)] _ (by simp) (by simp [aP,Ef,bg,bu,aY]) (fun K hK=>?_)
 have a0:=Aj i i.wide hf (fun h=>by rwa [CX h] at hw) 3 ⟨0,0,0⟩ 0
 have a1:=Aj i ⟨false,i.most⟩ hf (fun _=>h2) 3 (jo i i.wide) (jo i i.wide).w
 have a2:=Aj i ⟨false,i.least⟩ hf (fun _=>h1) 3 (jo i i.wide) (jo i i.wide).w
 have a3:=Aj i ⟨false,i.least⟩ hf (fun _=>h1) 3 (jo i ⟨false,i.most⟩) (jo i ⟨false,i.most⟩).w
 unfold vj rU at hK
 simp -implicitDefEqProofs only [Ao.cells,Ai.sv,Sz.sv,Sz.cells,List.cons_append,List.nil_append,List.map_cons,List.map_nil] at a0 a1 a2 a3
 conv in fc _ _ _ _=>reduce
 simp -implicitDefEqProofs only [Ai.sv,Sz.sv,Sz.cells,go_sem,Int.reduceNegSucc]
 have bh:=a0;have y_2:=a1;have bC:=a2;have bI:=a3;repeat' (first | (simp -implicitDefEqProofs only [go_sem,Int.reduceNegSucc]) | (with_reducible refine aA ?_) | (refine bS bh ?_ ?_ ?_;(focus (simp [aR,aB] <;> fail));(focus (simp [aV,aQ] <;> fail))) | (refine bV bh ?_ ?_ ?_;(focus (simp [aR,aB] <;> fail));(focus (simp [aV,aQ] <;> fail))) | (refine bS y_2 ?_ ?_ ?_;(focus (simp [aR,aB] <;> fail));(focus (simp [aV,aQ] <;> fail))) | (refine bV y_2 ?_ ?_ ?_;(focus (simp [aR,aB] <;> fail));(focus (simp [aV,aQ] <;> fail))) | (refine bS bC ?_ ?_ ?_;(focus (simp [aR,aB] <;> fail));(focus (simp [aV,aQ] <;> fail))) | (refine bV bC ?_ ?_ ?_;(focus (simp [aR,aB] <;> fail));(focus (simp [aV,aQ] <;> fail))) | (refine bS bI ?_ ?_ ?_;(focus (simp [aR,aB] <;> fail));(focus (simp [aV,aQ] <;> fail))) | (refine bV bI ?_ ?_ ?_;(focus (simp [aR,aB] <;> fail));(focus (simp [aV,aQ] <;> fail))) | ((first | refine aj (fun hg=>?_) (fun hg=>?_) | refine ax (fun hg=>?_) (fun hg=>?_) | refine ay (fun hg=>?_) (fun hg=>?_)) <;> try simp -implicitDefEqProofs only [hg,Bool.not_true,Bool.not_false]) | ((with_reducible apply And.intro);focus (first | trivial | omega | decide | (simp -implicitDefEqProofs only [maxLen];omega) | (simp [maxLen,af,ak,an,av,ai,au,aq] <;> omega))) | fail)
 all_goals (refine (hK _ _ ?_).2;clear hK;simp -implicitDefEqProofs only [go_sem,Int.reduceNegSucc,aS,aT,bf,bl,aH,aG,aF,Ao.cells,iJ] <;>(try simp_all [-Int.not_lt,-Int.not_le,aH,aG,aF,bF,Ao.cells,iJ]) <;> try omega)
def sG (i:Ai):Bool:=bT i.base && bT i.around && bT (bk i.left 0) && bT (bk i.wide 0) && bT (bk i.right 0)
def nI (i:Ai):Option Ao:=if sG i=true then vj i else none
theorem Ff {i:Ai} (h:sG i=true):Fit i∧bT (bk i.wide 0)=true:=by
 simp -implicitDefEqProofs only [sG,Bool.and_eq_true] at h
 obtain ⟨⟨⟨⟨a,b⟩,c⟩,d⟩,e⟩:=h
 exact ⟨⟨a,b,c,e⟩,d⟩
theorem UT (i:Ai) (h1:bT i.least=true) (h2:bT i.most=true):aL Go.Proofs.Tryz.prog 66 [i.sv] [] [] (.aO [.agg ((iJ (nI i)).cells.map .rv),.rv (.bool (nI i).isSome)]):=by
 refine bz PW [i.sv] _ (by simp) (by simp [aP,bg,bu,aY,bq,aC.sv,Ln.sv,Nd.sv]) (fun K hK=>?_)
 have o1:=nC i.left 0
 have o2:=nC i.wide 0
 have o3:=nC i.right 0
 have f1:=mz i.base
 have f2:=mz i.around
 have f3:=mz (bk i.left 0)
 have f4:=mz (bk i.wide 0)
 have f5:=mz (bk i.right 0)
 cases h5:sG i with
 | true=>
   obtain ⟨hF,hw⟩:=Ff h5
   have hb:=UX i hF hw h1 h2
   rw [hF.b] at f1
   rw [hF.a] at f2
   rw [hF.l] at f3
   rw [hw] at f4
   rw [hF.r] at f5
   simp -implicitDefEqProofs only [nI,h5,if_true] at hK
   simp -implicitDefEqProofs only [Ai.sv,Ai.cells,Sz.sv,Sz.cells,List.map_cons,List.map_nil] at hb o1 o2 o3
   conv in fc _ _ _ _=>reduce
   simp -implicitDefEqProofs only [Ai.sv,Ai.cells,Sz.sv,Sz.cells,go_sem,Int.reduceNegSucc]
   have bK:=o1;have bM:=o2;have bN:=o3;repeat' (first | (simp -implicitDefEqProofs only [go_sem,Int.reduceNegSucc]) | (with_reducible refine aA ?_) | (with_reducible first | refine ag bK ?_ | refine ah bK ?_) | (with_reducible first | refine ag bM ?_ | refine ah bM ?_) | (with_reducible first | refine ag bN ?_ | refine ah bN ?_) | ((first | refine aj (fun hg=>?_) (fun hg=>?_) | refine ax (fun hg=>?_) (fun hg=>?_) | refine ay (fun hg=>?_) (fun hg=>?_)) <;> try simp -implicitDefEqProofs only [hg,Bool.not_true,Bool.not_false]) | ((with_reducible apply And.intro);focus (first | trivial | omega | decide | (simp -implicitDefEqProofs only [maxLen];omega) | (simp [maxLen,af,ak,an,av,ai,au,aq] <;> omega))) | fail)
   refine kK 6 ?_
   have bR:=f1;have bZ:=f2;have cm:=f3;have fT:=f4;have gO:=f5;have ie:=hb;repeat' (first | (simp -implicitDefEqProofs only [go_sem,Int.reduceNegSucc,kO,kP,kQ,kR,kS,kT,kI,Int.reduceLT,decide_true,decide_false,Int.reduceToNat,Nat.reduceMul]) | (with_reducible refine aA ?_) | (with_reducible show G _ _ (It.l _ _::_) _ _ _;refine kJ ?_) | (with_reducible first | refine ag bR ?_ | refine ah bR ?_) | (with_reducible first | refine ag bZ ?_ | refine ah bZ ?_) | (with_reducible first | refine ag cm ?_ | refine ah cm ?_) | (with_reducible first | refine ag fT ?_ | refine ah fT ?_) | (with_reducible first | refine ag gO ?_ | refine ah gO ?_) | (with_reducible first | refine ag ie ?_ | refine ah ie ?_) | ((first | refine aj (fun hg=>?_) (fun hg=>?_) | refine ax (fun hg=>?_) (fun hg=>?_) | refine ay (fun hg=>?_) (fun hg=>?_)) <;> try simp -implicitDefEqProofs only [hg,Bool.not_true,Bool.not_false]) | ((with_reducible apply And.intro);focus (first | trivial | omega | decide | (simp -implicitDefEqProofs only [maxLen];omega) | (simp [maxLen,af,ak,an,av,ai,au,aq] <;> omega))) | fail)
   all_goals (refine (hK _ _ ?_).2;clear hK;simp -implicitDefEqProofs only [go_sem,Int.reduceNegSucc,aS,aT,bf,bl,aH,aG,aF,Ao.cells] <;>(try simp_all [-Int.not_lt,-Int.not_le,aH,aG,aF,bF,Ao.cells]) <;> try omega)
 | false=>
   simp -implicitDefEqProofs only [nI,h5,Bool.false_eq_true,if_false] at hK
   simp -implicitDefEqProofs only [Ai.sv,Ai.cells,Sz.sv,Sz.cells,List.map_cons,List.map_nil] at o1 o2 o3
   conv in fc _ _ _ _=>reduce
   simp -implicitDefEqProofs only [Ai.sv,Ai.cells,Sz.sv,Sz.cells,go_sem,Int.reduceNegSucc]
   have ig:=o1;have ij:=o2;have iq:=o3;repeat' (first | (simp -implicitDefEqProofs only [go_sem,Int.reduceNegSucc]) | (with_reducible refine aA ?_) | (with_reducible first | refine ag ig ?_ | refine ah ig ?_) | (with_reducible first | refine ag ij ?_ | refine ah ij ?_) | (with_reducible first | refine ag iq ?_ | refine ah iq ?_) | ((first | refine aj (fun hg=>?_) (fun hg=>?_) | refine ax (fun hg=>?_) (fun hg=>?_) | refine ay (fun hg=>?_) (fun hg=>?_)) <;> try simp -implicitDefEqProofs only [hg,Bool.not_true,Bool.not_false]) | ((with_reducible apply And.intro);focus (first | trivial | omega | decide | (simp -implicitDefEqProofs only [maxLen];omega) | (simp [maxLen,af,ak,an,av,ai,au,aq] <;> omega))) | fail)
   refine kK 6 ?_
   have ir:=f1;have iu:=f2;have iT:=f3;have iU:=f4;have ke:=f5;repeat' (first | (simp -implicitDefEqProofs only [go_sem,Int.reduceNegSucc,kO,kP,kQ,kR,kS,kT,kI,Int.reduceLT,decide_true,decide_false,Int.reduceToNat,Nat.reduceMul]) | (with_reducible refine aA ?_) | (with_reducible show G _ _ (It.l _ _::_) _ _ _;refine kJ ?_) | (with_reducible first | refine ag ir ?_ | refine ah ir ?_) | (with_reducible first | refine ag iu ?_ | refine ah iu ?_) | (with_reducible first | refine ag iT ?_ | refine ah iT ?_) | (with_reducible first | refine ag iU ?_ | refine ah iU ?_) | (with_reducible first | refine ag ke ?_ | refine ah ke ?_) | ((first | refine aj (fun hg=>?_) (fun hg=>?_) | refine ax (fun hg=>?_) (fun hg=>?_) | refine ay (fun hg=>?_) (fun hg=>?_)) <;> try simp -implicitDefEqProofs only [hg,Bool.not_true,Bool.not_false]) | ((with_reducible apply And.intro);focus (first | trivial | omega | decide | (simp -implicitDefEqProofs only [maxLen];omega) | (simp [maxLen,af,ak,an,av,ai,au,aq] <;> omega))) | fail)
   all_goals first | (exfalso;simp_all [sG];done) | skip
   all_goals (refine (hK _ _ ?_).2;clear hK;simp -implicitDefEqProofs only [go_sem,Int.reduceNegSucc,aS,aT,bf,bl,aH,aG,aF,Ao.cells,iJ] <;>(try simp_all [-Int.not_lt,-Int.not_le,aH,aG,aF,bF,Ao.cells,iJ]) <;> try omega)
end Go.aJ

namespace Go.aJ
open Go
theorem Rm:aX Go.Proofs.Tryz.prog 107 132 (fc Go.Proofs.Tryz.prog 107 132 [(.t 4)]) [(.t 4)]:=br (by kernel_rfl)
theorem Ro:aX Go.Proofs.Tryz.prog 79 23 (fc Go.Proofs.Tryz.prog 79 23 [(.c 4 7 true),(.t 5)]) [(.c 4 7 true),(.t 5)]:=br (by kernel_rfl)
structure Ch where
 top:Su
 bottom:Su
 inner:Su
 through:Bool
 high:Int
 deriving Inhabited,DecidableEq
def Ch.cells (c:Ch):List RV:=[.int .i64 c.top.p,.int .i64 c.top.n,.int .i64 c.bottom.p,.int .i64 c.bottom.n,.int .i64 c.inner.p,.int .i64 c.inner.n,.bool c.through,.int .i64 c.high]
structure Pl where
 iD:Int
 top:Su
 cur:Su
 lM:Bool
 deriving Inhabited,DecidableEq
def Pl.cells (p:Pl):List RV:=[.int .i64 p.iD,.int .i64 p.top.p,.int .i64 p.top.n,.int .i64 p.cur.p,.int .i64 p.cur.n,.bool p.lM]
def gD (l:List Ch):List (List RV):=l.map Ch.cells
theorem ni (l:List Ch):(gD l).length=l.length:=by simp [gD]
theorem vq {l:List Ch} {i:Nat} (h:i<l.length):(gD l)[i]?.getD []=(l[i]'h).cells:=by simp [gD,h]
def mE (c:Ch):Su:=if c.through=true then c.inner else c.top
def oh (p:Pl) (c:Ch):Int:=if p.lM=true then 0 else cq [p.iD,iQ (fR p.cur (mE c))]
def qK (p:Pl) (c:Ch):Pl:=
 if p.lM=true then (if c.through=true then { p with top:=fR p.top c.top } else ⟨c.high,fR p.top c.top,c.bottom,false⟩)
 else if c.through=true then { p with cur:=fR p.cur c.top } else { p with iD:=cq [oh p c,c.high],cur:=c.bottom }
def tF (p:Pl) (c:Ch):Bool:=
 if p.lM=true then bT (qK p c).iD
 else nG (fR p.cur (mE c)) && fV [p.iD,iQ (fR p.cur (mE c))] && (c.through || fV [oh p c,c.high])
def qg (m:Nat) (p:Pl) (ys:List Int):HB:=.var (.row m ys.length ys.length::p.cells.map .rv)
def lG (ys:List Int):HB:=.row 1 ys.length (aM (aN ys))
theorem Vr (p:Pl) (c:Ch) (j m:Nat) (sS:j≠m) (ys:List Int) (hy:ys.length≤1000000):aL Go.Proofs.Tryz.prog 107 [.ptr j 0,.agg (c.cells.map .rv)] [(j,qg m p ys),(m,lG ys)]
 [(j,qg m (qK p c) (ys++[oh p c])),(m,lG (ys++[oh p c]))] (.rv (.bool (tF p c))):=by
 refine mF Rm [j,m] [qg 1 p ys,lG ys] [qg m p ys,lG ys] [.ptr 0 0,.agg (c.cells.map .rv)] [.ptr j 0,.agg (c.cells.map .rv)] _ _ (by simp) (by simp [aP,mb,bg,bu]) rfl (by simp [bQ,sS]) (by simp [iB,qg,lG,oo,aP,aY,lN,bu]) (fun K hK=>?_)
 have j1:=uV p.top c.top
 have j2:=uV p.cur (mE c)
 have j3:=uV p.cur c.top
 have v1:=Dx (fR p.cur (mE c))
 have s1:=fun id=>tI id [p.iD,iQ (fR p.cur (mE c))] (by simp)
 have s2:=fun id=>tI id [cq [p.iD,iQ (fR p.cur (mE c))],c.high] (by simp)
 have f1:=mz p.iD
 have f2:=mz c.high
 have hl:=ai ys
 have iR:(aN ys).take ys.length=aN ys:=List.take_of_length_le (by omega)
 have vU:∀ y:Int,(ys++[y]).length=ys.length+1:=fun y=>by simp
 simp -implicitDefEqProofs only [qg,lG,Pl.cells,qK,oh,tF,vU] at hK
 simp -implicitDefEqProofs only [lT,Su.sv,Su.cells,List.map_cons,List.map_nil,List.length_cons,List.length_nil,Nat.reduceAdd] at j1 j2 j3 v1 s1 s2
 conv in fc _ _ _ _=>reduce
 simp -implicitDefEqProofs only [qg,lG,Pl.cells,Ch.cells,go_sem,Int.reduceNegSucc]
 cases ha:p.lM <;> cases ht:c.through <;> simp -implicitDefEqProofs only [ha,ht,mE,Bool.false_eq_true,if_true,if_false,Bool.false_or,Bool.true_or,Bool.and_true] at hK j1 j2 j3 v1 s1 s2 ⊢
 all_goals ((have bh:=j1;have y_2:=j2;have bC:=j3;have bI:=v1;have bK:=s1;have bM:=s2;have bN:=f1;have bR:=f2;repeat' (first | (simp -implicitDefEqProofs only [go_sem,Int.reduceNegSucc,hl,iR,mu]) | (with_reducible refine aA ?_) | (with_reducible first | refine ag bh ?_ | refine ah bh ?_) | (with_reducible first | refine ag y_2 ?_ | refine ah y_2 ?_) | (with_reducible first | refine ag bC ?_ | refine ah bC ?_) | (with_reducible first | refine ag bI ?_ | refine ah bI ?_) | ((first | refine bS (bK _) ?_ ?_ ?_ | refine bV (bK _) ?_ ?_ ?_ | fail);(focus (simp [aR,aB] <;> fail));(focus (simp [aV,aQ] <;> fail))) | ((first | refine bS (bM _) ?_ ?_ ?_ | refine bV (bM _) ?_ ?_ ?_ | fail);(focus (simp [aR,aB] <;> fail));(focus (simp [aV,aQ] <;> fail))) | (with_reducible first | refine ag bN ?_ | refine ah bN ?_) | (with_reducible first | refine ag bR ?_ | refine ah bR ?_) | ((first | refine aj (fun hg=>?_) (fun hg=>?_) | refine ax (fun hg=>?_) (fun hg=>?_) | refine ay (fun hg=>?_) (fun hg=>?_)) <;> try simp -implicitDefEqProofs only [hg,Bool.not_true,Bool.not_false]) | ((with_reducible apply And.intro);focus (first | trivial | omega | decide | (simp -implicitDefEqProofs only [maxLen];omega) | (simp [maxLen,af,ak,an,av,ai,au,aq] <;> omega))) | fail)))
 all_goals (refine (hK _ _ _ _ [] (gk _ _) ?_).2;clear hK j1 j2 j3 v1 s1 s2 f1 f2;simp [gw,bQ,newL,gB,gn,aT,aS,lk,bf,fJ,fU,fN,gL,gK,aB,gx,bl,aG,ga,gz,gS,aH,gR,aF,gd,fL,sS,Ne.symm sS] <;> simp_all)
def oq:List Ch→Pl→List Int→Option (Pl×List Int)
 | [],p,ys=>some (p,ys)
 | c::l,p,ys=>if tF p c=true then oq l (qK p c) (ys++[oh p c]) else none
def ju (l:List Ch) (o:Bool):Option (Pl×List Int):=oq l ⟨0,⟨0,0⟩,⟨0,0⟩,o⟩ []
def lB (m:Nat):Option (Pl×List Int)→SV
 | some q=>.agg (.row m q.2.length q.2.length::q.1.cells.map .rv)
 | none=>.agg [.rv .cv,.rv (.int .i64 0),.rv (.int .i64 0),.rv (.int .i64 0),.rv (.int .i64 0),.rv (.int .i64 0),.rv (.bool false)]
def jZ (m:Nat):Option (Pl×List Int)→List (Nat×HB)
 | some q=>[(m,lG q.2)]
 | none=>[]
theorem UP (l:List Ch) (o:Bool) (hb:l.length≤1000000) (m:Nat):aL Go.Proofs.Tryz.prog 79 [.rv (.sl 8 (gD l)),.rv (.bool o)] [] (jZ m (ju l o)) (.aO [lB m (ju l o),.rv (.bool (ju l o).isSome)]):=by
 refine mF Ro [] [] [] [.rv (.sl 8 (gD l)),.rv (.bool o)] [.rv (.sl 8 (gD l)),.rv (.bool o)] _ _ (by simp) (by simp [aP,aY]) rfl (by simp [bQ]) (by simp [iB]) (fun K hK=>?_)
 have hl:=ni l
 conv in fc _ _ _ _=>reduce
 simp -implicitDefEqProofs only [go_sem,Int.reduceNegSucc]
 repeat' (first | (simp -implicitDefEqProofs only [go_sem,Int.reduceNegSucc,hl]) | (with_reducible refine aA ?_) | ((first | refine aj (fun hg=>?_) (fun hg=>?_) | refine ax (fun hg=>?_) (fun hg=>?_) | refine ay (fun hg=>?_) (fun hg=>?_)) <;> try simp -implicitDefEqProofs only [hg,Bool.not_true,Bool.not_false]) | ((with_reducible apply And.intro);focus (first | trivial | omega | decide | (simp -implicitDefEqProofs only [maxLen];omega) | (simp [maxLen,af,ak,an,av,ai,au,aq] <;> omega))) | fail)
 refine fG (ι:=Nat×Pl×List Int) (fun q=>[(13,.rv (.int .i64 q.1)),(12,.rv (.int .i64 l.length)),(11,.rv (.sl 8 (gD l))),(6,.ptr 1 0),(4,.ptr 0 0)]) (fun q=>[some (.var [.rv .cv,.rv (.int .i64 0),.rv (.int .i64 0),.rv (.int .i64 0),.rv (.int .i64 0),.rv (.int .i64 0),.rv (.bool false)]),some (qg 2 q.2.1 q.2.2),some (lG q.2.2)])
  (fun q=>q.1≤l.length∧q.2.2.length=q.1∧oq (l.drop q.1) q.2.1 q.2.2=ju l o) (fun q=>l.length - q.1) (0,⟨0,⟨0,0⟩,⟨0,0⟩,o⟩,[]) ⟨Nat.zero_le _,rfl,rfl⟩ ((sE 1 1 0 rfl rfl).trans (aU (by simp [lk,aQ]))) (fun q hq K' hN hX hR=>?_)
 obtain ⟨k,p,ys⟩:=q
 obtain ⟨fH,hk2,gq⟩:=hq
 dsimp only at fH hk2 gq ⊢
 simp -implicitDefEqProofs only [go_sem,Int.reduceNegSucc]
 refine aj (fun hg=>?_) (fun hg=>?_)
 ·have aD:k<l.length:=by simp at hg;omega
  have wu:=cw (k:=k) (by omega)
  have hx:=vq aD
  have hp:=Vr p l[k] 1 2 (by decide) ys (by omega)
  rw [List.drop_eq_getElem_cons aD,oq] at gq
  generalize l[k]=c at *
  have q1:(c.cells.map SV.rv).take 8=c.cells.map SV.rv:=rfl
  have q2:c.cells.take 8=c.cells:=rfl
  have q3:(c.cells.map SV.rv).length=8:=rfl
  have q4:(c.cells.map SV.rv).drop 8=[]:=rfl
  have q5:c.cells.length=8:=rfl
  cases hok:tF p c with
  | true=>
    rw [hok] at hp
    rw [if_pos hok] at gq
    have bZ:=hp;repeat' (first | (simp -implicitDefEqProofs only [go_sem,Int.reduceNegSucc,hl,hx,q1,q2,q3,q4,q5,wu]) | (with_reducible refine aA ?_) | (refine bS bZ ?_ ?_ ?_;(focus (simp [aR,aB] <;> fail));(focus (simp [aV,aQ] <;> fail))) | (refine bV bZ ?_ ?_ ?_;(focus (simp [aR,aB] <;> fail));(focus (simp [aV,aQ] <;> fail))) | ((first | refine aj (fun hg=>?_) (fun hg=>?_) | refine ax (fun hg=>?_) (fun hg=>?_) | refine ay (fun hg=>?_) (fun hg=>?_)) <;> try simp -implicitDefEqProofs only [hg,Bool.not_true,Bool.not_false]) | ((with_reducible apply And.intro);focus (first | trivial | omega | decide | (simp -implicitDefEqProofs only [maxLen];omega) | (simp [maxLen,af,ak,an,av,ai,au,aq] <;> omega))) | fail)
    exact hN (k+1,qK p c,ys++[oh p c]) _ _ ⟨by dsimp only;omega,by simp [hk2],gq⟩ (by dsimp only;omega) (nj (h':=[some (.var [.rv .cv,.rv (.int .i64 0),.rv (.int .i64 0),.rv (.int .i64 0),.rv (.int .i64 0),.rv (.int .i64 0),.rv (.bool false)]),some (qg 2 (qK p c) (ys++[oh p c])),some (lG (ys++[oh p c]))]) (Nat.zero_le _) ⟨jG (rs:=[.cv,.int .i64 0,.int .i64 0,.int .i64 0,.int .i64 0,.int .i64 0,.bool false]),⟨jw.2 (by simp),jG⟩,jd,trivial⟩ (by simp [iC,lk,jH,lP]))
  | false=>
    rw [hok] at hp
    rw [if_neg (by rw [hok];simp)] at gq
    have cm:=hp;repeat' (first | (simp -implicitDefEqProofs only [go_sem,Int.reduceNegSucc,hl,hx,q1,q2,q3,q4,q5,wu]) | (with_reducible refine aA ?_) | (refine bS cm ?_ ?_ ?_;(focus (simp [aR,aB] <;> fail));(focus (simp [aV,aQ] <;> fail))) | (refine bV cm ?_ ?_ ?_;(focus (simp [aR,aB] <;> fail));(focus (simp [aV,aQ] <;> fail))) | ((first | refine aj (fun hg=>?_) (fun hg=>?_) | refine ax (fun hg=>?_) (fun hg=>?_) | refine ay (fun hg=>?_) (fun hg=>?_)) <;> try simp -implicitDefEqProofs only [hg,Bool.not_true,Bool.not_false]) | ((with_reducible apply And.intro);focus (first | trivial | omega | decide | (simp -implicitDefEqProofs only [maxLen];omega) | (simp [maxLen,af,ak,an,av,ai,au,aq] <;> omega))) | fail)
    refine hR _ _ (hK _ _ _ _ [] (gk _ _) ?_).2
    rw [← gq]
    simp [gw,bQ,newL,gB,gn,aT,aS,lk,bf,fJ,fU,fN,gL,gK,aB,gx,bl,aG,ga,gz,gS,aH,gR,aF,gd,fL,gE,lB,jZ,Pl.cells,aH,aF]
 ·have aD:k=l.length:=by simp at hg;omega
  subst aD
  simp -implicitDefEqProofs only [go_sem,Int.reduceNegSucc]
  refine hX _ _ _ ?_
  rw [List.drop_length,oq] at gq
  simp -implicitDefEqProofs only [qg,lG,Pl.cells,go_sem,Int.reduceNegSucc]
  repeat' (first | (simp -implicitDefEqProofs only [go_sem,Int.reduceNegSucc]) | (with_reducible refine aA ?_) | ((first | refine aj (fun hg=>?_) (fun hg=>?_) | refine ax (fun hg=>?_) (fun hg=>?_) | refine ay (fun hg=>?_) (fun hg=>?_)) <;> try simp -implicitDefEqProofs only [hg,Bool.not_true,Bool.not_false]) | ((with_reducible apply And.intro);focus (first | trivial | omega | decide | (simp -implicitDefEqProofs only [maxLen];omega) | (simp [maxLen,af,ak,an,av,ai,au,aq] <;> omega))) | fail)
  refine (hK _ _ _ _ [none,none,some m] (gk _ _) ?_).2
  rw [← gq]
  simp [gw,bQ,newL,gB,gn,aT,aS,lk,bf,fJ,fU,fN,gL,gK,aB,gx,bl,aG,ga,gz,gS,aH,gR,aF,gd,fL,gE,lB,jZ,Pl.cells,lG,aH,aF]
theorem vB {cs:List SV} (h:∀ y∈cs,iL y):iL (.agg cs):=.agg _ fun j y hy=>h y (List.mem_of_getElem? hy)
theorem Bz {cs:List SV} (h:∀ y∈cs,iL y):iL (.aO cs):=.aO _ fun j y hy=>h y (List.mem_of_getElem? hy)
theorem TF (p:Pl):∀ r∈p.cells,jD r:=by
 intro r hr
 simp -implicitDefEqProofs only [Pl.cells,List.mem_cons,List.not_mem_nil,or_false] at hr
 rcases hr with rfl | rfl | rfl | rfl | rfl | rfl <;> first | exact .int _ _ | exact .bool _
theorem Kv (ys:List Int):nH (lG ys):=.row _ _ _ fun i x j y hx hy=>by
 simp -implicitDefEqProofs only [aM,List.getElem?_map,Option.map_eq_some_iff,aN] at hx
 obtain ⟨a,⟨b,_,rfl⟩,rfl⟩:=hx
 cases j with
 | zero=>simp at hy;subst hy;exact .rv _ (.int _ _)
 | succ j=>simp at hy
theorem HZ (m:Nat) (o:Option (Pl×List Int)):iL (lB m o):=by
 cases o with
 | none=>
   refine vB fun y hy=>?_
   simp -implicitDefEqProofs only [List.mem_cons,List.not_mem_nil,or_false] at hy
   rcases hy with rfl | rfl | rfl | rfl | rfl | rfl | rfl <;> exact .rv _ (by constructor)
 | some q=>
   refine vB fun y hy=>?_
   rcases List.mem_cons.1 hy with rfl | hy
   ·exact .row _ _ _
   ·obtain ⟨r,hr,rfl⟩:=List.mem_map.1 hy
    exact .rv _ (TF _ r hr)
theorem UQ (l:List Ch) (o:Bool) (hb:l.length≤1000000) (j v m:Nat) (sS:j≠m):aL Go.Proofs.Tryz.prog 79 [.row j v l.length,.rv (.bool o)] [(j,.row 8 v (aM (gD l)))] (jZ m (ju l o)) (.aO [lB m (ju l o),.rv (.bool (ju l o).isSome)]):=by
 refine tU (jc:=[.rv (.sl 8 (gD l)),.rv (.bool o)]) (UP l o hb m) rfl (fun hp hpre k y r hy hr=>?_) (Bz fun y hy=>?_) (fun q hq=>?_)
 ·match k with
  | 0=>
    cases hy;cases hr
    have:=nP (h:=hp) (τ:=fun _=>none) (j:=j) (e:=8) (az:=v) (len:=l.length) (xs:=gD l) (hpre _ (.head _)) rfl (by rw [ni];omega) (fun x hx r hr=>by
     obtain ⟨c,_,rfl⟩:=List.mem_map.1 hx
     simp -implicitDefEqProofs only [Ch.cells,List.mem_cons,List.not_mem_nil,or_false] at hr
     rcases hr with rfl | rfl | rfl | rfl | rfl | rfl | rfl | rfl <;> rfl)
    rw [List.take_of_length_le (by rw [ni];omega)] at this
    exact .fz _ _ this
  | 1=>cases hy;cases hr;exact aG.2 rfl
  | k+2=>simp at hy
 ·simp -implicitDefEqProofs only [List.mem_cons,List.not_mem_nil,or_false] at hy
  rcases hy with rfl | rfl
  ·exact HZ _ _
  ·exact .rv _ (.bool _)
 ·revert hq
  cases ju l o with
  | none=>simp [jZ]
  | some z=>
    simp -implicitDefEqProofs only [jZ,List.mem_singleton]
    rintro rfl
    refine ⟨Kv _,fun p hp=>?_⟩
    subst hp
    exact sS
end Go.aJ

namespace Go.aJ
open Go
theorem Qw:aX Go.Proofs.Tryz.prog 68 34 (fc Go.Proofs.Tryz.prog 68 34 [(.c 4 8 true),(.t 5)]) [(.c 4 8 true),(.t 5)]:=br (by kernel_rfl)
theorem Qx:aX Go.Proofs.Tryz.prog 73 36 (fc Go.Proofs.Tryz.prog 73 36 [(.c 2 2 true)]) [(.c 2 2 true)]:=br (by kernel_rfl)
theorem rO (x:Ln) (b:Int) (has:Bool):aL Go.Proofs.Tryz.prog 35 [x.sv,.rv (.int .i64 b),.rv (.bool has)] [] [] (.aO [(gf x b has).sv,.rv (.bool (iy x b has))]):=by
 refine bz Qu [x.sv,.rv (.int .i64 b),.rv (.bool has)] _ (by simp) (by simp [aP,bg,bu,aY,bq,aC.sv,Ln.sv,Nd.sv]) (fun K hK=>?_)
 have hf:=jO x.n
 have hp:=Vu b x.n
 conv in fc _ _ _ _=>reduce
 simp -implicitDefEqProofs only [Ln.sv,Ln.cells,Sz.sv,Sz.cells,go_sem,Int.reduceNegSucc]
 have bh:=hf;have y_2:=hp;repeat' (first | (simp -implicitDefEqProofs only [go_sem,Int.reduceNegSucc]) | (with_reducible refine aA ?_) | (with_reducible first | refine ag bh ?_ | refine ah bh ?_) | (with_reducible first | refine ag y_2 ?_ | refine ah y_2 ?_) | ((first | refine aj (fun hg=>?_) (fun hg=>?_) | refine ax (fun hg=>?_) (fun hg=>?_) | refine ay (fun hg=>?_) (fun hg=>?_)) <;> try simp -implicitDefEqProofs only [hg,Bool.not_true,Bool.not_false]) | ((with_reducible apply And.intro);focus (first | trivial | omega | decide | (simp -implicitDefEqProofs only [maxLen];omega) | (simp [maxLen,af,ak,an,av,ai,au,aq] <;> omega))) | fail)
 all_goals (refine (hK _ _ ?_).2;clear hK;simp -implicitDefEqProofs only [go_sem,Int.reduceNegSucc,aS,aT,bf,bl,aH,aG,aF,Sz.sv,Sz.cells,gf,iy,lY] <;>(try simp_all [-Int.not_lt,-Int.not_le,aH,aG,aF,bF,Sz.sv,Sz.cells,gf,iy,lY]) <;> try omega)
theorem IZ (q:Q4 Ln) (b:Int):aL Go.Proofs.Tryz.prog 68 [.agg (q.oY.map .rv),.rv (.int .i64 b)] [] [] (.aO [.agg ((mS q b).iG.map .rv),.rv (.bool (pq q b))]):=by
 refine bz Qw [.agg (q.oY.map .rv),.rv (.int .i64 b)] _ (by simp) (by simp [aP,bg,bu,aY,bq,aC.sv,Ln.sv,Nd.sv]) (fun K hK=>?_)
 have ha:=rO q.a b true
 have hb:=rO q.b b true
 have hc:=rO q.c b true
 have hd:=rO q.d b true
 conv in fc _ _ _ _=>reduce
 simp -implicitDefEqProofs only [Q4.oY,Ln.sv,Ln.cells,Sz.sv,Sz.cells,go_sem,Int.reduceNegSucc] at *
 repeat' (first | (simp -implicitDefEqProofs only [go_sem,Int.reduceNegSucc]) | (with_reducible refine aA ?_) | ((first | refine aj (fun hg=>?_) (fun hg=>?_) | refine ax (fun hg=>?_) (fun hg=>?_) | refine ay (fun hg=>?_) (fun hg=>?_)) <;> try simp -implicitDefEqProofs only [hg,Bool.not_true,Bool.not_false]) | ((with_reducible apply And.intro);focus (first | trivial | omega | decide | (simp -implicitDefEqProofs only [maxLen];omega) | (simp [maxLen,af,ak,an,av,ai,au,aq] <;> omega))) | fail)
 refine kK 5 ?_
 have bC:=ha;have bI:=hb;have bK:=hc;have bM:=hd;repeat' (first | (simp -implicitDefEqProofs only [go_sem,Int.reduceNegSucc,kO,kP,kQ,kR,kS,kT,kI,Int.reduceLT,decide_true,decide_false,Int.reduceToNat,Nat.reduceMul]) | (with_reducible refine aA ?_) | (with_reducible show G _ _ (It.l _ _::_) _ _ _;refine kJ ?_) | (with_reducible first | refine ag bC ?_ | refine ah bC ?_) | (with_reducible first | refine ag bI ?_ | refine ah bI ?_) | (with_reducible first | refine ag bK ?_ | refine ah bK ?_) | (with_reducible first | refine ag bM ?_ | refine ah bM ?_) | ((first | refine aj (fun hg=>?_) (fun hg=>?_) | refine ax (fun hg=>?_) (fun hg=>?_) | refine ay (fun hg=>?_) (fun hg=>?_)) <;> try simp -implicitDefEqProofs only [hg,Bool.not_true,Bool.not_false]) | ((with_reducible apply And.intro);focus (first | trivial | omega | decide | (simp -implicitDefEqProofs only [maxLen];omega) | (simp [maxLen,af,ak,an,av,ai,au,aq] <;> omega))) | fail)
 all_goals (refine (hK _ _ ?_).2;clear hK;simp -implicitDefEqProofs only [go_sem,Int.reduceNegSucc,aS,aT,bf,bl,aH,aG,aF,mS,pq,xj,Q4.iG] <;>(try simp_all [-Int.not_lt,-Int.not_le,aH,aG,aF,bF,mS,pq,xj,Q4.iG]) <;> try omega)
theorem IY (x y:Ln) (b:Int) (has:Bool):aL Go.Proofs.Tryz.prog 36 [x.sv,y.sv,.rv (.int .i64 b),.rv (.bool has)] [] [] (.aO [.rv (.int .i64 (bk (gf x b has) 0)),.rv (.int .i64 (bk (gf y b has) 1125899906842624)),.rv (.bool (iy x b has && iy y b has))]):=by
 refine bz Qt [x.sv,y.sv,.rv (.int .i64 b),.rv (.bool has)] _ (by simp) (by simp [aP,bg,bu,aY,bq,aC.sv,Ln.sv,Nd.sv]) (fun K hK=>?_)
 have h1:=rO x b has
 have h2:=rO y b has
 have o1:=pz (gf x b has) 0
 have o2:=pz (gf y b has) 1125899906842624
 generalize gf x b has=X at *
 generalize gf y b has=Y at *
 conv in fc _ _ _ _=>reduce
 simp -implicitDefEqProofs only [Ln.sv,Ln.cells,Sz.sv,Sz.cells,go_sem,Int.reduceNegSucc] at *
 have bN:=h1;have bR:=h2;have bZ:=o1;have cm:=o2;repeat' (first | (simp -implicitDefEqProofs only [go_sem,Int.reduceNegSucc]) | (with_reducible refine aA ?_) | (with_reducible first | refine ag bN ?_ | refine ah bN ?_) | (with_reducible first | refine ag bR ?_ | refine ah bR ?_) | (with_reducible first | refine ag bZ ?_ | refine ah bZ ?_) | (with_reducible first | refine ag cm ?_ | refine ah cm ?_) | ((first | refine aj (fun hg=>?_) (fun hg=>?_) | refine ax (fun hg=>?_) (fun hg=>?_) | refine ay (fun hg=>?_) (fun hg=>?_)) <;> try simp -implicitDefEqProofs only [hg,Bool.not_true,Bool.not_false]) | ((with_reducible apply And.intro);focus (first | trivial | omega | decide | (simp -implicitDefEqProofs only [maxLen];omega) | (simp [maxLen,af,ak,an,av,ai,au,aq] <;> omega))) | fail)
 all_goals (refine (hK _ _ ?_).2;clear hK;simp -implicitDefEqProofs only [go_sem,Int.reduceNegSucc,aS,aT,bf,bl,aH,aG,aF] <;>(try simp_all [-Int.not_lt,-Int.not_le,aH,aG,aF,bF]) <;> try omega)
theorem VG (x:Int):aL Go.Proofs.Tryz.prog 73 [.rv (.sl 1 [[.int .i64 x]])] [] [] (Su.sv ⟨max x 0,min x 0⟩):=by
 refine bz Qx [.rv (.sl 1 [[.int .i64 x]])] _ (by simp) (by simp [aP,bg,bu,aY,bq,aC.sv,Ln.sv,Nd.sv]) (fun K hK=>?_)
 conv in fc _ _ _ _=>reduce
 simp -implicitDefEqProofs only [go_sem,Int.reduceNegSucc]
 repeat' (first | (simp -implicitDefEqProofs only [go_sem,Int.reduceNegSucc]) | (with_reducible refine aA ?_) | ((first | refine aj (fun hg=>?_) (fun hg=>?_) | refine ax (fun hg=>?_) (fun hg=>?_) | refine ay (fun hg=>?_) (fun hg=>?_)) <;> try simp -implicitDefEqProofs only [hg,Bool.not_true,Bool.not_false]) | ((with_reducible apply And.intro);focus (first | trivial | omega | decide | (simp -implicitDefEqProofs only [maxLen];omega) | (simp [maxLen,af,ak,an,av,ai,au,aq] <;> omega))) | fail)
 refine kK 2 ?_
 repeat' (first | (simp -implicitDefEqProofs only [go_sem,Int.reduceNegSucc,kO,kP,kQ,kR,kS,kT,kI,Int.reduceLT,decide_true,decide_false,Int.reduceToNat,Nat.reduceMul]) | (with_reducible refine aA ?_) | (with_reducible show G _ _ (It.l _ _::_) _ _ _;refine kJ ?_) | ((first | refine aj (fun hg=>?_) (fun hg=>?_) | refine ax (fun hg=>?_) (fun hg=>?_) | refine ay (fun hg=>?_) (fun hg=>?_)) <;> try simp -implicitDefEqProofs only [hg,Bool.not_true,Bool.not_false]) | ((with_reducible apply And.intro);focus (first | trivial | omega | decide | (simp -implicitDefEqProofs only [maxLen];omega) | (simp [maxLen,af,ak,an,av,ai,au,aq] <;> omega))) | fail)
 all_goals (refine (hK _ _ ?_).2;clear hK;simp -implicitDefEqProofs only [go_sem,Int.reduceNegSucc,aS,aT,bf,bl,aH,aG,aF,Su.sv,Su.cells] <;>(try simp_all [-Int.not_lt,-Int.not_le,aH,aG,aF,bF,Su.sv,Su.cells]) <;> try omega)
theorem Ja (x:Int) (id:Nat):aL Go.Proofs.Tryz.prog 73 [.row id 0 1] [(id,.row 1 0 [[.rv (.int .i64 x)]])] [] (Su.sv ⟨max x 0,min x 0⟩):=by
 refine tU (jc:=[.rv (.sl 1 [[.int .i64 x]])]) (VG x) rfl (fun hp hpre k y r hy hr=>?_) (vB fun y hy=>?_) (by simp)
 ·match k with
  | 0=>
    cases hy;cases hr
    have:=nP (h:=hp) (τ:=fun _=>none) (j:=id) (e:=1) (az:=0) (len:=1) (xs:=[[.int .i64 x]]) (hpre _ (.head _)) rfl (by simp) (by simp;rfl)
    exact .fz _ _ this
  | k+1=>simp at hy
 ·simp -implicitDefEqProofs only [Su.cells,List.map_cons,List.map_nil,List.mem_cons,List.not_mem_nil,or_false] at hy
  rcases hy with rfl | rfl <;> exact .rv _ (.int _ _)
end Go.aJ

namespace Go.aJ
open Go
theorem QB:aX Go.Proofs.Tryz.prog 75 24 (fc Go.Proofs.Tryz.prog 75 24 [(.t 4)]) [(.t 4)]:=br (by kernel_rfl)
theorem QA:aX Go.Proofs.Tryz.prog 45 145 (fc Go.Proofs.Tryz.prog 45 145 [(.c 4 7 true),(.t 5)]) [(.c 4 7 true),(.t 5)]:=br (by kernel_rfl)
def kD:List Ch→Nat
 | []=>0
 | c::l=>if c.through=true then kD l+1 else 1
def hJ (l:List Ch) (o:Bool):Nat:=if o=true then kD l else 0
theorem Aq:∀ l:List Ch,kD l≤l.length
 | []=>Nat.le_refl _
 | c::l=>by have:=Aq l;simp -implicitDefEqProofs only [kD,List.length_cons];split <;> omega
theorem Jt:∀ (l:List Ch) (i:Nat) (h:i<l.length),i+1<kD l→l[i].through=true
 | c::l,0,h,h1=>by simp -implicitDefEqProofs only [kD] at h1;split at h1 <;> simp_all
 | c::l,i+1,h,h1=>by
   simp -implicitDefEqProofs only [kD] at h1
   split at h1
   ·exact Jt l i (by simpa using h) (by omega)
   ·omega
theorem Js:∀ (l:List Ch) (h:kD l<l.length),∃ h0:kD l - 1<l.length,0<kD l∧(l[kD l - 1]'h0).through=false
 | c::l,h=>by
   simp -implicitDefEqProofs only [kD] at h ⊢
   split
   ·rename_i hc
    rw [if_pos hc] at h
    obtain ⟨h0,h1,h2⟩:=Js l (by simpa using h)
    refine ⟨by simp;omega,by omega,?_⟩
    have:kD l+1 - 1=(kD l - 1)+1:=by omega
    simp -implicitDefEqProofs only [this,List.getElem_cons_succ]
    exact h2
   ·rename_i hc
    exact ⟨by simp,by omega,by simpa using hc⟩
theorem Et (c:Ch):(c.cells.map SV.rv)[6]?=some (.rv (.bool c.through)):=rfl
theorem LU (c:Ch):c.cells[6]?=some (.bool c.through):=rfl
theorem yx (c:Ch):(c.cells.drop 6)[0]?=some (.bool c.through):=rfl
theorem VI (l:List Ch) (o:Bool) (hb:l.length≤1000000):aL Go.Proofs.Tryz.prog 75 [.rv (.sl 8 (gD l)),.rv (.bool o)] [] [] (.rv (.int .i64 (hJ l o))):=by
 refine bz QB [.rv (.sl 8 (gD l)),.rv (.bool o)] _ (by simp) (by simp [aP,bg,bu,aY,bq,aC.sv,Ln.sv,Nd.sv]) (fun K hK=>?_)
 have hl:=ni l
 conv in fc _ _ _ _=>reduce
 simp -implicitDefEqProofs only [go_sem,Int.reduceNegSucc]
 cases o with
 | false=>
   repeat' (first | (simp -implicitDefEqProofs only [go_sem,Int.reduceNegSucc]) | (with_reducible refine aA ?_) | ((first | refine aj (fun hg=>?_) (fun hg=>?_) | refine ax (fun hg=>?_) (fun hg=>?_) | refine ay (fun hg=>?_) (fun hg=>?_)) <;> try simp -implicitDefEqProofs only [hg,Bool.not_true,Bool.not_false]) | ((with_reducible apply And.intro);focus (first | trivial | omega | decide | (simp -implicitDefEqProofs only [maxLen];omega) | (simp [maxLen,af,ak,an,av,ai,au,aq] <;> omega))) | fail)
   exact (hK _ _ (bU rfl)).2
 | true=>
   simp -implicitDefEqProofs only [hJ,if_true] at hK
   repeat' (first | (simp -implicitDefEqProofs only [go_sem,Int.reduceNegSucc,hl]) | (with_reducible refine aA ?_) | ((first | refine aj (fun hg=>?_) (fun hg=>?_) | refine ax (fun hg=>?_) (fun hg=>?_) | refine ay (fun hg=>?_) (fun hg=>?_)) <;> try simp -implicitDefEqProofs only [hg,Bool.not_true,Bool.not_false]) | ((with_reducible apply And.intro);focus (first | trivial | omega | decide | (simp -implicitDefEqProofs only [maxLen];omega) | (simp [maxLen,af,ak,an,av,ai,au,aq] <;> omega))) | fail)
   refine fG (ι:=Nat) (fun k=>[(10,.rv (.int .i64 k)),(9,.rv (.int .i64 l.length)),(0,.rv (.sl 8 (gD l)))]) (fun _=>[]) (fun k=>k≤l.length∧kD l=k+kD (l.drop k)) (fun k=>l.length - k) 0 ⟨Nat.zero_le _,by simp⟩ (aU (by simp [lk])) (fun k hk K' hN hX hR=>?_)
   obtain ⟨fH,hk2⟩:=hk
   simp -implicitDefEqProofs only [go_sem,Int.reduceNegSucc]
   refine aj (fun hg=>?_) (fun hg=>?_)
   ·have aD:k<l.length:=by simp at hg;omega
    have wu:=cw (k:=k) (by omega)
    have hx:=vq aD
    rw [List.drop_eq_getElem_cons aD,kD] at hk2
    generalize l[k]=c at *
    have q1:=Et c
    have q3:=yx c
    have q2:c.cells.length=8:=rfl
    cases hc:c.through with
    | true=>
      rw [hc] at q1 hk2 q3
      simp -implicitDefEqProofs only [if_true] at hk2
      repeat' (first | (simp -implicitDefEqProofs only [go_sem,Int.reduceNegSucc,hl,hx,q1,q2,q3,wu,List.length_drop]) | (with_reducible refine aA ?_) | ((first | refine aj (fun hg=>?_) (fun hg=>?_) | refine ax (fun hg=>?_) (fun hg=>?_) | refine ay (fun hg=>?_) (fun hg=>?_)) <;> try simp -implicitDefEqProofs only [hg,Bool.not_true,Bool.not_false]) | ((with_reducible apply And.intro);focus (first | trivial | omega | decide | (simp -implicitDefEqProofs only [maxLen];omega) | (simp [maxLen,af,ak,an,av,ai,au,aq] <;> omega))) | fail)
      exact hN (k+1) _ _ ⟨by omega,by omega⟩ (by omega) (aU (by simp [lk]))
    | false=>
      rw [hc] at q1 hk2 q3
      simp -implicitDefEqProofs only [Bool.false_eq_true,if_false] at hk2
      repeat' (first | (simp -implicitDefEqProofs only [go_sem,Int.reduceNegSucc,hl,hx,q1,q2,q3,wu,List.length_drop]) | (with_reducible refine aA ?_) | ((first | refine aj (fun hg=>?_) (fun hg=>?_) | refine ax (fun hg=>?_) (fun hg=>?_) | refine ay (fun hg=>?_) (fun hg=>?_)) <;> try simp -implicitDefEqProofs only [hg,Bool.not_true,Bool.not_false]) | ((with_reducible apply And.intro);focus (first | trivial | omega | decide | (simp -implicitDefEqProofs only [maxLen];omega) | (simp [maxLen,af,ak,an,av,ai,au,aq] <;> omega))) | fail)
      exact hR _ _ (hK _ _ (bU (by simp [lk,hk2]))).2
   ·have aD:k=l.length:=by simp at hg;omega
    subst aD
    simp -implicitDefEqProofs only [go_sem,Int.reduceNegSucc]
    refine hX _ _ _ ?_
    repeat' (first | (simp -implicitDefEqProofs only [go_sem,Int.reduceNegSucc,hl]) | (with_reducible refine aA ?_) | ((first | refine aj (fun hg=>?_) (fun hg=>?_) | refine ax (fun hg=>?_) (fun hg=>?_) | refine ay (fun hg=>?_) (fun hg=>?_)) <;> try simp -implicitDefEqProofs only [hg,Bool.not_true,Bool.not_false]) | ((with_reducible apply And.intro);focus (first | trivial | omega | decide | (simp -implicitDefEqProofs only [maxLen];omega) | (simp [maxLen,af,ak,an,av,ai,au,aq] <;> omega))) | fail)
    exact (hK _ _ (bU (by simp [lk,hk2,kD]))).2
def lK (l:List Ch) (o:Bool):Bool:=o && (hJ l o == 0 || ((l[hJ l o - 1]?).map (·.through)).getD false)
theorem DZ {l:List Ch} {o:Bool} (h:lK l o=true):o=true∧hJ l o=l.length:=by
 simp -implicitDefEqProofs only [lK,Bool.and_eq_true,Bool.or_eq_true,beq_iff_eq] at h
 obtain ⟨rfl,h⟩:=h
 refine ⟨rfl,?_⟩
 simp -implicitDefEqProofs only [hJ,if_true] at h ⊢
 rcases Nat.lt_or_ge (kD l) l.length with hc | hc
 ·obtain ⟨h0,h1,h2⟩:=Js l hc
  rcases h with h | h
  ·omega
  ·simp [h0,h2] at h
 ·have:=Aq l;omega
def T1 (l:List Ch) (o:Bool) (k:Nat) (e:Int) (t c:Su):Prop:=
 (if bT e=true then oq (l.drop k) ⟨e,t,c,if k<hJ l o then true else lK l o⟩ (List.replicate k 0) else none)=ju l o∧(k<hJ l o→e=0∧c=⟨0,0⟩)
theorem KB (l:List Ch) (o:Bool):T1 l o 0 0 ⟨0,0⟩ ⟨0,0⟩:=by
 refine ⟨?_,fun _=>⟨rfl,rfl⟩⟩
 rw [if_pos (by rfl)]
 have:(if 0<hJ l o then true else lK l o)=o:=by
  split
  ·rename_i h
   cases o
   ·simp [hJ] at h
   ·rfl
  ·rename_i h
   have:hJ l o=0:=by omega
   simp [lK,this]
 rw [this];rfl
theorem KC {l:List Ch} {o:Bool} {k:Nat} {e:Int} {t c:Su} (h:T1 l o k e t c) (hk:k<hJ l o) (gX:k<l.length) :
 T1 l o (k+1) (if l[k].through=true then e else l[k].high) (fR t l[k].top) (if l[k].through=true then c else l[k].bottom):=by
 obtain ⟨h1,h2⟩:=h
 obtain ⟨rfl,rfl⟩:=h2 hk
 have ho:o=true:=by cases o <;> simp [hJ] at hk ⊢
 subst ho
 rw [if_pos (by rfl),if_pos hk,List.drop_eq_getElem_cons gX,oq] at h1
 cases lS:l[k].through with
 | true=>
   simp -implicitDefEqProofs only [if_true]
   refine ⟨?_,fun _=>⟨rfl,rfl⟩⟩
   simp -implicitDefEqProofs only [tF,qK,oh,lS,if_true] at h1
   rw [if_pos (by rfl)] at h1 ⊢
   rw [← h1,List.replicate_succ']
   have:(if k+1<hJ l true then true else lK l true)=true:=by
    split
    ·rfl
    ·have e1:hJ l true - 1=k:=by omega
     simp [lK,e1,gX,lS]
   rw [this]
 | false=>
   have e1:hJ l true=k+1:=by
    rcases Nat.lt_or_ge (k+1) (hJ l true) with hc | hc
    ·have:=Jt l k gX (by simpa [hJ] using hc)
     rw [this] at lS;cases lS
    ·omega
   simp -implicitDefEqProofs only [Bool.false_eq_true,if_false]
   refine ⟨?_,fun h=>by omega⟩
   simp -implicitDefEqProofs only [tF,qK,oh,lS,if_true,Bool.false_eq_true,if_false] at h1
   rw [← h1,List.replicate_succ']
   have:(if k+1<hJ l true then true else lK l true)=false:=by
    rw [if_neg (by omega)]
    simp [lK,e1,gX,lS]
   rw [this]
def T2 (l:List Ch) (o:Bool) (k:Nat) (p:Pl) (ys:List Int):Prop:=k≤l.length∧ys.length=k∧oq (l.drop k) p ys=ju l o∧(p.lM=true→k=l.length)
theorem KD {l:List Ch} {o:Bool} {e:Int} {t c:Su} (h:T1 l o (hJ l o) e t c) (hf:bT e=true):T2 l o (hJ l o) ⟨e,t,c,lK l o⟩ (List.replicate (hJ l o) 0):=by
 obtain ⟨h1,_⟩:=h
 rw [if_pos hf,if_neg (Nat.lt_irrefl _)] at h1
 refine ⟨?_,by simp,h1,fun h=>(DZ h).2⟩
 unfold hJ
 split
 ·exact Aq l
 ·exact Nat.zero_le _
end Go.aJ

namespace Go.aJ
open Go
def qN:List SV:=[.rv .cv,.rv (.int .i64 0),.rv (.int .i64 0),.rv (.int .i64 0),.rv (.int .i64 0),.rv (.int .i64 0),.rv (.bool false)]
theorem Az {N:Nat}:mZ N qN:=jG (rs:=[.cv,.int .i64 0,.int .i64 0,.int .i64 0,.int .i64 0,.int .i64 0,.bool false])
theorem LM (c:Ch):((c.cells.map SV.rv).drop 2).take 2=[.rv (.int .i64 c.bottom.p),.rv (.int .i64 c.bottom.n)]:=rfl
theorem LN (c:Ch):((c.cells.map SV.rv).drop 4).take 2=[.rv (.int .i64 c.inner.p),.rv (.int .i64 c.inner.n)]:=rfl
theorem LO (c:Ch):(c.cells.map SV.rv)[7]?=some (.rv (.int .i64 c.high)):=rfl
theorem Eo (c:Ch):(c.cells.drop 0).take 2=[.int .i64 c.top.p,.int .i64 c.top.n]:=rfl
theorem Ep (c:Ch):(c.cells.drop 2).take 2=[.int .i64 c.bottom.p,.int .i64 c.bottom.n]:=rfl
theorem LQ (c:Ch):(c.cells.map SV.rv).take 2=[.rv (.int .i64 c.top.p),.rv (.int .i64 c.top.n)]:=rfl
theorem Es (c:Ch):c.cells.take 2=[.int .i64 c.top.p,.int .i64 c.top.n]:=rfl
theorem LR (c:Ch):(c.cells.map SV.rv).take 8=c.cells.map SV.rv:=rfl
theorem LS (c:Ch):c.cells.take 8=c.cells:=rfl
theorem LP (c:Ch):(c.cells.map SV.rv).drop 8=[]:=rfl
theorem Er (c:Ch):(c.cells.drop 7)[0]?=some (.int .i64 c.high):=rfl
theorem Bb (c:Ch):c.cells.length=8:=rfl
theorem via {p X:Prop} (h1:X→p) (h2:X):p:=h1 h2
def rG (m k:Nat) (p:Pl):HB:=.var (.row m k k::p.cells.map .rv)
def si (k:Nat) (ys:List Int):HB:=.row 1 k (aM (aN ys))
def qL (l:List Ch) (n:Nat) (q:Nat×Int×Su×Su×List Int):List (Nat×SV):=[(34,.rv (.int .i64 q.1)),(33,.rv (.int .i64 n)),(7,.ptr 1 0),(0,.rv (.sl 8 (gD l))),(6,.rv (.int .i64 n)),(4,.ptr 0 0)]
def Ag (A:Bool) (q:Nat×Int×Su×Su×List Int):List (Option HB):=[some (.var qN),some (rG 2 q.1 ⟨q.2.1,q.2.2.1,q.2.2.2.1,A⟩),some (si q.1 q.2.2.2.2)]
def Dr (l:List Ch) (o:Bool) (n:Nat) (q:Nat×Int×Su×Su×List Int):Prop:=q.1≤n∧q.2.2.2.2=List.replicate q.1 0∧T1 l o q.1 q.2.1 q.2.2.1 q.2.2.2.1
theorem VH (l:List Ch) (o:Bool) (hb:l.length≤1000000) (m:Nat):aL Go.Proofs.Tryz.prog 45 [.rv (.sl 8 (gD l)),.rv (.bool o)] [] (jZ m (ju l o)) (.aO [lB m (ju l o),.rv (.bool (ju l o).isSome)]):=by
 refine mF QA [] [] [] [.rv (.sl 8 (gD l)),.rv (.bool o)] [.rv (.sl 8 (gD l)),.rv (.bool o)] _ _ (by simp) (by simp [aP,aY]) rfl (by simp [bQ]) (by simp [iB]) (fun K hK=>?_)
 have hl:=ni l
 have ht:=VI l o hb
 have Xc:hJ l o≤l.length:=by
  unfold hJ;split
  ·exact Aq l
  ·exact Nat.zero_le _
 have yU:=KB l o
 have hT:=@KD l o
 have WW:=@DZ l o
 have FB:(o=false∧hJ l o=0∧lK l o=false)∨(o=true∧hJ l o=0∧lK l o=true)∨(o=true∧hJ l o≠0∧∃ h:hJ l o - 1<l.length,lK l o=(l[hJ l o - 1]'h).through):=by
  cases o with
  | false=>exact .inl ⟨rfl,rfl,rfl⟩
  | true=>
    by_cases h0:hJ l true=0
    ·exact .inr (.inl ⟨rfl,h0,by simp [lK,h0]⟩)
    ·have hh:hJ l true - 1<l.length:=by omega
     exact .inr (.inr ⟨rfl,h0,hh,by simp [lK,h0,hh]⟩)
 generalize hA:lK l o=A at *
 generalize hn:hJ l o=n at *
 conv in fc _ _ _ _=>reduce
 simp -implicitDefEqProofs only [go_sem,Int.reduceNegSucc]
 apply via
 ·intro main
  rcases FB with ⟨ho,h0,um⟩ | ⟨ho,h0,um⟩ | ⟨ho,h0,hh,um⟩
  ·rw [ho] at ht
   have bh:=ht;repeat' (first | (simp -implicitDefEqProofs only [go_sem,Int.reduceNegSucc,hl,ho]) | (with_reducible refine aA ?_) | (with_reducible first | refine ag bh ?_ | refine ah bh ?_) | ((first | refine aj (fun hg=>?_) (fun hg=>?_) | refine ax (fun hg=>?_) (fun hg=>?_) | refine ay (fun hg=>?_) (fun hg=>?_)) <;> try simp -implicitDefEqProofs only [hg,Bool.not_true,Bool.not_false]) | ((with_reducible apply And.intro);focus (first | trivial | omega | decide | (simp -implicitDefEqProofs only [maxLen];omega) | (simp [maxLen,af,ak,an,av,ai,au,aq] <;> omega))) | fail)
   refine fG (qL l n) (Ag A) (Dr l o n) (fun q=>n - q.1) (0,0,⟨0,0⟩,⟨0,0⟩,[]) ⟨Nat.zero_le _,rfl,yU⟩ ?_ main
   subst um
   refine (sE 1 1 0 rfl rfl).trans (aU ?_)
   simp [lk,aQ,qL]
  ·have e0:((n:Int) == 0)=true:=by rw [h0];rfl
   rw [ho] at ht
   have y_2:=ht;repeat' (first | (simp -implicitDefEqProofs only [go_sem,Int.reduceNegSucc,hl,e0,ho]) | (with_reducible refine aA ?_) | (with_reducible first | refine ag y_2 ?_ | refine ah y_2 ?_) | ((first | refine aj (fun hg=>?_) (fun hg=>?_) | refine ax (fun hg=>?_) (fun hg=>?_) | refine ay (fun hg=>?_) (fun hg=>?_)) <;> try simp -implicitDefEqProofs only [hg,Bool.not_true,Bool.not_false]) | ((with_reducible apply And.intro);focus (first | trivial | omega | decide | (simp -implicitDefEqProofs only [maxLen];omega) | (simp [maxLen,af,ak,an,av,ai,au,aq] <;> omega))) | fail)
   refine fG (qL l n) (Ag A) (Dr l o n) (fun q=>n - q.1) (0,0,⟨0,0⟩,⟨0,0⟩,[]) ⟨Nat.zero_le _,rfl,yU⟩ ?_ main
   subst um
   refine (sE 1 1 0 rfl rfl).trans (aU ?_)
   simp [lk,aQ,qL]
  ·rw [ho] at ht
   have e1:((n:Int) == 0)=false:=by rw [Bool.eq_false_iff];simp;omega
   have w1:IntKind.i64.wrap ((n:Int) - 1)=((n - 1:Nat):Int):=by rw [wrap_i64 (by omega) (by omega)];omega
   have hx:=vq hh
   have q6:=LU (l[n - 1]'hh)
   have q5:=yx (l[n - 1]'hh)
   have q4:=Bb (l[n - 1]'hh)
   rw [← um] at q5 q6
   generalize l[n - 1]'hh=cc at *
   have bC:=ht;repeat' (first | (simp -implicitDefEqProofs only [go_sem,Int.reduceNegSucc,hl,e1,w1,hx,q6,q5,q4,ho,List.length_drop]) | (with_reducible refine aA ?_) | (with_reducible first | refine ag bC ?_ | refine ah bC ?_) | ((first | refine aj (fun hg=>?_) (fun hg=>?_) | refine ax (fun hg=>?_) (fun hg=>?_) | refine ay (fun hg=>?_) (fun hg=>?_)) <;> try simp -implicitDefEqProofs only [hg,Bool.not_true,Bool.not_false]) | ((with_reducible apply And.intro);focus (first | trivial | omega | decide | (simp -implicitDefEqProofs only [maxLen];omega) | (simp [maxLen,af,ak,an,av,ai,au,aq] <;> omega) | (omega;done))) | fail)
   refine fG (qL l n) (Ag A) (Dr l o n) (fun q=>n - q.1) (0,0,⟨0,0⟩,⟨0,0⟩,[]) ⟨Nat.zero_le _,rfl,yU⟩ ?_ main
   subst um
   refine (sE 1 1 0 rfl rfl).trans (aU ?_)
   simp [lk,aQ,qL]
 ·clear FB ht
  intro q hq K' hN hX hR
  obtain ⟨k,e,t,c,ys⟩:=q
  obtain ⟨fH,hk2,gq⟩:=hq
  unfold qL Ag
  dsimp only at fH hk2 gq ⊢
  have ku:ys.length=k:=by rw [hk2];simp
  simp -implicitDefEqProofs only [rG,si,Pl.cells,qN,go_sem,Int.reduceNegSucc]
  refine aj (fun hg=>?_) (fun hg=>?_)
  ·have aD:k<n:=by simp at hg;omega
   have gX:k<l.length:=by omega
   have wu:=cw (k:=k) (by omega)
   have hx:=vq gX
   have hs:=KC gq (by rw [hn];exact aD) gX
   have fE:=ai ys
   have iR:(aN ys).take k=aN ys:=List.take_of_length_le (by omega)
   have j1:=uU t l[k].top
   generalize l[k]=x at *
   have r1:=Eo x
   have r2:=Ep x
   have r3:=Es x
   have r4:=Er x
   have r5:=yx x
   have r6:=Bb x
   have vU:(ys++[(0:Int)]).length=ys.length+1:=by simp
   simp -implicitDefEqProofs only [Su.sv,Su.cells,List.map_cons,List.map_nil] at j1
   cases lS:x.through with
   | true=>
     rw [lS] at r5
     simp -implicitDefEqProofs only [lS,if_true] at hs
     have bI:=j1;repeat' (first | (simp -implicitDefEqProofs only [go_sem,Int.reduceNegSucc,hl,hx,r1,r2,r3,r4,r5,r6,ku,fE,iR,mu,List.length_drop,wu]) | (with_reducible refine aA ?_) | (with_reducible first | refine ag bI ?_ | refine ah bI ?_) | ((first | refine aj (fun hg=>?_) (fun hg=>?_) | refine ax (fun hg=>?_) (fun hg=>?_) | refine ay (fun hg=>?_) (fun hg=>?_)) <;> try simp -implicitDefEqProofs only [hg,Bool.not_true,Bool.not_false]) | ((with_reducible apply And.intro);focus (first | trivial | omega | decide | (simp -implicitDefEqProofs only [maxLen];omega) | (simp [maxLen,af,ak,an,av,ai,au,aq] <;> omega) | (omega;done))) | fail)
     exact hN (k+1,e,fR t x.top,c,ys++[0]) _ _ ⟨by dsimp only;omega,by simp [hk2,List.replicate_succ'],hs⟩ (by dsimp only;omega) (nj (h':=[some (.var qN),some (rG 2 (k+1) ⟨e,fR t x.top,c,A⟩),some (si (k+1) (ys++[0]))]) (Nat.zero_le _) ⟨Az,⟨jw.2 (by simp),jG⟩,jd,trivial⟩ (by simp [qL,iC,lk,jH,lP]))
   | false=>
     rw [lS] at r5
     simp -implicitDefEqProofs only [lS,Bool.false_eq_true,if_false] at hs
     have bK:=j1;repeat' (first | (simp -implicitDefEqProofs only [go_sem,Int.reduceNegSucc,hl,hx,r1,r2,r3,r4,r5,r6,ku,fE,iR,mu,List.length_drop,wu]) | (with_reducible refine aA ?_) | (with_reducible first | refine ag bK ?_ | refine ah bK ?_) | ((first | refine aj (fun hg=>?_) (fun hg=>?_) | refine ax (fun hg=>?_) (fun hg=>?_) | refine ay (fun hg=>?_) (fun hg=>?_)) <;> try simp -implicitDefEqProofs only [hg,Bool.not_true,Bool.not_false]) | ((with_reducible apply And.intro);focus (first | trivial | omega | decide | (simp -implicitDefEqProofs only [maxLen];omega) | (simp [maxLen,af,ak,an,av,ai,au,aq] <;> omega) | (omega;done))) | fail)
     exact hN (k+1,x.high,fR t x.top,x.bottom,ys++[0]) _ _ ⟨by dsimp only;omega,by simp [hk2,List.replicate_succ'],hs⟩ (by dsimp only;omega) (nj (h':=[some (.var qN),some (rG 2 (k+1) ⟨x.high,fR t x.top,x.bottom,A⟩),some (si (k+1) (ys++[0]))]) (Nat.zero_le _) ⟨Az,⟨jw.2 (by simp),jG⟩,jd,trivial⟩ (by simp [qL,iC,lk,jH,lP]))
  ·have aD:k=n:=by simp at hg;omega
   subst aD
   simp -implicitDefEqProofs only [go_sem,Int.reduceNegSucc]
   refine hX _ _ _ ?_
   clear hN hX hR
   have hf:=jO e
   cases hfe:bT e with
   | false=>
     rw [hfe] at hf
     have hnone:ju l o=none:=by rw [← gq.1,if_neg (by rw [hfe];simp)]
     rw [hnone] at hK
     have bM:=hf;repeat' (first | (simp -implicitDefEqProofs only [go_sem,Int.reduceNegSucc]) | (with_reducible refine aA ?_) | (with_reducible first | refine ag bM ?_ | refine ah bM ?_) | ((first | refine aj (fun hg=>?_) (fun hg=>?_) | refine ax (fun hg=>?_) (fun hg=>?_) | refine ay (fun hg=>?_) (fun hg=>?_)) <;> try simp -implicitDefEqProofs only [hg,Bool.not_true,Bool.not_false]) | ((with_reducible apply And.intro);focus (first | trivial | omega | decide | (simp -implicitDefEqProofs only [maxLen];omega) | (simp [maxLen,af,ak,an,av,ai,au,aq] <;> omega))) | fail)
     refine (hK _ _ _ _ [] (gk _ _) ?_).2
     simp [gw,bQ,newL,gB,gn,aT,aS,lk,bf,fJ,fU,fN,gL,gK,aB,gx,bl,aG,ga,gz,gS,aH,gR,aF,gd,fL,gE,lB,jZ,Pl.cells,aH,aF]
   | true=>
     rw [hfe] at hf
     have h2:=hT gq hfe
     rw [← hk2] at h2
     clear gq hk2 yU hT
     have bN:=hf;repeat' (first | (simp -implicitDefEqProofs only [go_sem,Int.reduceNegSucc]) | (with_reducible refine aA ?_) | (with_reducible first | refine ag bN ?_ | refine ah bN ?_) | ((first | refine aj (fun hg=>?_) (fun hg=>?_) | refine ax (fun hg=>?_) (fun hg=>?_) | refine ay (fun hg=>?_) (fun hg=>?_)) <;> try simp -implicitDefEqProofs only [hg,Bool.not_true,Bool.not_false]) | ((with_reducible apply And.intro);focus (first | trivial | omega | decide | (simp -implicitDefEqProofs only [maxLen];omega) | (simp [maxLen,af,ak,an,av,ai,au,aq] <;> omega))) | fail)
     refine fG (ι:=Nat×Pl×List Int) (fun q=>[(9,.rv (.int .i64 q.1)),(7,.ptr 1 0),(0,.rv (.sl 8 (gD l))),(4,.ptr 0 0)]) (fun q=>[some (.var qN),some (rG 2 q.1 q.2.1),some (si q.1 q.2.2)])
      (fun q=>T2 l o q.1 q.2.1 q.2.2) (fun q=>l.length - q.1) (k,⟨e,t,c,A⟩,ys) h2 (aU (by simp [lk])) (fun q hq K' hN hX hR=>?_)
     clear h2
     obtain ⟨i,p,zs⟩:=q
     obtain ⟨hi1,hi2,jV,hi4⟩:=hq
     dsimp only at hi1 hi2 jV hi4 ⊢
     simp -implicitDefEqProofs only [rG,si,Pl.cells,qN,go_sem,Int.reduceNegSucc]
     refine aj (fun hg=>?_) (fun hg=>?_)
     ·have gX:i<l.length:=by simp at hg;omega
      have wu:=cw (k:=i) (by omega)
      have hx:=vq gX
      have wk:p.lM=false:=by
       cases hp:p.lM
       ·rfl
       ·have:=hi4 hp;omega
      have fE:=ai zs
      have iR:(aN zs).take i=aN zs:=List.take_of_length_le (by omega)
      rw [List.drop_eq_getElem_cons gX,oq] at jV
      generalize l[i]=x at *
      have r0:=LS x
      have r1:=Eo x
      have r2:=Ep x
      have r3:=Es x
      have r4:=Er x
      have r5:=yx x
      have r6:=Bb x
      have r7:=LR x
      have r8:=LP x
      have s0:=LQ x
      have s1:=LM x
      have s2:=LN x
      have s3:=Et x
      have s4:=LO x
      have j1:=uU p.cur (mE x)
      have j2:=uU p.cur x.top
      have v1:=xm (fR p.cur (mE x))
      have u1:=fun id=>uT id [p.iD,iQ (fR p.cur (mE x))] (by simp)
      have u2:=fun id=>uT id [cq [p.iD,iQ (fR p.cur (mE x))],x.high] (by simp)
      simp -implicitDefEqProofs only [tF,qK,oh,wk,Bool.false_eq_true,if_false] at jV
      simp -implicitDefEqProofs only [lT,Su.sv,Su.cells,List.map_cons,List.map_nil,List.length_cons,List.length_nil,Nat.reduceAdd] at j1 j2 v1 u1 u2
      cases lS:x.through with
      | true=>
        rw [lS] at s3 jV r5
        simp -implicitDefEqProofs only [mE,lS,if_true] at j1 j2 v1 u1 u2 jV
        cases vY:nG (fR p.cur x.inner) <;> cases vZ:fV [p.iD,iQ (fR p.cur x.inner)] <;> rw [vY] at v1 jV <;> rw [vZ] at u1 jV <;> simp -implicitDefEqProofs only [Bool.and_self,Bool.false_and,Bool.and_false,Bool.true_and,Bool.true_or,Bool.and_true,Bool.false_eq_true,if_false,if_true] at jV
        case true.true=>
         have bR:=j1;have bZ:=v1;have cm:=u1;have fT:=j2;repeat' (first | (simp -implicitDefEqProofs only [go_sem,Int.reduceNegSucc,wk,hl,hx,r0,r1,r2,r3,r4,r5,r6,r7,r8,s0,s1,s2,s3,s4,fE,iR,mu,List.length_drop,List.length_map,List.append_nil,wu]) | (with_reducible refine aA ?_) | (with_reducible first | refine ag bR ?_ | refine ah bR ?_) | (with_reducible first | refine ag bZ ?_ | refine ah bZ ?_) | ((first | refine bS (cm _) ?_ ?_ ?_ | refine bV (cm _) ?_ ?_ ?_ | fail);(focus (simp [aR,aB] <;> fail));(focus (simp [aV,aQ] <;> fail))) | (with_reducible first | refine ag fT ?_ | refine ah fT ?_) | ((first | refine aj (fun hg=>?_) (fun hg=>?_) | refine ax (fun hg=>?_) (fun hg=>?_) | refine ay (fun hg=>?_) (fun hg=>?_)) <;> try simp -implicitDefEqProofs only [hg,Bool.not_true,Bool.not_false]) | ((with_reducible apply And.intro);focus (first | trivial | omega | decide | (simp -implicitDefEqProofs only [maxLen];omega) | (simp [maxLen,af,ak,an,av,ai,au,aq] <;> omega) | (omega;done))) | fail)
         exact hN (i+1,⟨p.iD,p.top,fR p.cur x.top,false⟩,zs++[cq [p.iD,iQ (fR p.cur x.inner)]]) _ _ ⟨gX,by simp [hi2],jV,fun h=>by cases h⟩ (by dsimp only;omega) (nj (h':=[some (.var qN),some (rG 2 (i+1) ⟨p.iD,p.top,fR p.cur x.top,false⟩),some (si (i+1) (zs++[cq [p.iD,iQ (fR p.cur x.inner)]]))]) (Nat.zero_le _) ⟨Az,⟨jw.2 (by simp),jG⟩,jd,trivial⟩ (by simp [iC,lk,jH,lP]))
        all_goals
         have gO:=j1;have ie:=v1;have ig:=u1;have ij:=j2;repeat' (first | (simp -implicitDefEqProofs only [go_sem,Int.reduceNegSucc,wk,hl,hx,r0,r1,r2,r3,r4,r5,r6,r7,r8,s0,s1,s2,s3,s4,fE,iR,mu,List.length_drop,List.length_map,List.append_nil,wu]) | (with_reducible refine aA ?_) | (with_reducible first | refine ag gO ?_ | refine ah gO ?_) | (with_reducible first | refine ag ie ?_ | refine ah ie ?_) | ((first | refine bS (ig _) ?_ ?_ ?_ | refine bV (ig _) ?_ ?_ ?_ | fail);(focus (simp [aR,aB] <;> fail));(focus (simp [aV,aQ] <;> fail))) | (with_reducible first | refine ag ij ?_ | refine ah ij ?_) | ((first | refine aj (fun hg=>?_) (fun hg=>?_) | refine ax (fun hg=>?_) (fun hg=>?_) | refine ay (fun hg=>?_) (fun hg=>?_)) <;> try simp -implicitDefEqProofs only [hg,Bool.not_true,Bool.not_false]) | ((with_reducible apply And.intro);focus (first | trivial | omega | decide | (simp -implicitDefEqProofs only [maxLen];omega) | (simp [maxLen,af,ak,an,av,ai,au,aq] <;> omega) | (omega;done))) | fail)
         refine hR _ _ (hK _ _ _ _ [] (gk _ _) ?_).2
         rw [← jV]
         simp [gw,bQ,newL,gB,gn,aT,aS,lk,bf,fJ,fU,fN,gL,gK,aB,gx,bl,aG,ga,gz,gS,aH,gR,aF,gd,fL,gE,lB,jZ,Pl.cells,aH,aF]
      | false=>
        rw [lS] at s3 jV r5
        simp -implicitDefEqProofs only [mE,lS,Bool.false_eq_true,if_false] at j1 j2 v1 u1 u2 jV
        cases vY:nG (fR p.cur x.top) <;> cases vZ:fV [p.iD,iQ (fR p.cur x.top)] <;> cases we:fV [cq [p.iD,iQ (fR p.cur x.top)],x.high] <;> rw [vY] at v1 jV <;> rw [vZ] at u1 jV <;> rw [we] at u2 jV <;> simp -implicitDefEqProofs only [Bool.and_self,Bool.false_and,Bool.and_false,Bool.true_and,Bool.true_or,Bool.and_true,Bool.false_or,Bool.false_eq_true,if_false,if_true] at jV
        case true.true.true=>
         have iq:=j1;have ir:=v1;have iu:=u1;have iT:=u2;repeat' (first | (simp -implicitDefEqProofs only [go_sem,Int.reduceNegSucc,wk,hl,hx,r0,r1,r2,r3,r4,r5,r6,r7,r8,s0,s1,s2,s3,s4,fE,iR,mu,List.length_drop,List.length_map,List.append_nil,wu]) | (with_reducible refine aA ?_) | (with_reducible first | refine ag iq ?_ | refine ah iq ?_) | (with_reducible first | refine ag ir ?_ | refine ah ir ?_) | ((first | refine bS (iu _) ?_ ?_ ?_ | refine bV (iu _) ?_ ?_ ?_ | fail);(focus (simp [aR,aB] <;> fail));(focus (simp [aV,aQ] <;> fail))) | ((first | refine bS (iT _) ?_ ?_ ?_ | refine bV (iT _) ?_ ?_ ?_ | fail);(focus (simp [aR,aB] <;> fail));(focus (simp [aV,aQ] <;> fail))) | ((first | refine aj (fun hg=>?_) (fun hg=>?_) | refine ax (fun hg=>?_) (fun hg=>?_) | refine ay (fun hg=>?_) (fun hg=>?_)) <;> try simp -implicitDefEqProofs only [hg,Bool.not_true,Bool.not_false]) | ((with_reducible apply And.intro);focus (first | trivial | omega | decide | (simp -implicitDefEqProofs only [maxLen];omega) | (simp [maxLen,af,ak,an,av,ai,au,aq] <;> omega) | (omega;done))) | fail)
         exact hN (i+1,⟨cq [cq [p.iD,iQ (fR p.cur x.top)],x.high],p.top,x.bottom,false⟩,zs++[cq [p.iD,iQ (fR p.cur x.top)]]) _ _ ⟨gX,by simp [hi2],jV,fun h=>by cases h⟩ (by dsimp only;omega) (nj (h':=[some (.var qN),some (rG 2 (i+1) ⟨cq [cq [p.iD,iQ (fR p.cur x.top)],x.high],p.top,x.bottom,false⟩),some (si (i+1) (zs++[cq [p.iD,iQ (fR p.cur x.top)]]))]) (Nat.zero_le _) ⟨Az,⟨jw.2 (by simp),jG⟩,jd,trivial⟩ (by simp [iC,lk,jH,lP]))
        all_goals
         have iU:=j1;have ke:=v1;have mW:=u1;have mX:=u2;repeat' (first | (simp -implicitDefEqProofs only [go_sem,Int.reduceNegSucc,wk,hl,hx,r0,r1,r2,r3,r4,r5,r6,r7,r8,s0,s1,s2,s3,s4,fE,iR,mu,List.length_drop,List.length_map,List.append_nil,wu]) | (with_reducible refine aA ?_) | (with_reducible first | refine ag iU ?_ | refine ah iU ?_) | (with_reducible first | refine ag ke ?_ | refine ah ke ?_) | ((first | refine bS (mW _) ?_ ?_ ?_ | refine bV (mW _) ?_ ?_ ?_ | fail);(focus (simp [aR,aB] <;> fail));(focus (simp [aV,aQ] <;> fail))) | ((first | refine bS (mX _) ?_ ?_ ?_ | refine bV (mX _) ?_ ?_ ?_ | fail);(focus (simp [aR,aB] <;> fail));(focus (simp [aV,aQ] <;> fail))) | ((first | refine aj (fun hg=>?_) (fun hg=>?_) | refine ax (fun hg=>?_) (fun hg=>?_) | refine ay (fun hg=>?_) (fun hg=>?_)) <;> try simp -implicitDefEqProofs only [hg,Bool.not_true,Bool.not_false]) | ((with_reducible apply And.intro);focus (first | trivial | omega | decide | (simp -implicitDefEqProofs only [maxLen];omega) | (simp [maxLen,af,ak,an,av,ai,au,aq] <;> omega) | (omega;done))) | fail)
         refine hR _ _ (hK _ _ _ _ [] (gk _ _) ?_).2
         rw [← jV]
         simp [gw,bQ,newL,gB,gn,aT,aS,lk,bf,fJ,fU,fN,gL,gK,aB,gx,bl,aG,ga,gz,gS,aH,gR,aF,gd,fL,gE,lB,jZ,Pl.cells,aH,aF]
     ·have aD:i=l.length:=by simp at hg;omega
      subst aD
      simp -implicitDefEqProofs only [go_sem,Int.reduceNegSucc]
      refine hX _ _ _ ?_
      rw [List.drop_length,oq] at jV
      repeat' (first | (simp -implicitDefEqProofs only [go_sem,Int.reduceNegSucc]) | (with_reducible refine aA ?_) | ((first | refine aj (fun hg=>?_) (fun hg=>?_) | refine ax (fun hg=>?_) (fun hg=>?_) | refine ay (fun hg=>?_) (fun hg=>?_)) <;> try simp -implicitDefEqProofs only [hg,Bool.not_true,Bool.not_false]) | ((with_reducible apply And.intro);focus (first | trivial | omega | decide | (simp -implicitDefEqProofs only [maxLen];omega) | (simp [maxLen,af,ak,an,av,ai,au,aq] <;> omega))) | fail)
      refine (hK _ _ _ _ [none,none,some m] (gk _ _) ?_).2
      rw [← jV]
      simp [gw,bQ,newL,gB,gn,aT,aS,lk,bf,fJ,fU,fN,gL,gK,aB,gx,bl,aG,ga,gz,gS,aH,gR,aF,gd,fL,gE,lB,jZ,Pl.cells,lG,aH,aF,hi2]
end Go.aJ

namespace Go.aJ
open Go
theorem QV:aX Go.Proofs.Tryz.prog 117 28 (fc Go.Proofs.Tryz.prog 117 28 [(.t 6)]) [(.t 6)]:=br (by kernel_rfl)
theorem QU:aX Go.Proofs.Tryz.prog 96 59 (fc Go.Proofs.Tryz.prog 96 59 [(.c 8 8 true)]) [(.c 8 8 true)]:=br (by kernel_rfl)
abbrev Ed.sv (e:Ed):SV:=.agg (e.cells.map .rv)
def nK (e:Ed):List Int:=[e.bE.d,e.pad.d.n,e.pad.b.n,e.bE.b]
def jQ (e:Ed):List Int:=[e.bE.a,e.pad.a.n,e.pad.c.n,e.bE.c]
theorem UW (e:Ed):aL Go.Proofs.Tryz.prog 62 [e.sv,.rv (.int .i64 3),.rv (.int .i64 1)] [] [] (.aO [.rv (.int .i64 (cq (nK e))),.rv (.bool (fV (nK e)))]):=by
 refine bz GI [e.sv,.rv (.int .i64 3),.rv (.int .i64 1)] _ (by simp) (by simp [aP,bg,bu,aY,bq,aC.sv,Ln.sv,Nd.sv]) (fun K hK=>?_)
 have h:=fun id=>tI id (nK e) (by simp [nK])
 simp -implicitDefEqProofs only [lT,nK,List.map_cons,List.map_nil,List.length_cons,List.length_nil,Nat.reduceAdd] at h hK
 conv in fc _ _ _ _=>reduce
 simp -implicitDefEqProofs only [Ed.sv,Ed.cells,Q4.iG,Q4.ints,go_sem,Int.reduceNegSucc]
 have bh:=h;repeat' (first | (simp -implicitDefEqProofs only [go_sem,Int.reduceNegSucc]) | (with_reducible refine aA ?_) | ((first | refine bS (bh _) ?_ ?_ ?_ | refine bV (bh _) ?_ ?_ ?_ | fail);(focus (simp [aR,aB] <;> fail));(focus (simp [aV,aQ] <;> fail))) | ((first | refine aj (fun hg=>?_) (fun hg=>?_) | refine ax (fun hg=>?_) (fun hg=>?_) | refine ay (fun hg=>?_) (fun hg=>?_)) <;> try simp -implicitDefEqProofs only [hg,Bool.not_true,Bool.not_false]) | ((with_reducible apply And.intro);focus (first | trivial | omega | decide | (simp -implicitDefEqProofs only [maxLen];omega) | (simp [maxLen,af,ak,an,av,ai,au,aq] <;> omega))) | fail)
 exact (hK _ _ (gM rfl rfl)).2
theorem UU (e:Ed):aL Go.Proofs.Tryz.prog 62 [e.sv,.rv (.int .i64 0),.rv (.int .i64 2)] [] [] (.aO [.rv (.int .i64 (cq (jQ e))),.rv (.bool (fV (jQ e)))]):=by
 refine bz GI [e.sv,.rv (.int .i64 0),.rv (.int .i64 2)] _ (by simp) (by simp [aP,bg,bu,aY,bq,aC.sv,Ln.sv,Nd.sv]) (fun K hK=>?_)
 have h:=fun id=>tI id (jQ e) (by simp [jQ])
 simp -implicitDefEqProofs only [lT,jQ,List.map_cons,List.map_nil,List.length_cons,List.length_nil,Nat.reduceAdd] at h hK
 conv in fc _ _ _ _=>reduce
 simp -implicitDefEqProofs only [Ed.sv,Ed.cells,Q4.iG,Q4.ints,go_sem,Int.reduceNegSucc]
 have y_2:=h;repeat' (first | (simp -implicitDefEqProofs only [go_sem,Int.reduceNegSucc]) | (with_reducible refine aA ?_) | ((first | refine bS (y_2 _) ?_ ?_ ?_ | refine bV (y_2 _) ?_ ?_ ?_ | fail);(focus (simp [aR,aB] <;> fail));(focus (simp [aV,aQ] <;> fail))) | ((first | refine aj (fun hg=>?_) (fun hg=>?_) | refine ax (fun hg=>?_) (fun hg=>?_) | refine ay (fun hg=>?_) (fun hg=>?_)) <;> try simp -implicitDefEqProofs only [hg,Bool.not_true,Bool.not_false]) | ((with_reducible apply And.intro);focus (first | trivial | omega | decide | (simp -implicitDefEqProofs only [maxLen];omega) | (simp [maxLen,af,ak,an,av,ai,au,aq] <;> omega))) | fail)
 exact (hK _ _ (gM rfl rfl)).2
def xy (e:Ed) (kids:Nat) (p:Pl):Bool:=e.flat && if kids=0 then e.high.auto || (e.high.n == 0) else e.high.auto && p.lM
def mo (y:RV) (p:Pl):List RV:=y::p.cells
theorem VS (e:Ed) (kids:Nat) (y:RV) (p:Pl):aL Go.Proofs.Tryz.prog 117 [e.sv,.rv (.int .i64 kids),.agg ((mo y p).map .rv)] [] [] (.rv (.bool (xy e kids p))):=by
 refine bz QV [e.sv,.rv (.int .i64 kids),.agg ((mo y p).map .rv)] _ (by simp) (by simp [aP,bg,bu,aY,bq,aC.sv,Ln.sv,Nd.sv]) (fun K hK=>?_)
 have hk:((kids:Int) == 0)=decide (kids=0):=by rw [Bool.eq_iff_iff];simp
 simp -implicitDefEqProofs only [xy] at hK
 conv in fc _ _ _ _=>reduce
 simp -implicitDefEqProofs only [Ed.sv,Ed.cells,mo,Pl.cells,Q4.iG,Q4.ints,go_sem,Int.reduceNegSucc]
 by_cases h0:kids=0 <;> simp -implicitDefEqProofs only [h0,decide_true,decide_false] at hk
 all_goals ((repeat' (first | (simp -implicitDefEqProofs only [go_sem,Int.reduceNegSucc,hk]) | (with_reducible refine aA ?_) | ((first | refine aj (fun hg=>?_) (fun hg=>?_) | refine ax (fun hg=>?_) (fun hg=>?_) | refine ay (fun hg=>?_) (fun hg=>?_)) <;> try simp -implicitDefEqProofs only [hg,Bool.not_true,Bool.not_false]) | ((with_reducible apply And.intro);focus (first | trivial | omega | decide | (simp -implicitDefEqProofs only [maxLen];omega) | (simp [maxLen,af,ak,an,av,ai,au,aq] <;> omega))) | fail)))
 all_goals (refine (hK _ _ (bU ?_)).2;clear hK;simp_all [lk])
def qo (e:Ed) (kids:Nat) (p:Pl) (high:Int):Ch:=
 let b:Su:=⟨max (bk e.bA.c 0) 0,min (bk e.bA.c 0) 0⟩
 let i:=fR ⟨max (bk e.bA.a 0) 0,min (bk e.bA.a 0) 0⟩ p.top
 if xy e kids p=true then ⟨fR i b,fR i b,i,true,high⟩
 else ⟨i,if e.lW=true∧0<kids then fR b p.cur else b,i,false,high⟩
theorem UZ (e:Ed) (kids:Nat) (y:RV) (p:Pl) (high:Int):aL Go.Proofs.Tryz.prog 96 [e.sv,.rv (.int .i64 kids),.agg ((mo y p).map .rv),.rv (.int .i64 high)] [] [] (.agg ((qo e kids p high).cells.map .rv)):=by
 refine bz QU [e.sv,.rv (.int .i64 kids),.agg ((mo y p).map .rv),.rv (.int .i64 high)] _ (by simp) (by simp [aP,bg,bu,aY,bq,aC.sv,Ln.sv,Nd.sv]) (fun K hK=>?_)
 have o1:=nC e.bA.a 0
 have o2:=nC e.bA.c 0
 have s1:=Jg (bk e.bA.a 0)
 have s2:=Jg (bk e.bA.c 0)
 have ht:=VS e kids y p
 simp -implicitDefEqProofs only [qo] at hK
 generalize (⟨max (bk e.bA.a 0) 0,min (bk e.bA.a 0) 0⟩:Su)=A at *
 generalize (⟨max (bk e.bA.c 0) 0,min (bk e.bA.c 0) 0⟩:Su)=B at *
 have j1:=uV A p.top
 have j2:=uV (fR A p.top) B
 have j3:=uV B p.cur
 have hk:decide ((kids:Int)>0)=decide (0<kids):=by simp
 generalize xy e kids p=T at *
 generalize fR A p.top=I at *
 simp -implicitDefEqProofs only [Ed.sv,Ed.cells,mo,Pl.cells,Q4.iG,Q4.ints,Su.sv,Su.cells,Sz.sv,Sz.cells,List.map_cons,List.map_nil,List.cons_append,List.nil_append] at o1 o2 s1 s2 ht j1 j2 j3
 conv in fc _ _ _ _=>reduce
 simp -implicitDefEqProofs only [Ed.sv,Ed.cells,mo,Pl.cells,Q4.iG,Q4.ints,go_sem,Int.reduceNegSucc]
 cases T <;> simp -implicitDefEqProofs only [Bool.false_eq_true,if_true,if_false] at hK ⊢
 all_goals ((have bC:=o1;have bI:=o2;have bK:=s1;have bM:=s2;have bN:=ht;have bR:=j1;have bZ:=j2;have cm:=j3;repeat' (first | (simp -implicitDefEqProofs only [go_sem,Int.reduceNegSucc,hk]) | (with_reducible refine aA ?_) | (with_reducible first | refine ag bC ?_ | refine ah bC ?_) | (with_reducible first | refine ag bI ?_ | refine ah bI ?_) | (with_reducible first | refine ag bK ?_ | refine ah bK ?_) | (with_reducible first | refine ag bM ?_ | refine ah bM ?_) | (with_reducible first | refine ag bN ?_ | refine ah bN ?_) | (with_reducible first | refine ag bR ?_ | refine ah bR ?_) | (with_reducible first | refine ag bZ ?_ | refine ah bZ ?_) | (with_reducible first | refine ag cm ?_ | refine ah cm ?_) | ((first | refine aj (fun hg=>?_) (fun hg=>?_) | refine ax (fun hg=>?_) (fun hg=>?_) | refine ay (fun hg=>?_) (fun hg=>?_)) <;> try simp -implicitDefEqProofs only [hg,Bool.not_true,Bool.not_false]) | ((with_reducible apply And.intro);focus (first | trivial | omega | decide | (simp -implicitDefEqProofs only [maxLen];omega) | (simp [maxLen,af,ak,an,av,ai,au,aq] <;> omega))) | fail)))
 all_goals (refine (hK _ _ ?_).2;clear hK;simp -implicitDefEqProofs only [go_sem,Int.reduceNegSucc,aS,aT,bf,bl,aH,aG,aF,Ch.cells] <;>(try simp_all [-Int.not_lt,-Int.not_le,aH,aG,aF,bF,Ch.cells]) <;> try omega)
end Go.aJ

namespace Go.aJ
open Go
theorem QW:aX Go.Proofs.Tryz.prog 67 130 (fc Go.Proofs.Tryz.prog 67 130 [(.c 8 25 true),(.c 9 9 true),(.t 10)]) [(.c 8 25 true),(.c 9 9 true),(.t 10)]:=br (by kernel_rfl)
theorem QS:aX Go.Proofs.Tryz.prog 30 116 (fc Go.Proofs.Tryz.prog 30 116 [(.c 10 25 true),(.c 11 9 true),(.t 12)]) [(.c 10 25 true),(.c 11 9 true),(.t 12)]:=br (by kernel_rfl)
structure Fm where
 x:Int
 y:Int
 w:Int
 h:Int
 bA:Q4 Int
 pad:Q4 Int
 bE:Q4 Int
 known:Bool
 child:Ch
 deriving DecidableEq,Inhabited
def Fm.cells (f:Fm):List RV:=[.int .i64 f.x,.int .i64 f.y,.int .i64 f.w,.int .i64 f.h]++f.bA.ints++f.pad.ints++f.bE.ints++(.bool f.known::f.child.cells)
structure La where
 L:List (Nat×Fm)
 p:Pl
 ys:List Int
 high:Int
 deriving DecidableEq,Inhabited
def jM (q:Nat×Fm):List RV:=.int .i64 q.1::q.2.cells
def gj (L:List (Nat×Fm)):List (List RV):=L.map jM
def bG:Option La→List RV
 | some t=>.sl 26 (gj t.L) :: .sl 1 (aN t.ys)::(t.p.cells++[.int .i64 t.high])
 | none=>[.cv,.cv,.int .i64 0,.int .i64 0,.int .i64 0,.int .i64 0,.int .i64 0,.bool false,.int .i64 0]
def cz:Option Fm→List RV
 | some f=>f.cells
 | none=>[.int .i64 0,.int .i64 0,.int .i64 0,.int .i64 0,.int .i64 0,.int .i64 0,.int .i64 0,.int .i64 0,.int .i64 0,.int .i64 0,.int .i64 0,.int .i64 0,.int .i64 0,.int .i64 0,.int .i64 0,.int .i64 0,.bool false,.int .i64 0,.int .i64 0,.int .i64 0,.int .i64 0,.int .i64 0,.int .i64 0,.bool false,.int .i64 0]
abbrev lO (r:Option (Fm×La)):SV:=.aO [.agg ((cz (r.map (·.1))).map .rv),.agg ((bG (r.map (·.2))).map .rv),.rv (.bool r.isSome)]
def mO (e:Ed):Sz:=if e.high.auto=true then e.high else ⟨false,jR e.high.n e.least e.most⟩
def pW (e:Ed) (t:La):Int:=if e.high.auto=true then jR t.high e.least e.most else jR e.high.n e.least e.most
def uj (e:Ed) (x:Ao) (kids:Nat) (t:La):Fm:=
 ⟨x.l,0,x.w,pW e t,⟨bk e.bA.a 0,x.r,bk e.bA.c 0,x.l⟩,⟨e.pad.a.n,e.pad.b.n,e.pad.c.n,e.pad.d.n⟩,e.bE,!e.high.auto,qo e kids t.p (cq [cq (jQ e),pW e t])⟩
def pQ (e:Ed) (x:Ao) (kids:Nat) (r:Option La×Bool):Option (Fm×La):=if r.2=true then r.1.bind fun t=>if fV (jQ e)=true∧fV [cq (jQ e),pW e t]=true then some (uj e x kids t,t) else none else none
theorem Vc (l:List Nd) (hb:l.length≤8589934592) (n:Int) (e:Ed) (x:Ao) (r:Option La×Bool) (hr:r.2=true→r.1.isSome=true)
 (hI:aL Go.Proofs.Tryz.prog 49 [.rv (cu l),.rv (.int .i64 n),.rv (.int .i64 x.w),(mO e).sv,e.sv,.rv (.int .i64 (-1))] [] [] (.aO [.agg ((bG r.1).map .rv),.rv (.bool r.2)])) :
 aL Go.Proofs.Tryz.prog 67 [.rv (cu l),.rv (.int .i64 n),e.sv,.agg (x.cells.map .rv)] [] [] (lO (pQ e x (bn l n).length r)):=by
 refine bz QW [.rv (cu l),.rv (.int .i64 n),e.sv,.agg (x.cells.map .rv)] _ (by simp) (by simp [aP,bg,bu,aY,bq,aC.sv,Ln.sv,Nd.sv]) (fun K hK=>?_)
 obtain ⟨o,ok⟩:=r
 have hc:=IT e.high.n e.least e.most
 have hf:=IK l n hb
 have hfl:=zK (bn l n)
 have o1:=nC e.bA.a 0
 have o2:=nC e.bA.c 0
 have ha:=UU e
 cases ok with
 | false=>
   have e1:pQ e x (bn l n).length (o,false)=none:=rfl
   rw [e1] at hK
   obtain ⟨u,hu,oO⟩:∃ u,bG o=u∧u.length=9:=⟨_,rfl,by cases o <;> rfl⟩
   rw [hu] at hI
   have q1:(u.map SV.rv).length=9:=by simp [oO]
   have q2:(u.map SV.rv).drop 9=[]:=List.drop_of_length_le (by omega)
   have q3:(u.map SV.rv).take 9=u.map SV.rv:=List.take_of_length_le (by omega)
   simp -implicitDefEqProofs only [mO] at hI
   simp -implicitDefEqProofs only [Ed.sv,Ed.cells,Q4.iG,Q4.ints,Sz.sv,Sz.cells,List.map_cons,List.map_nil,List.cons_append,List.nil_append] at hI
   conv in fc _ _ _ _=>reduce
   simp -implicitDefEqProofs only [Ed.sv,Ed.cells,Q4.iG,Q4.ints,Ao.cells,go_sem,Int.reduceNegSucc]
   cases hh:e.high.auto <;> simp -implicitDefEqProofs only [hh,Bool.false_eq_true,if_true,if_false] at hI ⊢
   all_goals ((have bh:=hc;have y_2:=hI;repeat' (first | (simp -implicitDefEqProofs only [go_sem,Int.reduceNegSucc,oO,q2,q3,List.length_map,List.append_nil]) | (with_reducible refine aA ?_) | (with_reducible first | refine ag bh ?_ | refine ah bh ?_) | (with_reducible first | refine ag y_2 ?_ | refine ah y_2 ?_) | ((first | refine aj (fun hg=>?_) (fun hg=>?_) | refine ax (fun hg=>?_) (fun hg=>?_) | refine ay (fun hg=>?_) (fun hg=>?_)) <;> try simp -implicitDefEqProofs only [hg,Bool.not_true,Bool.not_false]) | ((with_reducible apply And.intro);focus (first | trivial | omega | decide | (simp -implicitDefEqProofs only [maxLen];omega) | (simp [maxLen,af,ak,an,av,ai,au,aq] <;> omega))) | fail)))
   all_goals (refine (hK _ _ ?_).2;simp -implicitDefEqProofs only [go_sem,Int.reduceNegSucc,aS,aT,bf,bl,aH,aG,aF,cz,bG,Option.map,Option.isSome])
 | true=>
   obtain ⟨t,rfl⟩:=Option.isSome_iff_exists.1 (hr rfl)
   have e1:pQ e x (bn l n).length (some t,true)=if fV (jQ e)=true∧fV [cq (jQ e),pW e t]=true then some (uj e x (bn l n).length t,t) else none:=rfl
   rw [e1] at hK
   have s1:=fun id=>tI id [cq (jQ e),pW e t] (by simp)
   have mc:=IT t.high e.least e.most
   have qx:=UZ e (bn l n).length (.sl 1 (aN t.ys)) t.p (cq [cq (jQ e),pW e t])
   simp -implicitDefEqProofs only [uj] at hK
   generalize qo e (bn l n).length t.p (cq [cq (jQ e),pW e t])=C at *
   generalize bk e.bA.a 0=O1 at *
   generalize bk e.bA.c 0=O2 at *
   generalize jQ e=A at *
   simp -implicitDefEqProofs only [mO,pW] at hI s1 qx hK
   simp -implicitDefEqProofs only [lT,bG,mo,Pl.cells,Ed.sv,Ed.cells,Q4.iG,Q4.ints,Sz.sv,Sz.cells,Ch.cells,List.map_cons,List.map_nil,List.cons_append,List.nil_append,List.length_cons,List.length_nil,Nat.reduceAdd] at hI qx ha o1 o2 s1
   conv in fc _ _ _ _=>reduce
   simp -implicitDefEqProofs only [Ed.sv,Ed.cells,Q4.iG,Q4.ints,Ao.cells,go_sem,Int.reduceNegSucc]
   cases hh:e.high.auto <;> simp -implicitDefEqProofs only [hh,Bool.false_eq_true,if_true,if_false] at hI ha s1 qx hK ⊢
   all_goals ((have bC:=hc;have bI:=mc;have bK:=hI;have bM:=ha;have bN:=s1;have bR:=o1;have bZ:=o2;repeat' (first | (simp -implicitDefEqProofs only [go_sem,Int.reduceNegSucc]) | (with_reducible refine aA ?_) | (with_reducible first | refine ag bC ?_ | refine ah bC ?_) | (with_reducible first | refine ag bI ?_ | refine ah bI ?_) | (with_reducible first | refine ag bK ?_ | refine ah bK ?_) | (with_reducible first | refine ag bM ?_ | refine ah bM ?_) | ((first | refine bS (bN _) ?_ ?_ ?_ | refine bV (bN _) ?_ ?_ ?_ | fail);(focus (simp [aR,aB] <;> fail));(focus (simp [aV,aQ] <;> fail))) | (with_reducible first | refine ag bR ?_ | refine ah bR ?_) | (with_reducible first | refine ag bZ ?_ | refine ah bZ ?_) | ((first | refine aj (fun hg=>?_) (fun hg=>?_) | refine ax (fun hg=>?_) (fun hg=>?_) | refine ay (fun hg=>?_) (fun hg=>?_)) <;> try simp -implicitDefEqProofs only [hg,Bool.not_true,Bool.not_false]) | ((with_reducible apply And.intro);focus (first | trivial | omega | decide | (simp -implicitDefEqProofs only [maxLen];omega) | (simp [maxLen,af,ak,an,av,ai,au,aq] <;> omega))) | fail)))
   all_goals first | (refine kK 5 ?_;(have cm:=hf;have fT:=qx;repeat' (first | (simp -implicitDefEqProofs only [go_sem,Int.reduceNegSucc,kO,kP,kQ,kR,kS,kT,kI,Int.reduceLT,decide_true,decide_false,Int.reduceToNat,Nat.reduceMul,hfl]) | (with_reducible refine aA ?_) | (with_reducible show G _ _ (It.l _ _::_) _ _ _;refine kJ ?_) | (with_reducible first | refine ag cm ?_ | refine ah cm ?_) | (with_reducible first | refine ag fT ?_ | refine ah fT ?_) | ((first | refine aj (fun hg=>?_) (fun hg=>?_) | refine ax (fun hg=>?_) (fun hg=>?_) | refine ay (fun hg=>?_) (fun hg=>?_)) <;> try simp -implicitDefEqProofs only [hg,Bool.not_true,Bool.not_false]) | ((with_reducible apply And.intro);focus (first | trivial | omega | decide | (simp -implicitDefEqProofs only [maxLen];omega) | (simp [maxLen,af,ak,an,av,ai,au,aq] <;> omega))) | fail))) | skip
   all_goals (refine (hK _ _ ?_).2;clear hK;simp -implicitDefEqProofs only [go_sem,Int.reduceNegSucc,aS,aT,bf,bl,aH,aG,aF,cz,bG,Fm.cells,Q4.ints,Ch.cells,Pl.cells,Option.map,Option.isSome] <;>(try simp_all [-Int.not_lt,-Int.not_le,aH,aG,aF,bF,cz,bG,Fm.cells,Q4.ints,Ch.cells,Pl.cells,Option.map,Option.isSome]) <;> try omega)
end Go.aJ

namespace Go.aJ
open Go
def cg (l:List Nd) (n:Int) (w:Int) (h:Sz):Ed:=vw (bJ l n) w h (decide (n=0) || (bJ l n).clip)
def okB (l:List Nd) (n:Int) (w:Int) (h:Sz):Bool:=sy (bJ l n) w h && fV (nK (cg l n w h)) && iy (bJ l n).width w true && iy (bJ l n).jA w true && iy (bJ l n).jz w true
def ow (l:List Nd) (n:Int) (w:Int) (h:Sz) (bO:Bool):Ai:=⟨w,(cg l n w h).bA.d,gf (bJ l n).width w true,(cg l n w h).bA.b,cq (nK (cg l n w h)),bO,bk (gf (bJ l n).jA w true) 0,bk (gf (bJ l n).jz w true) 1125899906842624⟩
def pN (l:List Nd) (ins:Ed→Ao→Option La×Bool) (n:Int) (w:Int) (h:Sz) (bO:Bool):Option (Fm×La):=
 if okB l n w h=true then (nI (ow l n w h bO)).bind fun x=>pQ (cg l n w h) x (bn l n).length (ins (cg l n w h) x) else none
theorem HG {x:Ln} {b d:Int} {has:Bool} (h:iy x b has=true) (hd:bT d=true):bT (bk (gf x b has) d)=true:=by
 unfold gf
 split
 ·simpa [bk] using hd
 ·split
  ·rename_i h1;simpa [bk] using h1.2
  ·split
   ·rename_i h1 h2 h3
    simp [h3] at h1
    simp [iy,h3,h1] at h
    simp -implicitDefEqProofs only [bk,Bool.false_eq_true,if_false,lY,h,if_true]
    unfold lA at h;simp at h;exact h.2
   ·rfl
theorem UY (l:List Nd) (hb:l.length≤8589934592) (n:Int) (w:Int) (h:Sz) (bO:Bool) (ins:Ed→Ao→Option La×Bool) (hr:∀ e x,(ins e x).2=true→(ins e x).1.isSome=true)
 (hI:∀ x:Ao,aL Go.Proofs.Tryz.prog 49 [.rv (cu l),.rv (.int .i64 n),.rv (.int .i64 x.w),(mO (cg l n w h)).sv,(cg l n w h).sv,.rv (.int .i64 (-1))] [] [] (.aO [.agg ((bG (ins (cg l n w h) x).1).map .rv),.rv (.bool (ins (cg l n w h) x).2)])) :
 aL Go.Proofs.Tryz.prog 30 [.rv (cu l),.rv (.int .i64 n),.rv (.int .i64 w),h.sv,.rv (.bool bO)] [] [] (lO (pN l ins n w h bO)):=by
 refine bz QS [.rv (cu l),.rv (.int .i64 n),.rv (.int .i64 w),h.sv,.rv (.bool bO)] _ (by simp) (by simp [aP,bg,bu,aY,bq,aC.sv,Ln.sv,Nd.sv]) (fun K hK=>?_)
 have hst:=IP l n
 have h0:((n == 0):Bool)=decide (n=0):=by rw [Bool.eq_iff_iff];simp
 have he:=Vb (bJ l n) w h (decide (n=0) || (bJ l n).clip)
 have ha:=UW (cg l n w h)
 have h1:=rP (bJ l n).width w true
 have h2:=Jd (bJ l n).jA w true
 have h3:=Je (bJ l n).jz w true
 have rm:=fun x=>Vc l hb n (cg l n w h) x (ins (cg l n w h) x) (hr _ _) (hI x)
 have hac:=fun a b=>UT (ow l n w h bO) a b
 have f1:=fun hq=>HG (x:=(bJ l n).jA) (b:=w) (has:=true) hq (d:=0) rfl
 have f2:=fun hq=>HG (x:=(bJ l n).jz) (b:=w) (has:=true) hq (d:=1125899906842624) rfl
 clear hI
 rw [show vw (bJ l n) w h (decide (n=0) || (bJ l n).clip)=cg l n w h from rfl] at he
 unfold ow at hac
 unfold pN ow okB at hK
 generalize hee:cg l n w h=e at *
 generalize gf (bJ l n).width w true=W at *
 generalize bk (gf (bJ l n).jA w true) 0=L at *
 generalize bk (gf (bJ l n).jz w true) 1125899906842624=X at *
 generalize bJ l n=s at *
 have q1:(s.cells.map SV.rv).length=48:=rfl
 generalize hA:cq (nK e)=A at *
 generalize WT:fV (nK e)=KA at *
 generalize sy s w h=b1 at *
 generalize iy s.width w true=b2 at *
 generalize iy s.jA w true=b3 at *
 generalize iy s.jz w true=b4 at *
 simp -implicitDefEqProofs only [Ed.sv,Ed.cells,Q4.iG,Q4.ints,Sz.sv,Sz.cells,Ai.sv,Ai.cells,List.map_cons,List.map_nil,List.cons_append,List.nil_append] at he ha h1 h2 h3 rm hac
 conv in fc _ _ _ _=>reduce
 simp -implicitDefEqProofs only [Sz.sv,Sz.cells,go_sem,Int.reduceNegSucc]
 cases hall:(b1 && KA && b2 && b3 && b4) with
 | true=>
   simp -implicitDefEqProofs only [Bool.and_eq_true] at hall
   obtain ⟨⟨⟨⟨rfl,rfl⟩,rfl⟩,rfl⟩,rfl⟩:=hall
   have hx:=hac (f1 rfl) (f2 rfl)
   simp -implicitDefEqProofs only [Bool.and_self,if_true] at hK
   generalize nI ⟨w,e.bA.d,W,e.bA.b,A,bO,L,X⟩=o at *
   cases o with
   | none=>
     simp -implicitDefEqProofs only [iJ,Option.isSome,Ao.cells,List.map_cons,List.map_nil,Option.bind] at hx hK
     cases hn0:decide (n=0) <;> rw [hn0] at he h0 <;> simp -implicitDefEqProofs only [Bool.true_or,Bool.false_or] at he
     all_goals ((have bh:=hst;have y_2:=he;have bC:=ha;have bI:=h1;have bK:=h2;have bM:=h3;have bN:=hx;repeat' (first | (simp -implicitDefEqProofs only [go_sem,Int.reduceNegSucc,q1,cE,dZ,cF,ec,cQ,eC,de,eN,dz,eZ,dJ,fu,dK,fy,dL,fA,dM,fB,dN,fC,cG,ee,cH,eg,cI,ek,cJ,ep,cK,er,cL,eu,cM,ew,cN,ey,cO,ez,cP,eA,cR,eD,cS,eE,cT,eF,cU,eG,cV,eH,cW,eI,cX,eJ,cY,eK,cZ,eL,dc,eM,dg,eO,dh,eP,di,eR,dj,eS,dm,eT,dn,eU,dr,eV,dw,eW,dx,eX,dy,eY,dA,fe,dB,ff,cB,fh,dD,fj,dF,fk,dG,fm,dH,fo,dI,fq,dU,dO,dP,dQ,dR,dS,dV,dW,dX,dY,cD,cA,af,h0]) | (with_reducible refine aA ?_) | (with_reducible first | refine ag bh ?_ | refine ah bh ?_) | (with_reducible first | refine ag y_2 ?_ | refine ah y_2 ?_) | (with_reducible first | refine ag bC ?_ | refine ah bC ?_) | (with_reducible first | refine ag bI ?_ | refine ah bI ?_) | (with_reducible first | refine ag bK ?_ | refine ah bK ?_) | (with_reducible first | refine ag bM ?_ | refine ah bM ?_) | (with_reducible first | refine ag bN ?_ | refine ah bN ?_) | ((first | refine aj (fun hg=>?_) (fun hg=>?_) | refine ax (fun hg=>?_) (fun hg=>?_) | refine ay (fun hg=>?_) (fun hg=>?_)) <;> try simp -implicitDefEqProofs only [hg,Bool.not_true,Bool.not_false]) | ((with_reducible apply And.intro);focus (first | trivial | omega | decide | (simp -implicitDefEqProofs only [maxLen];omega) | (simp [maxLen,af,ak,an,av,ai,au,aq] <;> omega))) | fail)))
     all_goals (refine (hK _ _ ?_).2;clear hK;simp -implicitDefEqProofs only [go_sem,Int.reduceNegSucc,aS,aT,bf,bl,aH,aG,aF,cz,bG,Option.map,Option.isSome] <;>(try simp_all [-Int.not_lt,-Int.not_le,aH,aG,aF,bF,cz,bG,Option.map,Option.isSome]) <;> try omega)
   | some x=>
     have hfl:=rm x
     simp -implicitDefEqProofs only [iJ,Option.isSome,Ao.cells,List.map_cons,List.map_nil,Option.bind] at hx hK hfl
     generalize pQ e x (bn l n).length (ins e x)=r at *
     obtain ⟨u,hu,oO⟩:∃ u,cz (r.map (·.1))=u∧u.length=25:=⟨_,rfl,by cases r <;> rfl⟩
     obtain ⟨v,hv,hvl⟩:∃ v,bG (r.map (·.2))=v∧v.length=9:=⟨_,rfl,by cases r <;> rfl⟩
     simp -implicitDefEqProofs only [lO] at hfl hK
     rw [hu,hv] at hfl hK
     have u1:(u.map SV.rv).drop 25=[]:=List.drop_of_length_le (by simp [oO])
     have u2:(u.map SV.rv).take 25=u.map SV.rv:=List.take_of_length_le (by simp [oO])
     have v1:(v.map SV.rv).drop 9=[]:=List.drop_of_length_le (by simp [hvl])
     have v2:(v.map SV.rv).take 9=v.map SV.rv:=List.take_of_length_le (by simp [hvl])
     cases hn0:decide (n=0) <;> rw [hn0] at he h0 <;> simp -implicitDefEqProofs only [Bool.true_or,Bool.false_or] at he
     all_goals ((have bR:=hst;have bZ:=he;have cm:=ha;have fT:=h1;have gO:=h2;have ie:=h3;have ig:=hx;have ij:=hfl;repeat' (first | (simp -implicitDefEqProofs only [go_sem,Int.reduceNegSucc,q1,cE,dZ,cF,ec,cQ,eC,de,eN,dz,eZ,dJ,fu,dK,fy,dL,fA,dM,fB,dN,fC,cG,ee,cH,eg,cI,ek,cJ,ep,cK,er,cL,eu,cM,ew,cN,ey,cO,ez,cP,eA,cR,eD,cS,eE,cT,eF,cU,eG,cV,eH,cW,eI,cX,eJ,cY,eK,cZ,eL,dc,eM,dg,eO,dh,eP,di,eR,dj,eS,dm,eT,dn,eU,dr,eV,dw,eW,dx,eX,dy,eY,dA,fe,dB,ff,cB,fh,dD,fj,dF,fk,dG,fm,dH,fo,dI,fq,dU,dO,dP,dQ,dR,dS,dV,dW,dX,dY,cD,cA,af,h0,oO,hvl,u1,u2,v1,v2,List.length_map,List.append_nil]) | (with_reducible refine aA ?_) | (with_reducible first | refine ag bR ?_ | refine ah bR ?_) | (with_reducible first | refine ag bZ ?_ | refine ah bZ ?_) | (with_reducible first | refine ag cm ?_ | refine ah cm ?_) | (with_reducible first | refine ag fT ?_ | refine ah fT ?_) | (with_reducible first | refine ag gO ?_ | refine ah gO ?_) | (with_reducible first | refine ag ie ?_ | refine ah ie ?_) | (with_reducible first | refine ag ig ?_ | refine ah ig ?_) | (with_reducible first | refine ag ij ?_ | refine ah ij ?_) | ((first | refine aj (fun hg=>?_) (fun hg=>?_) | refine ax (fun hg=>?_) (fun hg=>?_) | refine ay (fun hg=>?_) (fun hg=>?_)) <;> try simp -implicitDefEqProofs only [hg,Bool.not_true,Bool.not_false]) | ((with_reducible apply And.intro);focus (first | trivial | omega | decide | (simp -implicitDefEqProofs only [maxLen];omega) | (simp [maxLen,af,ak,an,av,ai,au,aq] <;> omega))) | fail)))
     all_goals (refine (hK _ _ ?_).2;simp -implicitDefEqProofs only [go_sem,Int.reduceNegSucc,aS,aT,bf,bl,aH,aG,aF,fL,oO,hvl,u2,v2,List.length_map,List.drop_zero])
 | false=>
   simp -implicitDefEqProofs only [hall,Bool.false_eq_true,if_false] at hK
   cases hn0:decide (n=0) <;> rw [hn0] at he h0 <;> simp -implicitDefEqProofs only [Bool.true_or,Bool.false_or] at he
   all_goals ((have iq:=hst;have ir:=he;have iu:=ha;have iT:=h1;have iU:=h2;have ke:=h3;repeat' (first | (simp -implicitDefEqProofs only [go_sem,Int.reduceNegSucc,q1,cE,dZ,cF,ec,cQ,eC,de,eN,dz,eZ,dJ,fu,dK,fy,dL,fA,dM,fB,dN,fC,cG,ee,cH,eg,cI,ek,cJ,ep,cK,er,cL,eu,cM,ew,cN,ey,cO,ez,cP,eA,cR,eD,cS,eE,cT,eF,cU,eG,cV,eH,cW,eI,cX,eJ,cY,eK,cZ,eL,dc,eM,dg,eO,dh,eP,di,eR,dj,eS,dm,eT,dn,eU,dr,eV,dw,eW,dx,eX,dy,eY,dA,fe,dB,ff,cB,fh,dD,fj,dF,fk,dG,fm,dH,fo,dI,fq,dU,dO,dP,dQ,dR,dS,dV,dW,dX,dY,cD,cA,af,h0]) | (with_reducible refine aA ?_) | (with_reducible first | refine ag iq ?_ | refine ah iq ?_) | (with_reducible first | refine ag ir ?_ | refine ah ir ?_) | (with_reducible first | refine ag iu ?_ | refine ah iu ?_) | (with_reducible first | refine ag iT ?_ | refine ah iT ?_) | (with_reducible first | refine ag iU ?_ | refine ah iU ?_) | (with_reducible first | refine ag ke ?_ | refine ah ke ?_) | ((first | refine aj (fun hg=>?_) (fun hg=>?_) | refine ax (fun hg=>?_) (fun hg=>?_) | refine ay (fun hg=>?_) (fun hg=>?_)) <;> try simp -implicitDefEqProofs only [hg,Bool.not_true,Bool.not_false]) | ((with_reducible apply And.intro);focus (first | trivial | omega | decide | (simp -implicitDefEqProofs only [maxLen];omega) | (simp [maxLen,af,ak,an,av,ai,au,aq] <;> omega))) | fail)))
   all_goals first | (exfalso;simp_all;done) | skip
   all_goals (refine (hK _ _ ?_).2;clear hK;simp -implicitDefEqProofs only [go_sem,Int.reduceNegSucc,aS,aT,bf,bl,aH,aG,aF,cz,bG,Option.map,Option.isSome] <;>(try simp_all [-Int.not_lt,-Int.not_le,aH,aG,aF,bF,cz,bG,Option.map,Option.isSome]) <;> try omega)
end Go.aJ

namespace Go.aJ
open Go
theorem QG:aX Go.Proofs.Tryz.prog 33 115 (fc Go.Proofs.Tryz.prog 33 115 [(.c 8 24 true),(.t 9)]) [(.c 8 24 true),(.t 9)]:=br (by kernel_rfl)
theorem Jb (l:List Ch) (o:Bool) (hb:l.length≤1000000) (j v m:Nat) (sS:j≠m):aL Go.Proofs.Tryz.prog 45 [.row j v l.length,.rv (.bool o)] [(j,.row 8 v (aM (gD l)))] (jZ m (ju l o)) (.aO [lB m (ju l o),.rv (.bool (ju l o).isSome)]):=by
 refine tU (jc:=[.rv (.sl 8 (gD l)),.rv (.bool o)]) (VH l o hb m) rfl (fun hp hpre k y r hy hr=>?_) (Bz fun y hy=>?_) (fun q hq=>?_)
 ·match k with
  | 0=>
    cases hy;cases hr
    have:=nP (h:=hp) (τ:=fun _=>none) (j:=j) (e:=8) (az:=v) (len:=l.length) (xs:=gD l) (hpre _ (.head _)) rfl (by rw [ni];omega) (fun x hx r hr=>by
     obtain ⟨c,_,rfl⟩:=List.mem_map.1 hx
     simp -implicitDefEqProofs only [Ch.cells,List.mem_cons,List.not_mem_nil,or_false] at hr
     rcases hr with rfl | rfl | rfl | rfl | rfl | rfl | rfl | rfl <;> rfl)
    rw [List.take_of_length_le (by rw [ni];omega)] at this
    exact .fz _ _ this
  | 1=>cases hy;cases hr;exact aG.2 rfl
  | k+2=>simp at hy
 ·simp -implicitDefEqProofs only [List.mem_cons,List.not_mem_nil,or_false] at hy
  rcases hy with rfl | rfl
  ·exact HZ _ _
  ·exact .rv _ (.bool _)
 ·revert hq
  cases ju l o with
  | none=>simp [jZ]
  | some z=>
    simp -implicitDefEqProofs only [jZ,List.mem_singleton]
    rintro rfl
    refine ⟨Kv _,fun p hp=>?_⟩
    subst hp
    exact sS
structure Kn where
 bA:Q4 Sz
 pad:Q4 Sz
 high:Sz
 least:Int
 most:Int
 top:Bool
 bottom:Bool
 alone:Bool
 empty:Bool
def Kn.cells (e:Kn):List RV:=e.bA.iG++e.pad.iG++[.bool e.high.auto,.int .i64 e.high.n,.int .i64 e.least,.int .i64 e.most,.bool e.top,.bool e.bottom,.bool e.alone,.bool e.empty]
abbrev Kn.sv (e:Kn):SV:=.agg (e.cells.map .rv)
def wP (l:List Nd) (n:Int) (w:Int) (h:Sz):Kn:=⟨(cg l n w h).bA,(cg l n w h).pad,(cg l n w h).high,(cg l n w h).least,(cg l n w h).most,rV (bJ l n) w,qT (bJ l n) w,decide (n=0) || (bJ l n).clip,decide ((bn l n).length=0)⟩
theorem Jp (x:Nd):(x.cells.map SV.rv).take 48=x.s.cells.map SV.rv:=rfl
theorem Vn (l:List Nd) (ht:fW l=true) (hb:l.length≤1000000) (n:Nat) (hn:n<l.length) (w:Int) (h:Sz):aL Go.Proofs.Tryz.prog 33 [.rv (.sl 49 (bp l)),.rv (.int .i64 n),.rv (.int .i64 w),h.sv] [] [] (.aO [(wP l n w h).sv,.rv (.bool (sy (bJ l n) w h))]):=by
 refine bz QG [.rv (.sl 49 (bp l)),.rv (.int .i64 n),.rv (.int .i64 w),h.sv] _ (by simp) (by simp [aP,bg,bu,aY,bq,aC.sv,Ln.sv,Nd.sv]) (fun K hK=>?_)
 have hl:=an l
 have hx:=iP hn
 have hf:=VF l ht (by omega) n hn
 have hfl:=zK (bn l n)
 have iO:bJ l n=(l[n]'hn).s:=by simp [bJ,nv hn,hn]
 rw [iO] at hK
 have h0:(((n:Int) == 0):Bool)=decide ((n:Int)=0):=by rw [Bool.eq_iff_iff];simp
 have hk:((((bn l n).length:Nat):Int) == 0)=decide ((bn l n).length=0):=by rw [Bool.eq_iff_iff];simp
 simp -implicitDefEqProofs only [wP,cg,vw,iO,rV,qT,wS,sy] at hK
 generalize l[n]'hn=x at *
 have x1:=HD x
 have x2:=ak x
 have x3:=Jp x
 generalize x.s=s at *
 have h1:=IZ s.bA w
 have h2:=IZ s.pad w
 have h3:=rO s.height h.n (!h.auto)
 have h4:=IY s.jX s.jW h.n (!h.auto)
 simp -implicitDefEqProofs only [Q4.iG,Sz.sv,Sz.cells,List.map_cons,List.map_nil] at h1 h2 h3 h4
 generalize mS s.bA w=M at *
 generalize mS s.pad w=D at *
 generalize gf s.height h.n (!h.auto)=H at *
 generalize bk (gf s.jX h.n (!h.auto)) 0=L at *
 generalize bk (gf s.jW h.n (!h.auto)) 1125899906842624=X at *
 generalize bn l n=FL at *
 conv in fc _ _ _ _=>reduce
 simp -implicitDefEqProofs only [Sz.sv,Sz.cells,go_sem,Int.reduceNegSucc]
 have bh:=h1;have y_2:=h2;have bC:=h3;have bI:=h4;have bK:=hf;repeat' (first | (simp -implicitDefEqProofs only [go_sem,Int.reduceNegSucc,hl,hx,x1,x2,x3,cE,dZ,cF,ec,cQ,eC,de,eN,dz,eZ,dJ,fu,dK,fy,dL,fA,dM,fB,dN,fC,cG,ee,cH,eg,cI,ek,cJ,ep,cK,er,cL,eu,cM,ew,cN,ey,cO,ez,cP,eA,cR,eD,cS,eE,cT,eF,cU,eG,cV,eH,cW,eI,cX,eJ,cY,eK,cZ,eL,dc,eM,dg,eO,dh,eP,di,eR,dj,eS,dm,eT,dn,eU,dr,eV,dw,eW,dx,eX,dy,eY,dA,fe,dB,ff,cB,fh,dD,fj,dF,fk,dG,fm,dH,fo,dI,fq,dU,dO,dP,dQ,dR,dS,dV,dW,dX,dY,cD,cA,af,Q4.ints,hfl,h0,hk]) | (with_reducible refine aA ?_) | (with_reducible first | refine ag bh ?_ | refine ah bh ?_) | (with_reducible first | refine ag y_2 ?_ | refine ah y_2 ?_) | (with_reducible first | refine ag bC ?_ | refine ah bC ?_) | (with_reducible first | refine ag bI ?_ | refine ah bI ?_) | (with_reducible first | refine ag bK ?_ | refine ah bK ?_) | ((first | refine aj (fun hg=>?_) (fun hg=>?_) | refine ax (fun hg=>?_) (fun hg=>?_) | refine ay (fun hg=>?_) (fun hg=>?_)) <;> try simp -implicitDefEqProofs only [hg,Bool.not_true,Bool.not_false]) | ((with_reducible apply And.intro);focus (first | trivial | omega | decide | (simp -implicitDefEqProofs only [maxLen];omega) | (simp [maxLen,af,ak,an,av,ai,au,aq] <;> omega))) | fail)
 all_goals (refine (hK _ _ ?_).2;clear hK;simp -implicitDefEqProofs only [go_sem,Int.reduceNegSucc,aS,aT,bf,bl,aH,aG,aF,Kn.cells,Q4.iG] <;>(try simp_all [-Int.not_lt,-Int.not_le,aH,aG,aF,bF,Kn.cells,Q4.iG]) <;> try omega)
end Go.aJ

namespace Go.aJ
open Go
theorem QF:aX Go.Proofs.Tryz.prog 40 104 (fc Go.Proofs.Tryz.prog 40 104 [(.c 10 8 true)]) [(.c 10 8 true)]:=br (by kernel_rfl)
theorem MG (f:Fm):(f.cells.map SV.rv)[4]?=some (.rv (.int .i64 f.bA.a)):=rfl
theorem MH (f:Fm):(f.cells.map SV.rv)[6]?=some (.rv (.int .i64 f.bA.c)):=rfl
theorem VN (k:Kn) (f:Fm) (y:RV) (p:Pl) (ob:Bool) (high:Int) (e:Ed) (kids:Nat) (h1:e.flat=(!k.alone && k.top && k.bottom && (k.least == 0))) (h2:k.empty=decide (kids=0)) (h3:k.high=e.high) (h4:f.bA.a=bk e.bA.a 0) (h5:f.bA.c=bk e.bA.c 0) (h6:ob=e.lW) :
 aL Go.Proofs.Tryz.prog 40 [k.sv,.agg (f.cells.map .rv),.agg ((mo y p).map .rv),.rv (.bool ob),.rv (.int .i64 high)] [] [] (.agg ((qo e kids p high).cells.map .rv)):=by
 refine bz QF [k.sv,.agg (f.cells.map .rv),.agg ((mo y p).map .rv),.rv (.bool ob),.rv (.int .i64 high)] _ (by simp) (by simp [aP,bg,bu,aY,bq,aC.sv,Ln.sv,Nd.sv]) (fun K hK=>?_)
 have s1:=Ja f.bA.a
 have s2:=Ja f.bA.c
 subst h6
 simp -implicitDefEqProofs only [qo,xy,← h3,← h4,← h5,h1] at hK
 have fl:f.cells.length=25:=rfl
 have m0:=MG f
 have m2:=MH f
 generalize (⟨max f.bA.a 0,min f.bA.a 0⟩:Su)=A at *
 generalize (⟨max f.bA.c 0,min f.bA.c 0⟩:Su)=B at *
 have j1:=uU A p.top
 have j2:=uU (fR A p.top) B
 have j3:=uU B p.cur
 obtain ⟨T,hT⟩:∃ T,T=(!k.alone && k.top && k.bottom && (k.least == 0)):=⟨_,rfl⟩
 rw [← hT] at hK
 generalize fR A p.top=I at *
 clear h1 h3 h4 h5
 simp -implicitDefEqProofs only [Kn.sv,Kn.cells,mo,Pl.cells,Q4.iG,Su.sv,Su.cells,List.map_cons,List.map_nil,List.cons_append,List.nil_append] at s1 s2 j1 j2 j3
 conv in fc _ _ _ _=>reduce
 simp -implicitDefEqProofs only [Kn.sv,Kn.cells,mo,Pl.cells,Q4.iG,go_sem,Int.reduceNegSucc]
 by_cases zh:kids=0
 ·have hem:k.empty=true:=by rw [h2];simp [zh]
  simp -implicitDefEqProofs only [zh,if_true,Nat.lt_irrefl,and_false,if_false] at hK
  cases oG:k.alone <;> cases wB:k.top <;> cases mL:k.bottom <;> simp -implicitDefEqProofs only [oG,wB,mL,Bool.not_true,Bool.not_false,Bool.false_and,Bool.true_and,Bool.and_false] at hT
  all_goals (try subst hT)
  all_goals ((have bh:=s1;have y_2:=s2;have bC:=j1;have bI:=j2;have bK:=j3;repeat' (first | (simp -implicitDefEqProofs only [go_sem,Int.reduceNegSucc,hem,oG,wB,mL,fl,m0,m2,List.length_map]) | (with_reducible refine aA ?_) | ((first | refine bS (bh _) ?_ ?_ ?_ | refine bV (bh _) ?_ ?_ ?_ | fail);(focus (simp [aR,aB] <;> fail));(focus (simp [aV,aQ] <;> fail))) | ((first | refine bS (y_2 _) ?_ ?_ ?_ | refine bV (y_2 _) ?_ ?_ ?_ | fail);(focus (simp [aR,aB] <;> fail));(focus (simp [aV,aQ] <;> fail))) | (with_reducible first | refine ag bC ?_ | refine ah bC ?_) | (with_reducible first | refine ag bI ?_ | refine ah bI ?_) | (with_reducible first | refine ag bK ?_ | refine ah bK ?_) | ((first | refine aj (fun hg=>?_) (fun hg=>?_) | refine ax (fun hg=>?_) (fun hg=>?_) | refine ay (fun hg=>?_) (fun hg=>?_)) <;> try simp -implicitDefEqProofs only [hg,Bool.not_true,Bool.not_false]) | ((with_reducible apply And.intro);focus (first | trivial | omega | decide | (simp -implicitDefEqProofs only [maxLen];omega) | (simp [maxLen,af,ak,an,av,ai,au,aq] <;> omega))) | fail)))
  all_goals (refine (hK _ _ ?_).2;clear hK;simp -implicitDefEqProofs only [go_sem,Int.reduceNegSucc,aS,aT,bf,bl,aH,aG,aF,Ch.cells] <;>(try simp_all [-Int.not_lt,-Int.not_le,aH,aG,aF,bF,Ch.cells]) <;> try omega)
 ·have hem:k.empty=false:=by rw [h2];simp [zh]
  have hkp:0<kids:=by omega
  simp -implicitDefEqProofs only [zh,hkp,if_false,and_true] at hK
  cases oG:k.alone <;> cases wB:k.top <;> cases mL:k.bottom <;> simp -implicitDefEqProofs only [oG,wB,mL,Bool.not_true,Bool.not_false,Bool.false_and,Bool.true_and,Bool.and_false] at hT
  all_goals (try subst hT)
  all_goals ((have bM:=s1;have bN:=s2;have bR:=j1;have bZ:=j2;have cm:=j3;repeat' (first | (simp -implicitDefEqProofs only [go_sem,Int.reduceNegSucc,hem,oG,wB,mL,fl,m0,m2,List.length_map]) | (with_reducible refine aA ?_) | ((first | refine bS (bM _) ?_ ?_ ?_ | refine bV (bM _) ?_ ?_ ?_ | fail);(focus (simp [aR,aB] <;> fail));(focus (simp [aV,aQ] <;> fail))) | ((first | refine bS (bN _) ?_ ?_ ?_ | refine bV (bN _) ?_ ?_ ?_ | fail);(focus (simp [aR,aB] <;> fail));(focus (simp [aV,aQ] <;> fail))) | (with_reducible first | refine ag bR ?_ | refine ah bR ?_) | (with_reducible first | refine ag bZ ?_ | refine ah bZ ?_) | (with_reducible first | refine ag cm ?_ | refine ah cm ?_) | ((first | refine aj (fun hg=>?_) (fun hg=>?_) | refine ax (fun hg=>?_) (fun hg=>?_) | refine ay (fun hg=>?_) (fun hg=>?_)) <;> try simp -implicitDefEqProofs only [hg,Bool.not_true,Bool.not_false]) | ((with_reducible apply And.intro);focus (first | trivial | omega | decide | (simp -implicitDefEqProofs only [maxLen];omega) | (simp [maxLen,af,ak,an,av,ai,au,aq] <;> omega))) | fail)))
  all_goals (refine (hK _ _ ?_).2;clear hK;simp -implicitDefEqProofs only [go_sem,Int.reduceNegSucc,aS,aT,bf,bl,aH,aG,aF,Ch.cells] <;>(try simp_all [-Int.not_lt,-Int.not_le,aH,aG,aF,bF,Ch.cells]) <;> try omega)
end Go.aJ

namespace Go.aJ
open Go
theorem QX:aX Go.Proofs.Tryz.prog 49 160 (fc Go.Proofs.Tryz.prog 49 160 [(.c 12 9 true),(.t 13)]) [(.c 12 9 true),(.t 13)]:=br (by kernel_rfl)
def mD (r:Nat×Fm×La):List (Nat×Fm):=(r.1,r.2.1)::r.2.2.L
def bD (rs:List (Nat×Fm×La)):List (Nat×Fm):=rs.flatMap mD
def iF (rs:List (Nat×Fm×La)):List Int:=(List.range rs.length).map fun i=>((bD (rs.take i)).length:Int)
def fM (rs:List (Nat×Fm×La)):List Ch:=rs.map fun r=>r.2.1.child
def iK:List (Nat×Fm×La)→List Int→List (Nat×Fm)
 | [],_=>[]
 | r::rs,[]=>mD r++iK rs []
 | r::rs,y::ys=>(r.1,{ r.2.1 with y:=y })::(r.2.2.L++iK rs ys)
def hD (bx:Nat→Option (Fm×La)):List Nat→Option (List (Nat×Fm×La))
 | []=>some []
 | m::ms=>match bx m with
   | some q=>(hD bx ms).map ((m,q) :: ·)
   | none=>none
def qe (rs:List (Nat×Fm×La)) (q:Pl×List Int) (ob:Bool):La:=
 ⟨iK rs q.2,q.1,q.2,if q.1.lM=true then 0 else (let a:=if ob=true then q.1.iD else IntKind.i64.wrap (q.1.iD+iQ q.1.cur);if 0>a then 0 else a)⟩
def jh (bx:Nat→Option (Fm×La)) (kids:List Nat) (ok ot ob:Bool):Option La×Bool:=
 if ok=true then match hD bx kids with
  | some rs=>match ju (fM rs) ot with
    | some q=>if nG q.1.cur=true then (some (qe rs q ob),bT (qe rs q ob).high) else (none,false)
    | none=>(none,false)
  | none=>(none,false)
 else (none,false)
theorem Cu {bx:Nat→Option (Fm×La)} {kids:List Nat} {ok ot ob:Bool} (h:(jh bx kids ok ot ob).2=true):(jh bx kids ok ot ob).1.isSome=true:=by
 revert h
 unfold jh
 repeat' split
 all_goals simp
theorem AB {rs:List (Nat×Fm×La)} {r:Nat×Fm×La}:bD (rs++[r])=bD rs++mD r:=by simp [bD]
theorem kC (a:List (Nat×Fm)):(gj a).length=a.length:=by simp [gj]
theorem qI {rs:List (Nat×Fm×La)}:(iF rs).length=rs.length:=by simp [iF]
theorem CS {rs:List (Nat×Fm×La)} {r:Nat×Fm×La}:iF (rs++[r])=iF rs++[((bD rs).length:Int)]:=by
 simp -implicitDefEqProofs only [iF,List.length_append,List.length_cons,List.length_nil,Nat.zero_add,List.range_succ,List.map_append,List.map_cons,List.map_nil]
 congr 1
 ·refine List.map_congr_left (fun i hi=>?_)
  rw [List.take_append_of_le_length (by simp at hi;omega)]
 ·simp
theorem CR {rs:List (Nat×Fm×La)} {i:Nat} (h:i<rs.length):(aN (iF rs))[i]?.getD []=[.int .i64 ((bD (rs.take i)).length:Int)]:=by simp [aN,iF,h]
theorem uL:∀ (rs:List (Nat×Fm×La)),iK rs []=bD rs
 | []=>rfl
 | r::rs=>by rw [iK,uL rs];simp [bD]
theorem mq:∀ (rs:List (Nat×Fm×La)) (ys:List Int),(iK rs ys).length=(bD rs).length
 | [],_=>rfl
 | r::rs,[]=>by rw [uL]
 | r::rs,y::ys=>by rw [iK];simp [bD,mD,mq rs ys]
theorem uK:∀ (rs:List (Nat×Fm×La)) (ys:List Int) (i:Nat) (h:i<rs.length) (h2:i<ys.length),(iK rs (ys.take i))[(bD (rs.take i)).length]?=some ((rs[i]'h).1,(rs[i]'h).2.1)∧
 (iK rs (ys.take i)).set (bD (rs.take i)).length ((rs[i]'h).1,{ (rs[i]'h).2.1 with y:=ys[i]'h2 })=iK rs (ys.take (i+1))
 | [],_,i,h,_=>by simp at h
 | r::rs,[],i,_,h=>by simp at h
 | r::rs,y::ys,0,_,_=>by
   refine ⟨by simp [iK,bD,mD],?_⟩
   simp -implicitDefEqProofs only [List.take_zero,iK,bD,List.flatMap_nil,List.length_nil,mD,List.cons_append,List.set_cons_zero,List.getElem_cons_zero,Nat.zero_add,List.take_succ_cons]
 | r::rs,y::ys,i+1,h,h2=>by
   have ih:=uK rs ys i (by simpa using h) (by simpa using h2)
   have e:(bD ((r::rs).take (i+1))).length=(r.2.2.L.length+(bD (rs.take i)).length)+1:=by simp [bD,mD]
   rw [e]
   simp -implicitDefEqProofs only [List.take_succ_cons,iK,List.getElem?_cons_succ,List.set_cons_succ,List.getElem_cons_succ]
   refine ⟨?_,?_⟩
   ·rw [List.getElem?_append_right (by omega),Nat.add_sub_cancel_left];exact ih.1
   ·rw [List.set_append_right _ _ (by omega),Nat.add_sub_cancel_left,ih.2]
theorem CZ {rs:List (Nat×Fm×La)} {ys:List Int} {i:Nat} (h:i<rs.length) (h2:i<ys.length):(aM (gj (iK rs (ys.take i))))[(bD (rs.take i)).length]?.getD []=(jM ((rs[i]'h).1,(rs[i]'h).2.1)).map SV.rv:=by
 have:=(uK rs ys i h h2).1
 simp [aM,gj,this]
theorem Da {rs:List (Nat×Fm×La)} {ys:List Int} {i:Nat} (h:i<rs.length) (h2:i<ys.length):(aM (gj (iK rs (ys.take i)))).set (bD (rs.take i)).length ((jM ((rs[i]'h).1,{ (rs[i]'h).2.1 with y:=ys[i]'h2 })).map SV.rv)=aM (gj (iK rs (ys.take (i+1)))):=by
 rw [← (uK rs ys i h h2).2]
 simp [aM,gj,List.map_set]
theorem Dz (q:Nat×Fm) (y:Int):splice ((jM q).map SV.rv) 2 [.rv (.int .i64 y)]=(jM (q.1,{ q.2 with y:=y })).map SV.rv:=rfl
theorem CY (q:Nat×Fm):(jM q).length=26:=rfl
theorem ug (f:Fm):f.cells.length=25:=rfl
theorem zT (L:List (Nat×Fm)):∀ x∈gj L,∀ r∈x,r.one=true:=by
 intro x hx r hr
 obtain ⟨q,_,rfl⟩:=List.mem_map.1 hx
 simp -implicitDefEqProofs only [jM,Fm.cells,Q4.ints,Ch.cells,List.cons_append,List.nil_append,List.mem_cons,List.not_mem_nil,or_false] at hr
 rcases hr with h | h | h | h | h | h | h | h | h | h | h | h | h | h | h | h | h | h | h | h | h | h | h | h | h | h <;> rw [h] <;> rfl
theorem AZ {rs:List (Nat×Fm×La)} {r:Nat×Fm×La}:fM (rs++[r])=fM rs++[r.2.1.child]:=by simp [fM]
theorem xp:∀ {l:List Ch} {p:Pl} {ys:List Int} {q:Pl×List Int},oq l p ys=some q→q.2.length=ys.length+l.length
 | [],p,ys,q,h=>by cases h;rfl
 | c::l,p,ys,q,h=>by
   rw [oq] at h
   split at h
   ·have:=xp h;simp at this ⊢;omega
   ·cases h
end Go.aJ

namespace Go.aJ
open Go Go.Proofs Go.Shelf
theorem uu {b:Nat} {t:TypeId}:∀ (vs:List Value) (o:Nat) (w:World) (cur:Array Value),w.heap[b]?=some (.cells cur t (0,0))→o+vs.length≤cur.size→
 ∃ cur':Array Value,(w.setCells b o vs).heap[b]?=some (.cells cur' t (0,0))∧cur'.size=cur.size∧(∀ k,k<o∨o+vs.length≤k→cur'[k]?=cur[k]?)∧∀ (j:Nat) (u:Value),vs[j]?=some u→cur'[o+j]?=some u
 | [],o,w,cur,h,hl=>⟨cur,h,rfl,fun _ _=>rfl,fun j u hu=>by simp at hu⟩
 | v::r,o,w,cur,h,hl=>by
   have h1:(w.setCell ⟨b,o,none⟩ v).heap[b]?=some (.cells (cur.setIfInBounds o v) t (0,0)):=heap_setCell_same _ _ _ _ _ _ h
   obtain ⟨cur',g1,g2,g3,g4⟩:=uu r (o+1) _ _ h1 (by simp at hl ⊢;omega)
   refine ⟨cur',g1,by rw [g2];simp,fun k hk=>?_,fun j u hu=>?_⟩
   ·rw [g3 k (by simp at hk;omega),Array.getElem?_setIfInBounds]
    rw [if_neg (by simp at hk;omega)]
   ·cases j with
    | zero=>
      simp at hu;subst hu
      rw [Nat.add_zero,g3 o (by omega),Array.getElem?_setIfInBounds,if_pos rfl,if_pos (by simp at hl;omega)]
    | succ j=>
      simp at hu
      have:=g4 j u hu
      rwa [show o+1+j=o+(j+1) by omega] at this
theorem uv {b:Nat}:∀ (vs:List Value) (o:Nat) (w:World) (k:Nat),k≠b→(w.setCells b o vs).heap[k]?=w.heap[k]?
 | [],_,_,_,_=>rfl
 | v::r,o,w,k,h=>by rw [World.setCells,uv r (o+1) _ k h,heap_setCell_other _ _ _ _ h]
theorem uR {b:Nat}:∀ (vs:List Value) (o:Nat) (w:World),(w.setCells b o vs).os=w.os∧(w.setCells b o vs).tape=w.tape∧(w.setCells b o vs).output=w.output∧(w.setCells b o vs).heap.size=w.heap.size
 | [],_,_=>⟨rfl,rfl,rfl,rfl⟩
 | v::r,o,w=>by
   obtain ⟨h1,h2,h3,h4⟩:=uR r (o+1) (w.setCell ⟨b,o,none⟩ v)
   exact ⟨h1,h2,h3,by rw [World.setCells,h4,World.size_setCell]⟩
def tM (w w':World) (ob:Option Nat) (tg:List Value) (v:Value):Prop:=
 ∃ b cur t cap,v = .slice (some ⟨b,0,none⟩) tg.length cap∧w'.heap[b]?=some (.cells cur t (0,0))∧(∀ k,k<w.heap.size→k≠b→w'.heap[k]?=w.heap[k]?)∧w'.os=w.os∧w'.tape=w.tape∧w'.output=w.output∧w.heap.size≤w'.heap.size∧
  (∀ (j:Nat) (u:Value),tg[j]?=some u→cur[j]?=some u)∧tg.length≤cap∧cap≤maxLen∧cap≤cur.size∧(ob=some b∨w.heap.size≤b)
section
variable {P:Program} {ρ:Ren} (L:Lays2.n21 P ρ) {w:World} {ys:List Int} {i:Nat} {x:Int} {vb vc:Nat} {lE:Array Value} {vt:TypeId}
abbrev vI (l:List Int):List Value:=l.map fun y=>Value.int .i64 y
theorem JD {l:List Int}:∀ v∈vI l,v.oneCell'=true:=by
 intro v hv
 obtain ⟨y,_,rfl⟩:=List.mem_map.1 hv
 rfl
theorem tX {b:Nat} {cur:Array Value} {t:TypeId} (h:w.heap[b]?=some (.cells cur t (0,0))) (o:Nat):w.cell? ⟨b,o,none⟩=cur[o]?:=qn h o
theorem DJ (n:Nat):(Builtin.zeroCells (Value.int .i64 0).cells n).size=n:=by
 rw [size_zeroCells];show n*1=n;omega
theorem vf {l:List Int} {j:Nat} {u:Value} (h:(vI l)[j]?=some u):∃ y,l[j]?=some y∧u = .int .i64 y:=by
 rw [List.getElem?_map,Option.map_eq_some_iff] at h
 obtain ⟨y,h1,rfl⟩:=h
 exact ⟨y,h1,rfl⟩
theorem xE (hv:w.heap[vb]?=some (.cells lE vt (0,0))) (h0:lE[0]?=some (.int .i64 x)) (j:Nat) (v:Value) (hj:[Value.int .i64 x][j]?=some v):w.cell? ⟨vb,0+j,none⟩=some v:=by
 match j with
 | 0=>cases hj;rw [tX hv];simpa using h0
 | j+1=>simp at hj
theorem DY {A B:List Value} {Z:Array Value} {j:Nat} {u:Value} (h:(A++B)[j]?=some u):((A++B).toArray++Z)[j]?=some u:=by
 rw [Array.getElem?_append_left (by have:=(List.getElem?_eq_some_iff.1 h).1;simpa using this)]
 simpa using h
include L in
theorem Pg (hv:w.heap[vb]?=some (.cells lE vt (0,0))) (h0:lE[0]?=some (.int .i64 x)) :
 Calls P (ρ.f 21) #[.slice none 0 0,.int .i64 (0:Nat),.slice (some ⟨vb,0,none⟩) 1 vc] w fun e w'=>∃ v,e = .returned v∧tM w w' none (vI [x]) v:=by
 refine (Any2.slices_Insert_int_end_grow L none 0 0 vb 0 1 vc [] [.int .i64 x] w (by omega) (by omega) (by omega) (by omega) rfl rfl (fun _=>rfl) (fun a ha=>by cases ha) (xE hv h0) (by simp;rfl)).mono ?_
 rintro e w' ⟨rfl,rfl⟩
 have hg:=grownCap_ge w (0+1) 0 (ρ.t 3)
 have hm:=grownCap_le_maxLen w (0+1) 0 (ρ.t 3) (by decide)
 refine ⟨_,rfl,w.heap.size,_,ρ.t 3,_,rfl,heap_alloc_new w.drew _,fun k hk _=>heap_alloc_old w.drew _ hk,rfl,rfl,rfl,by simp,fun j u hu=>DY (by simpa using hu),by simpa using hg,hm,?_,.inr (Nat.le_refl _)⟩
 simp only [Array.size_append,DJ,List.size_toArray,List.length_append,List.length_nil,List.length_cons]
 omega
include L in
theorem Pd {b c:Nat} {cur:Array Value} {t:TypeId} (hb:w.heap[b]?=some (.cells cur t (0,0))) (hys:∀ (j:Nat) (y:Int),ys[j]?=some y→cur[j]?=some (.int .i64 y)) (hnc:ys.length≤c) (hc:c<ys.length+1) (hbig:ys.length≤1000000)
 (hv:w.heap[vb]?=some (.cells lE vt (0,0))) (h0:lE[0]?=some (.int .i64 x)) :
 Calls P (ρ.f 21) #[.slice (some ⟨b,0,none⟩) ys.length c,.int .i64 ys.length,.slice (some ⟨vb,0,none⟩) 1 vc] w fun e w'=>∃ v,e = .returned v∧tM w w' (some b) (vI (ys++[x])) v:=by
 refine (Any2.slices_Insert_int_end_grow L (some ⟨b,0,none⟩) ys.length c vb 0 1 vc (vI ys) [.int .i64 x] w (by omega) hnc hc (by omega) (by simp) rfl (fun h=>by cases h) (fun a ha j v hj=>by
  cases ha
  obtain ⟨y,hy,rfl⟩:=vf hj
  rw [add_lit,Nat.zero_add,tX hb];exact hys j y hy) (xE hv h0) (by simp;rfl)).mono ?_
 rintro e w' ⟨rfl,rfl⟩
 have hg:=grownCap_ge w (ys.length+1) c (ρ.t 3)
 have hm:=grownCap_le_maxLen w (ys.length+1) c (ρ.t 3) (by simp only [maxLen];omega)
 refine ⟨_,rfl,w.heap.size,_,ρ.t 3,_,by simp,heap_alloc_new w.drew _,fun k hk _=>heap_alloc_old w.drew _ hk,rfl,rfl,rfl,by simp,fun j u hu=>DY (by simpa using hu),by simpa using hg,hm,?_,.inr (Nat.le_refl _)⟩
 simp only [Array.size_append,DJ,List.size_toArray,List.length_append,List.length_map,List.length_nil,List.length_cons]
 omega
include L in
theorem Pe {b c:Nat} {cur:Array Value} {t:TypeId} (hb:w.heap[b]?=some (.cells cur t (0,0))) (hys:∀ (j:Nat) (y:Int),ys[j]?=some y→cur[j]?=some (.int .i64 y)) (hc:ys.length+1≤c) (nq:c≤maxLen) (hcs:c≤cur.size)
 (hv:w.heap[vb]?=some (.cells lE vt (0,0))) (h0:lE[0]?=some (.int .i64 x)) :
 Calls P (ρ.f 21) #[.slice (some ⟨b,0,none⟩) ys.length c,.int .i64 ys.length,.slice (some ⟨vb,0,none⟩) 1 vc] w fun e w'=>∃ v,e = .returned v∧tM w w' (some b) (vI (ys++[x])) v:=by
 refine (Any2.slices_Insert_int_end_room L b 0 ys.length c vb 0 1 vc [.int .i64 x] w (by omega) hc (by simp only [maxLen] at nq;omega) rfl (fun j hj=>?_) (fun j hj=>frozen_of_row _ _ _ _ _ hb) (xE hv h0) (by simp;rfl)).mono ?_
 ·rw [tX hb]
  rw [Array.getElem?_eq_getElem (by omega)];rfl
 rintro e w' ⟨rfl,rfl⟩
 obtain ⟨cur',g1,g2,g3,g4⟩:=uu [.int .i64 x] (0+ys.length) w cur hb (by simp;omega)
 obtain ⟨r1,r2,r3,r4⟩:=uR (b:=b) [.int .i64 x] (0+ys.length) w
 refine ⟨_,rfl,b,cur',t,c,by simp,g1,fun k hk hne=>uv _ _ _ k hne,r1,r2,r3,by rw [r4];exact Nat.le_refl _,fun j u hu=>?_,by simpa using hc,nq,by omega,.inl rfl⟩
 obtain ⟨y,hy,rfl⟩:=vf hu
 rcases Nat.lt_or_ge j ys.length with hj | hj
 ·rw [g3 j (by omega)]
  rw [List.getElem?_append_left hj] at hy
  exact hys j y hy
 ·rw [List.getElem?_append_right hj] at hy
  have Cb:j - ys.length=0:=by have:=(List.getElem?_eq_some_iff.1 hy).1;simpa using this
  rw [Cb] at hy
  simp at hy;subst hy
  have:=g4 0 _ rfl
  rw [show 0+ys.length+0=j by omega] at this
  exact this
abbrev kL (ys:List Int) (i:Nat) (x:Int):List Int:=ys.take i++x::ys.drop i
theorem Gp {ys:List Int} {i:Nat} {x:Int} (hi:i≤ys.length) {j:Nat} {y:Int} (h:(kL ys i x)[j]?=some y):(j<i∧ys[j]?=some y)∨(j=i∧y=x)∨(i<j∧ys[j - 1]?=some y):=by
 have hl:(ys.take i).length=i:=by simp;omega
 rcases Nat.lt_trichotomy j i with hj | hj | hj
 ·rw [List.getElem?_append_left (by omega),List.getElem?_take_of_lt hj] at h
  exact .inl ⟨hj,h⟩
 ·rw [List.getElem?_append_right (by omega),hl,hj,Nat.sub_self] at h
  simp at h
  exact .inr (.inl ⟨hj,h.symm⟩)
 ·rw [List.getElem?_append_right (by omega),hl,show j - i=(j - i - 1)+1 by omega,List.getElem?_cons_succ,List.getElem?_drop,show i+(j - i - 1)=j - 1 by omega] at h
  exact .inr (.inr ⟨hj,h⟩)
theorem wI (ys:List Int) (i:Nat) (x:Int) (hi:i≤ys.length):(kL ys i x).length=ys.length+1:=by simp;omega
include L in
theorem Ph {b c:Nat} {cur:Array Value} {t:TypeId} (hi:i<ys.length) (hb:w.heap[b]?=some (.cells cur t (0,0))) (hys:∀ (j:Nat) (y:Int),ys[j]?=some y→cur[j]?=some (.int .i64 y)) (hc:ys.length+1≤c) (nq:c≤maxLen) (hcs:c≤cur.size)
 (hv:w.heap[vb]?=some (.cells lE vt (0,0))) (h0:lE[0]?=some (.int .i64 x)) (hne:vb≠b) :
 Calls P (ρ.f 21) #[.slice (some ⟨b,0,none⟩) ys.length c,.int .i64 i,.slice (some ⟨vb,0,none⟩) 1 vc] w fun e w'=>∃ v,e = .returned v∧tM w w' (some b) (vI (kL ys i x)) v:=by
 refine (Any2.slices_Insert_int_shift L b 0 ys.length c i vb 0 1 vc (vI ys) [.int .i64 x] w hi (by omega) hc (by simp only [maxLen] at nq;omega) hne (by simp) rfl (fun j v hj=>by
  obtain ⟨y,hy,rfl⟩:=vf hj
  rw [Nat.zero_add,tX hb];exact hys j y hy) (fun j hj=>?_) (fun j hj=>frozen_of_row _ _ _ _ _ hb) (xE hv h0) JD (by simp;rfl) vt t lE.size cur.size ?_ ?_ (by omega) (frozen_of_row _ _ _ _ _ hv) (frozen_of_row _ _ _ _ _ hv)).mono ?_
 ·rw [tX hb]
  rw [Array.getElem?_eq_getElem (by omega)];rfl
 ·simp [World.shape?,hv]
 ·simp [World.shape?,hb]
 rintro e w' ⟨rfl,rfl⟩
 have hb':w.drew.heap[b]?=some (.cells cur t (0,0)):=hb
 have hdl:((vI ys).drop i).length=ys.length - i:=by simp
 obtain ⟨yE,g1,g2,g3,g4⟩:=uu ((vI ys).drop i) (0+(i+1)) w.drew cur hb' (by rw [hdl];omega)
 obtain ⟨r1,r2,r3,r4⟩:=uR (b:=b) ((vI ys).drop i) (0+(i+1)) w.drew
 obtain ⟨Bg,k1,k2,k3,k4⟩:=uu [.int .i64 x] (0+i) _ yE g1 (by simp;omega)
 obtain ⟨s1,s2,s3,s4⟩:=uR (b:=b) [.int .i64 x] (0+i) (w.drew.setCells b (0+(i+1)) ((vI ys).drop i))
 refine ⟨_,rfl,b,Bg,t,c,by rw [List.length_map,wI _ _ _ (by omega)],k1,fun k hk hne=>by rw [uv _ _ _ k hne,uv _ _ _ k hne];rfl,s1.trans r1,s2.trans r2,s3.trans r3,by rw [s4,r4];exact Nat.le_refl _,fun j u hu=>?_,by rw [List.length_map,wI _ _ _ (by omega)];exact hc,nq,by omega,.inl rfl⟩
 obtain ⟨y,hy,rfl⟩:=vf hu
 rcases Gp (by omega) hy with ⟨hj,fQ⟩ | ⟨rfl,rfl⟩ | ⟨hj,fQ⟩
 ·rw [k3 j (by simp;omega),g3 j (by omega)]
  exact hys j y fQ
 ·have:=k4 0 _ rfl
  rwa [show 0+j+0=j by omega] at this
 ·rw [k3 j (by simp;omega)]
  have:=g4 (j - 1 - i) (.int .i64 y) (by rw [List.getElem?_drop,List.getElem?_map,show i+(j - 1 - i)=j - 1 by omega,fQ];rfl)
  rwa [show 0+(i+1)+(j - 1 - i)=j by omega] at this
include L in
theorem Pf {b c:Nat} {cur:Array Value} {t:TypeId} (hi:i<ys.length) (hb:w.heap[b]?=some (.cells cur t (0,0))) (hys:∀ (j:Nat) (y:Int),ys[j]?=some y→cur[j]?=some (.int .i64 y)) (hnc:ys.length≤c) (hc:c<ys.length+1) (hbig:ys.length≤1000000)
 (hv:w.heap[vb]?=some (.cells lE vt (0,0))) (h0:lE[0]?=some (.int .i64 x)) :
 Calls P (ρ.f 21) #[.slice (some ⟨b,0,none⟩) ys.length c,.int .i64 i,.slice (some ⟨vb,0,none⟩) 1 vc] w fun e w'=>∃ v,e = .returned v∧tM w w' (some b) (vI (kL ys i x)) v:=by
 refine (Any2.slices_Insert_int_grow L b 0 ys.length c i vb 0 1 vc (vI ys) [.int .i64 x] w hi (by omega) hnc hc (by omega) (by simp) rfl (fun j v hj=>by
  obtain ⟨y,hy,rfl⟩:=vf hj
  rw [Nat.zero_add,tX hb];exact hys j y hy) (xE hv h0) JD (by simp;rfl)).mono ?_
 rintro e w' ⟨rfl,rfl⟩
 have hg:=grownCap_ge w (ys.length+1) c (ρ.t 3)
 have hm:=grownCap_le_maxLen w (ys.length+1) c (ρ.t 3) (by simp only [maxLen];omega)
 generalize hG:grownCap w (ys.length+1) c (ρ.t 3)=G at *
 generalize hA:((vI ys).take i).toArray++Builtin.zeroCells (Value.int .i64 0).cells (ys.length+1 - i)++Builtin.zeroCells (Value.int .i64 0).cells (G - (ys.length+1))=A at *
 have WU:A.size=G:=by
  rw [← hA]
  simp only [Array.size_append,DJ,List.size_toArray,List.length_take,List.length_map]
  omega
 have NH:∀ (j:Nat) (y:Int),j<i→ys[j]?=some y→A[j]?=some (.int .i64 y):=fun j y hj hy=>by
  have hjl:j<ys.length:=by omega
  rw [← hA,Array.getElem?_append_left (by simp;omega),Array.getElem?_append_left (by simp;omega)]
  simp [List.getElem?_take_of_lt hj,hy]
 have hb1:(w.alloc (.cells A (ρ.t 3))).drew.heap[w.heap.size]?=some (.cells A (ρ.t 3) (0,0)):=heap_alloc_new w _
 obtain ⟨yE,g1,g2,g3,g4⟩:=uu [.int .i64 x] i _ A hb1 (by simp;omega)
 obtain ⟨r1,r2,r3,r4⟩:=uR (b:=w.heap.size) [.int .i64 x] i (w.alloc (.cells A (ρ.t 3))).drew
 have hb2:(((w.alloc (.cells A (ρ.t 3))).drew.setCells w.heap.size i [.int .i64 x]).drew).heap[w.heap.size]?=some (.cells yE (ρ.t 3) (0,0)):=g1
 have hdl:((vI ys).drop i).length=ys.length - i:=by simp
 obtain ⟨Bg,k1,k2,k3,k4⟩:=uu ((vI ys).drop i) (i+1) _ yE hb2 (by rw [hdl];omega)
 obtain ⟨s1,s2,s3,s4⟩:=uR (b:=w.heap.size) ((vI ys).drop i) (i+1) ((w.alloc (.cells A (ρ.t 3))).drew.setCells w.heap.size i [.int .i64 x]).drew
 refine ⟨_,rfl,w.heap.size,Bg,ρ.t 3,G,by rw [List.length_map,wI _ _ _ (by omega)],k1,fun k hk hne=>?_,s1.trans r1,s2.trans r2,s3.trans r3,?_,fun j u hu=>?_,by rw [List.length_map,wI _ _ _ (by omega)];exact hg,hm,by omega,.inr (Nat.le_refl _)⟩
 ·rw [uv _ _ _ k hne]
  show (((w.alloc (.cells A (ρ.t 3))).drew.setCells w.heap.size i [.int .i64 x])).heap[k]?=_
  rw [uv _ _ _ k hne]
  exact heap_alloc_old w _ hk
 ·rw [s4]
  show w.heap.size≤(((w.alloc (.cells A (ρ.t 3))).drew.setCells w.heap.size i [.int .i64 x])).heap.size
  rw [r4]
  simp
 obtain ⟨y,hy,rfl⟩:=vf hu
 rcases Gp (by omega) hy with ⟨hj,fQ⟩ | ⟨rfl,rfl⟩ | ⟨hj,fQ⟩
 ·rw [k3 j (by omega),g3 j (by omega)]
  exact NH j y hj fQ
 ·rw [k3 j (by omega)]
  have:=g4 0 _ rfl
  rwa [Nat.add_zero] at this
 ·have:=k4 (j - 1 - i) (.int .i64 y) (by rw [List.getElem?_drop,List.getElem?_map,show i+(j - 1 - i)=j - 1 by omega,fQ];rfl)
  rwa [show i+1+(j - 1 - i)=j by omega] at this
end
abbrev oQ (l:List Int):List (List SV):=l.map fun y=>[SV.rv (.int .i64 y)]
theorem Il {w:World} {ok:Nat→Prop} {aa:Nat→Option Nat} {hp:Hp} {cur:Array Value} {v:Nat} {l:List Int} (h:kf w ok aa hp cur (.row 1 v (oQ l))):∀ (j:Nat) (y:Int),l[j]?=some y→cur[j]?=some (.int .i64 y):=by
 intro j y hy
 obtain ⟨_,_,h3⟩:=h
 obtain ⟨u,h4,_,h5⟩:=h3 j [.rv (.int .i64 y)] (by simp [hy]) 0 (.rv (.int .i64 y)) rfl
 rw [show j*1+0=j by omega] at h4
 cases h5 with
 | rv _ _ h6=>cases h6;exact h4
theorem LD {P:Program} {ρ:Ren} (L:Lays2.n21 P ρ) (hcb:tV P (ρ.f 21)=true) (j j2 v v2 i n:Nat) (x:Int) (xs:List Int) (hj:j≠j2) (hn:n≤xs.length) (hi:i≤n) (hbig:n≤1000000) :
 aL P (ρ.f 21) [.row j v n,.rv (.int .i64 i),.row j2 v2 1] [(j,.row 1 v (oQ xs)),(j2,.row 1 v2 (oQ [x]))] [(j,.row 1 (v+1) (oQ (kL (xs.take n) i x)))] (.row j (v+1) (n+1)):=by
 refine ⟨hcb,fun C hp w aa vs hpre hnew R hl hvs=>?_⟩
 have js:=hpre (j,.row 1 v (oQ xs)) (.head _)
 have hpk:=hpre (j2,.row 1 v2 (oQ [x])) (.tail _ (.head _))
 obtain ⟨a0,a1,a2,rfl⟩:∃ a b c,vs=[a,b,c]:=by
  match vs,hl with
  | [a,b,c],_=>exact ⟨a,b,c,rfl⟩
 have h0:=hvs 0 _ rfl
 have h1:=hvs 1 _ rfl
 have h2:=hvs 2 _ rfl
 simp only [List.getD_cons_zero,List.getD_cons_succ] at h0 h1 h2
 obtain rfl:a1 = .int .i64 i:=by
  cases h1 with
  | rv _ _ h=>cases h;rfl
 obtain ⟨vb,vc,lE,vt,rfl,hv,wC,OC⟩:∃ vb vc lE vt,a2 = .slice (some ⟨vb,0,none⟩) 1 vc∧w.heap[vb]?=some (.cells lE vt (0,0))∧lE[0]?=some (.int .i64 x)∧aa j2=some vb:=by
  cases h2 with
  | row _ _ _ _ g1 g0 gv gh=>
    rcases gh 1 _ hpk with ⟨_,_,h⟩ | ⟨b,cap,cur,t,e1,e2,e3,_⟩
    ·cases h
    ·rcases R.heap j2 _ hpk with ⟨hn,_⟩ | ⟨b',cur',t',f1,f2,f3⟩
     ·rw [hn] at e1;cases e1
     ·rw [e1] at f1;cases f1
      rw [e3] at f2;cases f2
      exact ⟨b,cap,cur,t,e2,e3,Il f3 0 x rfl,e1⟩
 have hys:∀ (k:Nat) (y:Int),(xs.take n)[k]?=some y→xs[k]?=some y:=fun k y hy=>by
  rw [List.getElem?_take] at hy
  split at hy
  ·exact hy
  ·cases hy
 have ku:(xs.take n).length=n:=by simp;omega
 have vP:∀ (ob:Option Nat) (tg:List Int) (w':World) (u:Value),tg=kL (xs.take n) i x→tM w w' ob (vI tg) u→(∀ b,ob=some b→aa j=some b)→∃ v' aK,Ending.returned u=Ending.returned v'∧Step C hp (bP hp [(j,.row 1 (v+1) (oQ (kL (xs.take n) i x)))]) w w' aa aK∧Rp w' (aI C aK (bP hp [(j,.row 1 (v+1) (oQ (kL (xs.take n) i x)))])) aK (bP hp [(j,.row 1 (v+1) (oQ (kL (xs.take n) i x)))]) (.row j (v+1) (n+1)) v':=by
  rintro ob tg w' u rfl ⟨b,cur,t,cap,rfl,e1,e2,e3,e4,e5,e6,e7,e8,e9,WO,Mf⟩ lf
  have hlen:(kL (xs.take n) i x).length=n+1:=by rw [wI _ _ _ (by omega),ku]
  have htl:(vI (kL (xs.take n) i x)).length=n+1:=by rw [List.length_map,hlen]
  rw [htl] at e8
  have S:Step C hp (up hp j (some (.row 1 (v+1) (oQ (kL (xs.take n) i x))))) w w' aa (up aa j (some b)):=by
   refine R.replace j _ b cur t e3 e4 e5 e6 e1 e2 ?_ (fun hb hq=>?_) (fun hq=>?_) ⟨fun z hz=>?_,?_,fun k z hz=>?_⟩
   ·rcases Mf with h | h
    ·exact .inl ⟨by rw [js];rfl,lf _ h⟩
    ·exact .inr h
   ·rw [js] at hq;cases hq
    exact ⟨by omega,fun h=>by omega⟩
   ·rw [js] at hq;cases hq
   ·obtain ⟨y,_,rfl⟩:=List.mem_map.1 hz;rfl
   ·rw [List.length_map,hlen];omega
   ·rw [List.getElem?_map,Option.map_eq_some_iff] at hz
    obtain ⟨y,hy,rfl⟩:=hz
    intro q z hq
    match q with
    | 0=>
      cases hq
      refine ⟨.int .i64 y,?_,rfl,.rv _ _ (.int _ _)⟩
      have:=e7 k (.int .i64 y) (by rw [List.getElem?_map,hy];rfl)
      rwa [show k*1+0=k by omega]
    | q+1=>simp at hq
  refine ⟨_,up aa j (some b),rfl,S,.row j (v+1) (n+1) _ rfl (by simp [bP]) (fun e gp gT h=>?_) (fun e gT h=>.inr ⟨b,cap,cur,t,cr _ _ _,by rw [htl],e1,e8,e9,?_⟩)⟩
  ·simp only [bP,cr] at h;cases h;exact Nat.le_refl _
  ·simp only [bP,cr] at h;cases h;omega
 cases h0 with
 | row _ _ _ _ g1 g0 gv gh=>
   rcases gh 1 _ js with ⟨_,rfl,hn0⟩ | ⟨b,cap,cur,t,e1,rfl,e3,e4,e5,e6⟩
   ·subst hn0
    obtain rfl:i=0:=by omega
    refine (Pg L hv wC).mono ?_
    rintro e w' ⟨u,rfl,hu⟩
    exact vP none [x] w' u rfl hu (fun b h=>by cases h)
   ·have hf:∀ (k:Nat) (y:Int),(xs.take n)[k]?=some y→cur[k]?=some (.int .i64 y):=by
     rcases R.heap j _ js with ⟨hn,_⟩ | ⟨b',cur',t',f1,f2,f3⟩
     ·rw [hn] at e1;cases e1
     ·rw [e1] at f1;cases f1
      rw [e3] at f2;cases f2
      exact fun k y hy=>Il f3 k y (hys k y hy)
    have hne:vb≠b:=fun h=>by
     subst h
     exact hj (R.inj j j2 vb (by rw [js];rfl) (by rw [hpk];rfl) e1 OC)
    have lf:∀ b',some b=some b'→aa j=some b':=fun b' h=>by cases h;exact e1
    rw [Nat.mul_one] at e6
    have za:=fun tg w' u=>vP (some b) tg w' u
    rcases Nat.lt_or_ge i n with hin | hin
    ·rcases Nat.lt_or_ge cap (n+1) with hc | hc
     ·have:=Pf L (ys:=xs.take n) (i:=i) (x:=x) (vc:=vc) (c:=cap) (by omega) e3 hf (by omega) (by omega) (by omega) hv wC
      rw [ku] at this
      refine this.mono ?_
      rintro e w' ⟨u,rfl,hu⟩
      exact za _ w' u rfl hu lf
     ·have:=Ph L (ys:=xs.take n) (i:=i) (x:=x) (vc:=vc) (c:=cap) (by omega) e3 hf (by omega) e5 e6 hv wC hne
      rw [ku] at this
      refine this.mono ?_
      rintro e w' ⟨u,rfl,hu⟩
      exact za _ w' u rfl hu lf
    ·obtain rfl:i=n:=by omega
     have vS:kL (xs.take i) i x=xs.take i++[x]:=by
      unfold kL
      rw [List.take_of_length_le (by omega),List.drop_of_length_le (by omega)]
     rcases Nat.lt_or_ge cap (i+1) with hc | hc
     ·have:=Pd L (ys:=xs.take i) (x:=x) (vc:=vc) (c:=cap) e3 hf (by omega) (by omega) (by omega) hv wC
      rw [ku] at this
      refine this.mono ?_
      rintro e w' ⟨u,rfl,hu⟩
      exact za _ w' u vS.symm hu lf
     ·have:=Pe L (ys:=xs.take i) (x:=x) (vc:=vc) (c:=cap) e3 hf (by omega) e5 e6 hv wC
      rw [ku] at this
      refine this.mono ?_
      rintro e w' ⟨u,rfl,hu⟩
      exact za _ w' u vS.symm hu lf
theorem Wu {p X:Prop} (h1:X→p) (h2:X):p:=h1 h2
theorem Mk {n0:Nat} {env env':List (Nat×SV)} {h' C:List (Option HB)} {n j e az len:Nat} {xs:List (List RV)} (hn:n0≤h'.length) (hC:lH (nc h'.length) h') (hr:lk env n = .row j az len) (hj:h'.length≤j)
 (hg:aB (h'++C) j=some (.row e az (aM xs))) (hl:len≤xs.length) (h1:∀ x∈xs,∀ r∈x,r.one=true) (he:iC h'.length env env'):gi n0 ⟨env,h'++C⟩ ⟨(n,.rv (.sl e (xs.take len)))::env',h'⟩:=by
 refine Bu (gU h'.length) hn (fun j i hj=>?_) (fun j hj=>?_) (fun j=>?_) (wU (fun x=>.dead x) (fun p hp=>?_))
 ·unfold gU at hj;split at hj <;> cases hj;rfl
 ·unfold gU at hj;split at hj
  ·cases hj
  ·omega
 ·by_cases hj:j<h'.length
  ·obtain ⟨hb,g1,g2⟩:=hC.get j hj
   exact .inl ⟨hb,hb,by simp [gU,hj],pU.2 (by rw [List.getElem?_append_left hj];exact g1),pU.2 g1,g2.rn⟩
  ·refine .inr ⟨?_,.inl (by simp [gU,hj])⟩
   unfold aB
   rw [List.getElem?_eq_none (by omega)]
 ·rcases List.mem_cons.1 hp with rfl | hp
  ·dsimp only
   rw [hr]
   exact .fz _ _ (nP hg (by simp [gU];omega) hl h1)
  ·rcases he.get p hp with h | ⟨h1,h2⟩
   ·rw [h];exact .dead _
   ·rw [h1];exact h2.rn
theorem Ml {n0:Nat} {env env':List (Nat×SV)} {h' C:List (Option HB)} {n j e az len:Nat} {xs ys:List (List RV)} (hys:xs.take len=ys) (hn:n0≤h'.length) (hC:lH (nc h'.length) h') (hr:lk env n = .row j az len) (hj:h'.length≤j)
 (hg:aB (h'++C) j=some (.row e az (aM xs))) (hl:len≤xs.length) (h1:∀ x∈xs,∀ r∈x,r.one=true) (he:iC h'.length env env'):gi n0 ⟨env,h'++C⟩ ⟨(n,.rv (.sl e ys))::env',h'⟩:=by
 rw [← hys];exact Mk hn hC hr hj hg hl h1 he
end Go.aJ

namespace Go.aJ
open Go Go.Proofs Go.Shelf
theorem Qa:aX Go.Proofs.Tryz.prog 121 6 (fc Go.Proofs.Tryz.prog 121 6 [(.t 2)]) [(.t 2)]:=br (by kernel_rfl)
theorem PZ:aX Go.Proofs.Tryz.prog 103 17 (fc Go.Proofs.Tryz.prog 103 17 [(.t 4)]) [(.t 4)]:=br (by kernel_rfl)
theorem RH:aX Go.Proofs.Tryz.prog 104 6 (fc Go.Proofs.Tryz.prog 104 6 [(.t 2)]) [(.t 2)]:=br (by kernel_rfl)
theorem Rx:aX Go.Proofs.Tryz.prog 77 54 (fc Go.Proofs.Tryz.prog 77 54 [(.t 4),(.t 5)]) [(.t 4),(.t 5)]:=br (by kernel_rfl)
def TR:Ren:=⟨fun x=>if x=21 then 78 else if x=27 then 105 else if x=28 then 106 else if x=35 then 122 else if x=39 then 125 else x,
 fun t=>if t=3 then 3 else if t=4 then 4 else if t=22 then 90 else t,fun x=>x⟩
theorem Sn:Lays2.n21 Go.Proofs.Tryz.prog TR where
 mixed:=by kernel_rfl
 f21:=by kernel_rfl
 f27:=by kernel_rfl
 f28:=by kernel_rfl
 f35:=by kernel_rfl
 f39:=by kernel_rfl
 t0:=Tryz.underlying0
 a0:=Tryz.isAgg0
 z0:=fun w=>by rw [jB (n:=1) (by kernel_rfl)]
 v0:=Tryz.zeroValue0
 t3:=Tryz.underlying3
 a3:=Tryz.isAgg3
 z3:=Tryz.sizeOf3
 v3:=Tryz.zeroValue3
 t4:=Tryz.underlying4
 a4:=Tryz.isAgg4
 z4:=Tryz.sizeOf4
 v4:=Tryz.zeroValue4
 t22:=Tryz.underlying90
 a22:=Tryz.isAgg90
 z22:=Tryz.sizeOf90
 v22:=Tryz.zeroValue90
 i3:=by kernel_rfl
theorem Gj (xs:List Int):oQ xs=aM (aN xs):=by simp [aM,aN]
theorem UG (j j2 v v2 i n:Nat) (x:Int) (xs:List Int) (hj:j≠j2) (hn:n≤xs.length) (hi:i≤n) (hbig:n≤1000000) :
 aL Go.Proofs.Tryz.prog 78 [.row j v n,.rv (.int .i64 i),.row j2 v2 1] [(j,.row 1 v (aM (aN xs))),(j2,.row 1 v2 [[.rv (.int .i64 x)]])] [(j,.row 1 (v+1) (aM (aN (kL (xs.take n) i x))))] (.row j (v+1) (n+1)):=by
 have:=LD (P:=Go.Proofs.Tryz.prog) Sn (by kernel_rfl) j j2 v v2 i n x xs hj hn hi hbig
 rw [Gj xs,Gj (kL (xs.take n) i x)] at this
 exact this
theorem Vj (a:Int):aL Go.Proofs.Tryz.prog 121 [.rv (.int .i64 a)] [] [] (.rv (.bool false)):=by
 refine bz Qa [.rv (.int .i64 a)] _ (by simp) (by simp [aP,bg,bu,aY,bq,aC.sv,Ln.sv,Nd.sv]) (fun K hK=>?_)
 have h:(a != a)=false:=by simp
 conv in fc _ _ _ _=>reduce
 simp -implicitDefEqProofs only [go_sem,Int.reduceNegSucc]
 repeat' (first | (simp -implicitDefEqProofs only [go_sem,Int.reduceNegSucc,h]) | (with_reducible refine aA ?_) | ((first | refine aj (fun hg=>?_) (fun hg=>?_) | refine ax (fun hg=>?_) (fun hg=>?_) | refine ay (fun hg=>?_) (fun hg=>?_)) <;> try simp -implicitDefEqProofs only [hg,Bool.not_true,Bool.not_false]) | ((with_reducible apply And.intro);focus (first | trivial | omega | decide | (simp -implicitDefEqProofs only [maxLen];omega) | (simp [maxLen,af,ak,an,av,ai,au,aq] <;> omega))) | fail)
 exact (hK _ _ (bU rfl)).2
theorem Va (a b:Int):aL Go.Proofs.Tryz.prog 103 [.rv (.int .i64 a),.rv (.int .i64 b)] [] [] (.rv (.bool (decide (a<b)))):=by
 refine bz PZ [.rv (.int .i64 a),.rv (.int .i64 b)] _ (by simp) (by simp [aP,bg,bu,aY,bq,aC.sv,Ln.sv,Nd.sv]) (fun K hK=>?_)
 conv in fc _ _ _ _=>reduce
 simp -implicitDefEqProofs only [go_sem,Int.reduceNegSucc]
 have bh:=Vj a;repeat' (first | (simp -implicitDefEqProofs only [go_sem,Int.reduceNegSucc]) | (with_reducible refine aA ?_) | (with_reducible first | refine ag bh ?_ | refine ah bh ?_) | ((first | refine aj (fun hg=>?_) (fun hg=>?_) | refine ax (fun hg=>?_) (fun hg=>?_) | refine ay (fun hg=>?_) (fun hg=>?_)) <;> try simp -implicitDefEqProofs only [hg,Bool.not_true,Bool.not_false]) | ((with_reducible apply And.intro);focus (first | trivial | omega | decide | (simp -implicitDefEqProofs only [maxLen];omega) | (simp [maxLen,af,ak,an,av,ai,au,aq] <;> omega))) | fail)
 exact (hK _ _ (bU rfl)).2
theorem Vk (a:Int):aL Go.Proofs.Tryz.prog 104 [.rv (.int .i64 a)] [] [] (.rv (.bool false)):=by
 refine bz RH [.rv (.int .i64 a)] _ (by simp) (by simp [aP,bg,bu,aY,bq,aC.sv,Ln.sv,Nd.sv]) (fun K hK=>?_)
 have h:(a != a)=false:=by simp
 conv in fc _ _ _ _=>reduce
 simp -implicitDefEqProofs only [go_sem,Int.reduceNegSucc]
 repeat' (first | (simp -implicitDefEqProofs only [go_sem,Int.reduceNegSucc,h]) | (with_reducible refine aA ?_) | ((first | refine aj (fun hg=>?_) (fun hg=>?_) | refine ax (fun hg=>?_) (fun hg=>?_) | refine ay (fun hg=>?_) (fun hg=>?_)) <;> try simp -implicitDefEqProofs only [hg,Bool.not_true,Bool.not_false]) | ((with_reducible apply And.intro);focus (first | trivial | omega | decide | (simp -implicitDefEqProofs only [maxLen];omega) | (simp [maxLen,af,ak,an,av,ai,au,aq] <;> omega))) | fail)
 exact (hK _ _ (bU rfl)).2
def kj (ks:List Nat) (x:Nat):Nat:=(ks.filter fun y=>decide (y<x)).length
def yT (ks:List Nat) (x:Nat):Bool:=if h:kj ks x<ks.length then ((ks[kj ks x]'h:Nat):Int) ==(x:Int) else false
theorem Ey (ks:List Nat) (x:Nat):kj ks x≤ks.length:=List.length_filter_le _ _
theorem LZ {ks:List Nat} {x i:Nat} (hi:i≤ks.length) (h1:∀ j (h:j<ks.length),j<i→ks[j]<x) (h2:∀ j (h:j<ks.length),i≤j→x≤ks[j]):kj ks x=i:=by
 unfold kj
 have e1:(ks.take i).filter (fun y=>decide (y<x))=ks.take i:=List.filter_eq_self.2 fun a ha=>by
  obtain ⟨j,hj,rfl⟩:=List.getElem_of_mem ha
  simp -implicitDefEqProofs only [List.length_take] at hj
  rw [List.getElem_take]
  exact decide_eq_true (h1 j (by omega) (by omega))
 have e2:(ks.drop i).filter (fun y=>decide (y<x))=[]:=List.filter_eq_nil_iff.2 fun a ha=>by
  obtain ⟨j,hj,rfl⟩:=List.getElem_of_mem ha
  simp -implicitDefEqProofs only [List.length_drop] at hj
  rw [List.getElem_drop]
  have:=h2 (i+j) (by omega) (by omega)
  simp;omega
 have e3:=List.take_append_drop i ks
 rw [← e3,List.filter_append,e1,e2,List.append_nil,List.length_take]
 omega
theorem Fx (a:Int):a.fdiv (2 ^ min 1 64)=a / 2:=by
 rw [Int.fdiv_eq_ediv_of_nonneg _ (by decide)];rfl
theorem Wx {n:Int} (h1:0≤n) (h2:n<18446744073709551616):IntKind.u64.wrap n=n:=by
 have:IntKind.u64.wrap n=n % 18446744073709551616:=by rfl
 rw [this];omega
theorem Uu (ks:List Nat) (x:Nat) (hb:ks.length≤1000000) (hp:ks.Pairwise (·< ·)):aL Go.Proofs.Tryz.prog 77 [.rv (.sl 1 (aN (bt ks))),.rv (.int .i64 x)] [] [] (.aO [.rv (.int .i64 (kj ks x)),.rv (.bool (yT ks x))]):=by
 refine bz Rx [.rv (.sl 1 (aN (bt ks))),.rv (.int .i64 x)] _ (by simp) (by simp [aP,bg,bu,aY,bq,aC.sv,Ln.sv,Nd.sv]) (fun K hK=>?_)
 have hl:=zK ks
 conv in fc _ _ _ _=>reduce
 simp -implicitDefEqProofs only [go_sem,Int.reduceNegSucc]
 repeat' (first | (simp -implicitDefEqProofs only [go_sem,Int.reduceNegSucc,hl]) | (with_reducible refine aA ?_) | ((first | refine aj (fun hg=>?_) (fun hg=>?_) | refine ax (fun hg=>?_) (fun hg=>?_) | refine ay (fun hg=>?_) (fun hg=>?_)) <;> try simp -implicitDefEqProofs only [hg,Bool.not_true,Bool.not_false]) | ((with_reducible apply And.intro);focus (first | trivial | omega | decide | (simp -implicitDefEqProofs only [maxLen];omega) | (simp [maxLen,af,ak,an,av,ai,au,aq] <;> omega))) | fail)
 refine fG (ι:=Nat×Nat) (fun q=>[(7,.rv (.int .i64 q.1)),(8,.rv (.int .i64 q.2)),(6,.rv (.int .i64 ks.length)),(0,.rv (.sl 1 (aN (bt ks)))),(1,.rv (.int .i64 x))]) (fun _=>[])
  (fun q=>q.1≤q.2∧q.2≤ks.length∧(∀ j (h:j<ks.length),j<q.1→ks[j]<x)∧∀ j (h:j<ks.length),q.2≤j→x≤ks[j]) (fun q=>q.2 - q.1) (0,ks.length) ⟨Nat.zero_le _,Nat.le_refl _,fun j h h2=>absurd h2 (by simp),fun j h h2=>absurd h2 (by simp;omega)⟩ (aU (by simp [lk])) (fun q hq K' hN hX hR=>?_)
 obtain ⟨i,j⟩:=q
 obtain ⟨h1,h2,h3,h4⟩:=hq
 dsimp at h1 h2 h3 h4 ⊢
 simp -implicitDefEqProofs only [go_sem,Int.reduceNegSucc]
 refine aj (fun hg=>?_) (fun hg=>?_)
 ·have hij:i<j:=by simp at hg;omega
  have w1:IntKind.i64.wrap ((i:Int)+j)=(i:Int)+j:=wrap_i64 (by omega) (by omega)
  have w2:IntKind.u64.wrap ((i:Int)+j)=(i:Int)+j:=Wx (by omega) (by omega)
  obtain ⟨m,hm⟩:∃ m:Nat,m=(i+j) / 2:=⟨_,rfl⟩
  have w3:((i:Int)+j) / 2=(m:Int):=by omega
  have w4:IntKind.i64.wrap (m:Int)=m:=wrap_i64 (by omega) (by omega)
  have w5:=cw (k:=m) (by omega)
  have hml:m<ks.length:=by omega
  have hx:(aN (bt ks))[m]?.getD []=[.int .i64 (ks[m]:Nat)]:=by simp [aN,bt,hml]
  have hc:=Va (ks[m]:Nat) x
  have hlt:∀ a b (ha:a<ks.length) (hb:b<ks.length),a<b→ks[a]<ks[b]:=fun a b ha hb hab=>List.pairwise_iff_getElem.1 hp a b ha hb hab
  by_cases nq:ks[m]<x
  ·have e:decide (((ks[m]:Nat):Int)<(x:Int))=true:=decide_eq_true (by omega)
   rw [e] at hc
   have y_2:=hc;repeat' (first | (simp -implicitDefEqProofs only [go_sem,Int.reduceNegSucc,hl,w1,w2,Fx,w3,w4,w5,hx]) | (with_reducible refine aA ?_) | (with_reducible first | refine ag y_2 ?_ | refine ah y_2 ?_) | ((first | refine aj (fun hg=>?_) (fun hg=>?_) | refine ax (fun hg=>?_) (fun hg=>?_) | refine ay (fun hg=>?_) (fun hg=>?_)) <;> try simp -implicitDefEqProofs only [hg,Bool.not_true,Bool.not_false]) | ((with_reducible apply And.intro);focus (first | trivial | omega | decide | (simp -implicitDefEqProofs only [maxLen];omega) | (simp [maxLen,af,ak,an,av,ai,au,aq] <;> omega) | (omega;done))) | fail)
   refine hN (m+1,j) _ _ ⟨by dsimp;omega,h2,fun a ha Cd=>?_,h4⟩ (by dsimp;omega) (aU (by simp [lk]))
   dsimp at Cd
   rcases Nat.lt_or_ge a m with h | h
   ·have:=hlt a m ha hml h;omega
   ·obtain rfl:a=m:=by omega
    exact nq
  ·have e:decide (((ks[m]:Nat):Int)<(x:Int))=false:=decide_eq_false (by omega)
   rw [e] at hc
   have bC:=hc;repeat' (first | (simp -implicitDefEqProofs only [go_sem,Int.reduceNegSucc,hl,w1,w2,Fx,w3,w4,w5,hx]) | (with_reducible refine aA ?_) | (with_reducible first | refine ag bC ?_ | refine ah bC ?_) | ((first | refine aj (fun hg=>?_) (fun hg=>?_) | refine ax (fun hg=>?_) (fun hg=>?_) | refine ay (fun hg=>?_) (fun hg=>?_)) <;> try simp -implicitDefEqProofs only [hg,Bool.not_true,Bool.not_false]) | ((with_reducible apply And.intro);focus (first | trivial | omega | decide | (simp -implicitDefEqProofs only [maxLen];omega) | (simp [maxLen,af,ak,an,av,ai,au,aq] <;> omega) | (omega;done))) | fail)
   refine hN (i,m) _ _ ⟨by dsimp;omega,by dsimp;omega,h3,fun a ha Cd=>?_⟩ (by dsimp;omega) (aU (by simp [lk]))
   dsimp at Cd
   rcases Nat.lt_or_ge m a with h | h
   ·have:=hlt m a hml ha h;omega
   ·obtain rfl:a=m:=by omega
    omega
 ·have hij:i=j:=by simp at hg;omega
  subst hij
  simp -implicitDefEqProofs only [go_sem,Int.reduceNegSucc]
  refine hX _ _ _ ?_
  clear hN hX hR
  have vK:=LZ h2 h3 h4
  have jI:yT ks x=if h:i<ks.length then ((ks[i]'h:Nat):Int) ==(x:Int) else false:=by unfold yT;simp -implicitDefEqProofs only [vK]
  rw [vK,jI] at hK
  by_cases fE:i<ks.length
  ·have e:decide ((i:Int)<(ks.length:Int))=true:=decide_eq_true (by omega)
   have hx:(aN (bt ks))[i]?.getD []=[.int .i64 (ks[i]:Nat)]:=by simp [aN,bt,fE]
   rw [dif_pos fE] at hK
   have hn:=Vk (ks[i]:Nat)
   cases hq:(((ks[i]:Nat):Int) ==(x:Int)) with
   | true=>
     rw [hq] at hK
     have bI:=hn;repeat' (first | (simp -implicitDefEqProofs only [go_sem,Int.reduceNegSucc,hl,e,hx,hq]) | (with_reducible refine aA ?_) | (with_reducible first | refine ag bI ?_ | refine ah bI ?_) | ((first | refine aj (fun hg=>?_) (fun hg=>?_) | refine ax (fun hg=>?_) (fun hg=>?_) | refine ay (fun hg=>?_) (fun hg=>?_)) <;> try simp -implicitDefEqProofs only [hg,Bool.not_true,Bool.not_false]) | ((with_reducible apply And.intro);focus (first | trivial | omega | decide | (simp -implicitDefEqProofs only [maxLen];omega) | (simp [maxLen,af,ak,an,av,ai,au,aq] <;> omega))) | fail)
     refine (hK _ _ (gM ?_ ?_)).2 <;> rfl
   | false=>
     rw [hq] at hK
     have bK:=hn;repeat' (first | (simp -implicitDefEqProofs only [go_sem,Int.reduceNegSucc,hl,e,hx,hq]) | (with_reducible refine aA ?_) | (with_reducible first | refine ag bK ?_ | refine ah bK ?_) | ((first | refine aj (fun hg=>?_) (fun hg=>?_) | refine ax (fun hg=>?_) (fun hg=>?_) | refine ay (fun hg=>?_) (fun hg=>?_)) <;> try simp -implicitDefEqProofs only [hg,Bool.not_true,Bool.not_false]) | ((with_reducible apply And.intro);focus (first | trivial | omega | decide | (simp -implicitDefEqProofs only [maxLen];omega) | (simp [maxLen,af,ak,an,av,ai,au,aq] <;> omega))) | fail)
     refine (hK _ _ (gM ?_ ?_)).2 <;> rfl
  ·have e:decide ((i:Int)<(ks.length:Int))=false:=decide_eq_false (by omega)
   rw [dif_neg fE] at hK
   repeat' (first | (simp -implicitDefEqProofs only [go_sem,Int.reduceNegSucc,hl,e]) | (with_reducible refine aA ?_) | ((first | refine aj (fun hg=>?_) (fun hg=>?_) | refine ax (fun hg=>?_) (fun hg=>?_) | refine ay (fun hg=>?_) (fun hg=>?_)) <;> try simp -implicitDefEqProofs only [hg,Bool.not_true,Bool.not_false]) | ((with_reducible apply And.intro);focus (first | trivial | omega | decide | (simp -implicitDefEqProofs only [maxLen];omega) | (simp [maxLen,af,ak,an,av,ai,au,aq] <;> omega))) | fail)
   refine (hK _ _ (gM ?_ ?_)).2 <;> rfl
def iX (ks:List Nat) (x:Nat):List Nat:=ks.take (kj ks x)++x::ks.drop (kj ks x)
theorem zy (ks:List Nat) (x:Nat):(iX ks x).length=ks.length+1:=by
 have:=Ey ks x
 simp [iX];omega
theorem uz {ks:List Nat} {x m:Nat}:m∈iX ks x↔m=x∨m∈ks:=by
 unfold iX
 rw [List.mem_append,List.mem_cons]
 conv=>rhs;rw [← List.take_append_drop (kj ks x) ks,List.mem_append]
 constructor
 ·rintro (h | h | h)
  ·exact .inr (.inl h)
  ·exact .inl h
  ·exact .inr (.inr h)
 ·rintro (h | h | h)
  ·exact .inr (.inl h)
  ·exact .inl h
  ·exact .inr (.inr h)
theorem Pb (ks:List Nat) (x:Nat):kL (bt ks) (kj ks x) x=bt (iX ks x):=by simp [kL,bt,iX]
theorem LV (ks:List Int) (p:Int→Bool):(mH ks p).take (iI ks p).length=iI ks p:=by
 unfold mH;rw [List.take_left]
section
variable (l:List Nd) (n:Int)
def qV:List Int:=mH (bt (iw l n)) fun m=>!iA l m
theorem Bd:(qV l n).take (bn l n).length=bt (bn l n):=by
 have hfl:(iI (bt (iw l n)) fun m=>!iA l m)=bt (bn l n):=by
  unfold iI bn bt
  rw [List.filter_map]
  simp [Function.comp_def]
 have qa:(bn l n).length=(iI (bt (iw l n)) fun m=>!iA l m).length:=by rw [hfl];simp [bt]
 rw [qa,qV,LV,hfl]
theorem Ew:(bn l n).length≤(qV l n).length:=by
 have:=congrArg List.length (Bd l n)
 rw [Hz,List.length_take] at this
 omega
theorem Uv (hb:(bn l n).length≤1000000) (hp:(bn l n).Pairwise (·< ·)) (j v x:Nat):aL Go.Proofs.Tryz.prog 77 [.row j v (bn l n).length,.rv (.int .i64 x)] [(j,.row 1 v (aM (aN (qV l n))))] [] (.aO [.rv (.int .i64 (kj (bn l n) x)),.rv (.bool (yT (bn l n) x))]):=by
 refine tU (jc:=[.rv (.sl 1 (aN (bt (bn l n)))),.rv (.int .i64 x)]) (Uu (bn l n) x hb hp) rfl (fun hp hpre k y r hy hr=>?_) (.aO _ fun k y hy=>?_) (by simp)
 ·match k with
  | 0=>
    cases hy;cases hr
    have:=nP (h:=hp) (τ:=fun _=>none) (j:=j) (e:=1) (az:=v) (len:=(bn l n).length) (xs:=aN (qV l n)) (hpre _ (.head _)) rfl (by rw [ai];exact Ew l n) (kM _)
    rw [show (aN (qV l n)).take (bn l n).length=aN (bt (bn l n)) by rw [← Bd];simp [aN,List.map_take]] at this
    exact .fz _ _ this
  | 1=>cases hy;cases hr;exact aG.2 rfl
  | k+2=>simp at hy
 ·match k with
  | 0=>cases hy;exact .rv _ (.int _ _)
  | 1=>cases hy;exact .rv _ (.bool _)
  | k+2=>simp at hy
end
end Go.aJ

namespace Go.aJ
open Go
theorem Ms {l:List Nd} (hs:gF l) {n:Int} {m:Nat} (h:m∈bn l n):n<m∧m<l.length:=by
 have h:=(List.mem_filter.1 h).1
 unfold iw at h
 split at h
 ·rename_i hin
  obtain ⟨k,rfl,hk⟩:=qD hin
  obtain ⟨h1,h2,h3⟩:=qG.1 h
  have:=hs.up m h1 h2
  simp -implicitDefEqProofs only [Int.toNat_natCast] at h3
  omega
 ·simp at h
theorem vC (l:List Nd) (n:Int):(bn l n).length≤l.length:=by
 have h1:=List.length_filter_le (fun (m:Nat)=>iA l m) (iw l n)
 have h2:=GP l n
 unfold bn;omega
theorem Bp (e:Ed):(e.cells.map SV.rv)[26]?=some (.rv (.bool e.oe)):=rfl
theorem Mg (e:Ed):(e.cells.map SV.rv)[27]?=some (.rv (.bool e.lW)):=rfl
theorem sA (e:Ed):e.cells.length=28:=rfl
theorem uh (f:Fm):(f.cells.map SV.rv).take 25=f.cells.map SV.rv:=rfl
theorem yR (f:Fm):f.cells.take 25=f.cells:=rfl
theorem vF (f:Fm):(f.cells.map SV.rv).drop 25=[]:=rfl
theorem BB (f:Fm):((f.cells.map SV.rv).drop 17).take 8=f.child.cells.map SV.rv:=rfl
theorem Ba (c:Ch):c.cells.length=8:=rfl
theorem AM {X:List (Nat×Fm)} {m:Nat} {f:Fm}:aM (gj X)++[SV.rv (.int .i64 m)::f.cells.map SV.rv]=aM (gj (X++[(m,f)])):=by simp [aM,gj,jM]
theorem AN {X Y:List (Nat×Fm)}:aM (gj X)++aM (gj Y)=aM (gj (X++Y)):=by simp [aM,gj]
theorem AJ {X:List Ch} {c:Ch}:aM (gD X)++[c.cells.map SV.rv]=aM (gD (X++[c])):=by simp [aM,gD]
theorem DD {X:List (Nat×Fm)}:(gj X).take X.length=gj X:=List.take_of_length_le (by rw [kC];omega)
theorem DE {X:List (Nat×Fm)} {y:Nat×Fm}:(gj (X++[y])).take (X.length+1)=gj (X++[y]):=List.take_of_length_le (by rw [kC];simp)
def xQ:List SV:=[.rv .cv,.rv .cv,.rv (.int .i64 0),.rv (.int .i64 0),.rv (.int .i64 0),.rv (.int .i64 0),.rv (.int .i64 0),.rv (.bool false),.rv (.int .i64 0)]
def rB (h:Sz) (e:Ed) (k n:Nat) (o:List Int) (c:List Ch) (L:List (Nat×Fm)):List (Option HB):=
 [some (.var (h.cells.map .rv)),some (.var (e.cells.map .rv)),some (.var xQ),some (.var [.row 6 (2*k) n,.rv .cv,.rv (.int .i64 0),.rv (.int .i64 0),.rv (.int .i64 0),.rv (.int .i64 0),.rv (.int .i64 0),.rv (.bool false),.rv (.int .i64 0)]),
  some (.row 1 k (aM (aN o))),some (.row 8 k (aM (gD c))),some (.row 26 (2*k) (aM (gj L)))]
def zx (h:Sz) (e:Ed) (rs:List (Nat×Fm×La)):List (Option HB):=rB h e rs.length (bD rs).length (iF rs) (fM rs) (bD rs)
theorem OV (h:Sz) (e:Ed) (k n:Nat) (o:List Int) (c:List Ch) (L:List (Nat×Fm)):lH (nc 7) (rB h e k n o c L):=
 ⟨jG,jG,jG (rs:=bG none),⟨jw.2 (by decide),jG (rs:=[.cv,.int .i64 0,.int .i64 0,.int .i64 0,.int .i64 0,.int .i64 0,.bool false,.int .i64 0])⟩,jd,jd,jd,trivial⟩
theorem Fg (l:List Nd) (n:Int):(bn l n).Pairwise (·< ·):=by
 unfold bn iw
 split
 ·unfold gY bB
  exact (List.pairwise_lt_range.filter _).filter _
 ·exact .nil
theorem OW (h:Sz) (e:Ed):lH (nc 3) [some (.var (h.cells.map .rv)),some (.var (e.cells.map .rv)),some (.var xQ)]:=⟨jG,jG,jG (rs:=bG none),trivial⟩
theorem IV (l:List Nd) (hb:l.length≤1000) (n:Int) (w:Int) (h:Sz) (e:Ed) (bx:Nat→Option (Fm×La)) (more:Int) (ks:List Nat) (hks:(more<0∧ks=bn l n)∨∃ x:Nat,more=x∧ks=iX (bn l n) x) (WQ:ks.length≤1000)
 (hlen:∀ m∈ks,∀ q,bx m=some q→q.2.L.length≤1000)
 (hB:ic w h=true→∀ m∈ks,aL Go.Proofs.Tryz.prog 30 [.rv (cu l),.rv (.int .i64 m),.rv (.int .i64 w),h.sv,.rv (.bool (bJ l n).bO)] [] [] (lO (bx m))) :
 aL Go.Proofs.Tryz.prog 49 [.rv (cu l),.rv (.int .i64 n),.rv (.int .i64 w),h.sv,e.sv,.rv (.int .i64 more)] [] [] (.aO [.agg ((bG (jh bx ks (ic w h) e.oe e.lW).1).map .rv),.rv (.bool (jh bx ks (ic w h) e.oe e.lW).2)]):=by
 refine bz QX [.rv (cu l),.rv (.int .i64 n),.rv (.int .i64 w),h.sv,e.sv,.rv (.int .i64 more)] _ (by simp) (by simp [aP,bg,bu,aY,bq,aC.sv,Ln.sv,Nd.sv]) (fun K hK=>?_)
 have hm:=IU w h
 have hfl:=zK ks
 have hst:=IP l n
 unfold jh at hK
 cases hmay:ic w h with
 | false=>
   rw [hmay] at hm
   simp -implicitDefEqProofs only [hmay,Bool.false_eq_true,if_false] at hK
   conv in fc _ _ _ _=>reduce
   simp -implicitDefEqProofs only [Sz.sv,Sz.cells,Ed.sv,go_sem,Int.reduceNegSucc] at hm ⊢
   have bh:=hm;repeat' (first | (simp -implicitDefEqProofs only [go_sem,Int.reduceNegSucc,sA]) | (with_reducible refine aA ?_) | (with_reducible first | refine ag bh ?_ | refine ah bh ?_) | ((first | refine aj (fun hg=>?_) (fun hg=>?_) | refine ax (fun hg=>?_) (fun hg=>?_) | refine ay (fun hg=>?_) (fun hg=>?_)) <;> try simp -implicitDefEqProofs only [hg,Bool.not_true,Bool.not_false]) | ((with_reducible apply And.intro);focus (first | trivial | omega | decide | (simp -implicitDefEqProofs only [maxLen];omega) | (simp [maxLen,af,ak,an,av,ai,au,aq] <;> omega))) | fail)
   all_goals (refine (hK _ _ ?_).2;clear hK;simp -implicitDefEqProofs only [go_sem,Int.reduceNegSucc,aS,aT,bf,bl,aH,aG,aF,bG] <;>(try simp_all [-Int.not_lt,-Int.not_le,aH,aG,aF,bF,bG]) <;> try omega)
 | true=>
   rw [hmay] at hm
   simp -implicitDefEqProofs only [hmay,if_true] at hK
   have hB:=hB hmay
   conv in fc _ _ _ _=>reduce
   simp -implicitDefEqProofs only [Sz.sv,Sz.cells,Ed.sv,go_sem,Int.reduceNegSucc] at hm ⊢
   have flb:=vC l n
   apply Wu
   ·intro main
    rcases hks with ⟨hm0,hk⟩ | ⟨x,rfl,hk⟩
    ·have g0:decide (more≥0)=false:=decide_eq_false (by clear main;omega)
     have hf:=IK l n (by clear main;omega)
     rw [← hk] at hf
     have y_2:=hm;have bC:=hf;repeat' (first | (simp -implicitDefEqProofs only [go_sem,Int.reduceNegSucc,g0,sA]) | (with_reducible first | refine ag y_2 ?_ | refine ah y_2 ?_) | (with_reducible first | refine ag bC ?_ | refine ah bC ?_) | ((first | refine aj (fun hg=>?_) (fun hg=>?_) | refine ax (fun hg=>?_) (fun hg=>?_) | refine ay (fun hg=>?_) (fun hg=>?_)) <;> try simp -implicitDefEqProofs only [hg,Bool.not_true,Bool.not_false]) | ((with_reducible apply And.intro);focus (first | trivial | omega | decide | (simp -implicitDefEqProofs only [maxLen];omega) | (simp [maxLen,af,ak,an,av,ai,au,aq] <;> omega))) | fail)
     refine jx [(14,.rv (.sl 1 (aN (bt ks)))),(0,.rv (cu l)),(1,.rv (.int .i64 n)),(2,.rv (.int .i64 w)),(9,.ptr 0 0),(10,.ptr 1 0),(12,.ptr 2 0)] [some (.var (h.cells.map .rv)),some (.var (e.cells.map .rv)),some (.var xQ)] (aU (by simp [lk])) main
    ·have g0:decide ((x:Int)≥0)=true:=decide_eq_true (by clear main;omega)
     have hf:=IJ l n (by clear main;omega) 3
     have mJ:=Uv l n (by clear main;omega) (Fg l n) 3 1 x
     have hin:=UG 3 4 1 0 (kj (bn l n) x) (bn l n).length x (qV l n) (by decide) (Ew l n) (Ey _ _) (by clear main;omega)
     rw [Bd,Pb,← hk] at hin
     rw [show (mH (bt (iw l n)) fun m=>!iA l m)=qV l n from rfl] at hf
     have gX:ks.length=(bn l n).length+1:=by rw [hk,zy]
     have bI:=hm;have bK:=hf;have bM:=mJ;have bN:=hin;repeat' (first | (simp -implicitDefEqProofs only [go_sem,Int.reduceNegSucc,g0,sA]) | (with_reducible first | refine ag bI ?_ | refine ah bI ?_) | (refine bS bK ?_ ?_ ?_;(focus (simp [aR,aB] <;> fail));(focus (simp [aV,aQ] <;> fail))) | (refine bV bK ?_ ?_ ?_;(focus (simp [aR,aB] <;> fail));(focus (simp [aV,aQ] <;> fail))) | (refine bS bM ?_ ?_ ?_;(focus (simp [aR,aB] <;> fail));(focus (simp [aV,aQ] <;> fail))) | (refine bV bM ?_ ?_ ?_;(focus (simp [aR,aB] <;> fail));(focus (simp [aV,aQ] <;> fail))) | (refine bS bN ?_ ?_ ?_;(focus (simp [aR,aB] <;> fail));(focus (simp [aV,aQ] <;> fail))) | (refine bV bN ?_ ?_ ?_;(focus (simp [aR,aB] <;> fail));(focus (simp [aV,aQ] <;> fail))) | ((first | refine aj (fun hg=>?_) (fun hg=>?_) | refine ax (fun hg=>?_) (fun hg=>?_) | refine ay (fun hg=>?_) (fun hg=>?_)) <;> try simp -implicitDefEqProofs only [hg,Bool.not_true,Bool.not_false]) | ((with_reducible apply And.intro);focus (first | trivial | omega | decide | (simp -implicitDefEqProofs only [maxLen];omega) | (simp [maxLen,af,ak,an,av,ai,au,aq] <;> omega))) | fail)
     have htl:(aN (bt ks)).take ((bn l n).length+1)=aN (bt ks):=List.take_of_length_le (by clear main;rw [hfl];omega)
     refine jx _ _ ?_ main
     refine Ml (j:=3) (e:=1) (az:=2) (len:=(bn l n).length+1) (xs:=aN (bt ks)) (h':=[some (.var (h.cells.map .rv)),some (.var (e.cells.map .rv)),some (.var xQ)]) (C:=[some (.row 1 2 (aM (aN (bt ks)))),some (.row 1 0 [[.rv (.int .i64 x)]])]) htl (Nat.zero_le _) (OW h e) ?_ (by simp) rfl (by clear main;rw [hfl];omega) (kM _) ?_
     ·rfl
     ·simp [iC,lk,jH,lP]
   clear hks hm
   repeat' (first | (simp -implicitDefEqProofs only [go_sem,Int.reduceNegSucc,hfl]) | (with_reducible refine aA ?_) | ((first | refine aj (fun hg=>?_) (fun hg=>?_) | refine ax (fun hg=>?_) (fun hg=>?_) | refine ay (fun hg=>?_) (fun hg=>?_)) <;> try simp -implicitDefEqProofs only [hg,Bool.not_true,Bool.not_false]) | ((with_reducible apply And.intro);focus (first | trivial | omega | decide | (simp -implicitDefEqProofs only [maxLen];omega) | (simp [maxLen,af,ak,an,av,ai,au,aq] <;> omega))) | fail)
   refine fG (ι:=List (Nat×Fm×La)) (fun rs=>[(54,.rv (.int .i64 rs.length)),(53,.rv (.int .i64 ks.length)),(52,.rv (.sl 1 (aN (bt ks)))),(17,.ptr 3 0),(18,.row 4 rs.length rs.length),(19,.row 5 rs.length rs.length),(12,.ptr 2 0),(9,.ptr 0 0),(10,.ptr 1 0),(0,.rv (cu l)),(1,.rv (.int .i64 n)),(2,.rv (.int .i64 w))]) (zx h e)
    (fun rs=>rs.length≤ks.length∧(bD rs).length≤1001*rs.length∧hD bx ks=(hD bx (ks.drop rs.length)).map (rs ++ ·)) (fun rs=>ks.length - rs.length) [] ⟨Nat.zero_le _,by simp [bD],by cases hq:hD bx ks <;> simp [hq]⟩
    ((pP 18 1 0 rfl).trans ((pP 19 8 0 rfl).trans ((sE 3 26 0 rfl rfl).trans (aU (by simp [lk,aQ]))))) (fun rs OE K' hN hX hR=>?_)
   obtain ⟨Ga,nT,cC⟩:=OE
   simp -implicitDefEqProofs only [zx,rB,Sz.cells,go_sem,Int.reduceNegSucc]
   refine aj (fun hg=>?_) (fun hg=>?_)
   ·have aD:rs.length<ks.length:=by simp at hg;omega
    have wu:=cw (k:=rs.length) (by omega)
    have hx:(aN (bt ks))[rs.length]?.getD []=[.int .i64 (ks[rs.length]:Nat)]:=by simp [aN,bt,aD]
    have iW:=hB _ (List.getElem_mem aD)
    rw [List.drop_eq_getElem_cons aD,hD] at cC
    have qB:=hlen _ (List.getElem_mem aD)
    have Ft:=cB (bJ l n)
    have q1:((bJ l n).cells.map SV.rv).length=48:=rfl
    generalize ks[rs.length]=m at *
    cases oH:bx m with
    | none=>
      rw [oH] at iW cC
      simp -implicitDefEqProofs only [Option.map] at cC
      rw [cC] at hK
      simp -implicitDefEqProofs only [lO,cz,bG,Option.map,Option.isSome,List.map_cons,List.map_nil,Sz.sv,Sz.cells] at iW
      have bR:=hst;have bZ:=iW;repeat' (first | (simp -implicitDefEqProofs only [go_sem,Int.reduceNegSucc,hfl,hx,Ft,q1,af]) | (with_reducible refine aA ?_) | (with_reducible first | refine ag bR ?_ | refine ah bR ?_) | (with_reducible first | refine ag bZ ?_ | refine ah bZ ?_) | ((first | refine aj (fun hg=>?_) (fun hg=>?_) | refine ax (fun hg=>?_) (fun hg=>?_) | refine ay (fun hg=>?_) (fun hg=>?_)) <;> try simp -implicitDefEqProofs only [hg,Bool.not_true,Bool.not_false]) | ((with_reducible apply And.intro);focus (first | trivial | omega | decide | (simp -implicitDefEqProofs only [maxLen];omega) | (simp [maxLen,af,ak,an,av,ai,au,aq] <;> omega))) | fail)
      refine hR _ _ (hK _ _ ?_).2
      simp -implicitDefEqProofs only [go_sem,Int.reduceNegSucc,aS,aT,bf,bl,aH,aG,aF,bG]
    | some q=>
      rw [oH] at iW cC
      obtain ⟨f,t⟩:=q
      have vV:=qB _ oH
      simp -implicitDefEqProofs only [Option.map_map] at cC
      have zi:(bD rs).length≤1001000:=by omega
      have hrl:rs.length≤1000:=by omega
      have hv:2*rs.length+1+1=2*(rs.length+1):=by omega
      have ho:=CS (rs:=rs) (r:=(m,f,t))
      have hc:=AZ (rs:=rs) (r:=(m,f,t))
      have hls:bD rs++[(m,f)]++t.L=bD (rs++[(m,f,t)]):=by rw [AB];simp [mD]
      have wz:(aN (iF rs)).take rs.length=aN (iF rs):=List.take_of_length_le (by rw [ai,qI];omega)
      have wA:(gD (fM rs)).take rs.length=gD (fM rs):=List.take_of_length_le (by rw [ni];simp [fM])
      have l1:(aN (iF rs)).length=rs.length:=by rw [ai,qI]
      have l2:(gD (fM rs)).length=rs.length:=by rw [ni];simp [fM]
      have l3:=kC (bD rs)
      have l4:=kC t.L
      have l5:(gj (bD rs++[(m,f)])).length=(bD rs).length+1:=by rw [kC];simp
      simp only at vV
      simp -implicitDefEqProofs only [lO,cz,bG,Option.map,Option.isSome,Pl.cells,List.map_cons,List.map_nil,List.cons_append,List.nil_append,Sz.sv,Sz.cells] at iW
      have cm:=hst;have fT:=iW;repeat' (first | (simp -implicitDefEqProofs only [go_sem,Int.reduceNegSucc,hfl,hx,Ft,q1,af,ug,uh,yR,vF,BB,Ba,AM,AN,AJ,mu,DD,DE,wz,wA,l1,l2,l3,l4,l5,wu,hv]) | (with_reducible refine aA ?_) | (with_reducible first | refine ag cm ?_ | refine ah cm ?_) | (with_reducible first | refine ag fT ?_ | refine ah fT ?_) | ((first | refine aj (fun hg=>?_) (fun hg=>?_) | refine ax (fun hg=>?_) (fun hg=>?_) | refine ay (fun hg=>?_) (fun hg=>?_)) <;> try simp -implicitDefEqProofs only [hg,Bool.not_true,Bool.not_false]) | ((with_reducible apply And.intro);focus (first | trivial | omega | decide | (simp -implicitDefEqProofs only [maxLen];omega) | (simp [maxLen,af,ak,an,av,ai,au,aq] <;> omega) | (omega;done))) | fail)
      have hq:zx h e (rs++[(m,f,t)])=rB h e (rs.length+1) ((bD rs).length+1+t.L.length) (iF rs++[((bD rs).length:Int)]) (fM rs++[f.child]) (bD rs++[(m,f)]++t.L):=by
       unfold zx
       rw [ho,hc,← hls]
       simp -implicitDefEqProofs only [List.length_append,List.length_cons,List.length_nil,Nat.zero_add]
      refine hN (rs++[(m,f,t)]) _ _ ⟨by simp;omega,by rw [← hls];simp;omega,?_⟩ (by simp;omega) ?_
      ·rw [cC]
       simp -implicitDefEqProofs only [List.length_append,List.length_cons,List.length_nil,Nat.zero_add]
       congr 1
       funext x
       simp
      ·rw [hq]
       exact nj (h':=rB h e (rs.length+1) ((bD rs).length+1+t.L.length) (iF rs++[((bD rs).length:Int)]) (fM rs++[f.child]) (bD rs++[(m,f)]++t.L)) (Nat.zero_le _) (OV _ _ _ _ _ _ _) (by simp [iC,lk,jH,jw,lP,rB])
   ·have aD:rs.length=ks.length:=by simp at hg;omega
    rw [aD,List.drop_length] at cC
    simp -implicitDefEqProofs only [hD,Option.map,List.append_nil] at cC
    rw [cC] at hK
    simp -implicitDefEqProofs only [cC] at hK
    simp -implicitDefEqProofs only [go_sem,Int.reduceNegSucc]
    refine hX _ _ _ ?_
    clear hN hX hR
    have hrl:rs.length≤1000:=by omega
    have hcl:(fM rs).length=rs.length:=by simp [fM]
    have hS:=UQ (fM rs) e.oe (by omega) 5 rs.length 7 (by decide)
    rw [hcl] at hS
    cases lp:ju (fM rs) e.oe with
    | none=>
      rw [lp] at hS
      simp -implicitDefEqProofs only [lp] at hK
      have hv:=Dx ⟨0,0⟩
      simp -implicitDefEqProofs only [lB,jZ,Option.isSome,Su.sv,Su.cells,List.map_cons,List.map_nil] at hS hv
      have gO:=hS;have ie:=hv;repeat' (first | (simp -implicitDefEqProofs only [go_sem,Int.reduceNegSucc,Bp,sA]) | (with_reducible refine aA ?_) | (refine bS gO ?_ ?_ ?_;(focus (simp [aR,aB] <;> fail));(focus (simp [aV,aQ] <;> fail))) | (refine bV gO ?_ ?_ ?_;(focus (simp [aR,aB] <;> fail));(focus (simp [aV,aQ] <;> fail))) | (with_reducible first | refine ag ie ?_ | refine ah ie ?_) | ((first | refine aj (fun hg=>?_) (fun hg=>?_) | refine ax (fun hg=>?_) (fun hg=>?_) | refine ay (fun hg=>?_) (fun hg=>?_)) <;> try simp -implicitDefEqProofs only [hg,Bool.not_true,Bool.not_false]) | ((with_reducible apply And.intro);focus (first | trivial | omega | decide | (simp -implicitDefEqProofs only [maxLen];omega) | (simp [maxLen,af,ak,an,av,ai,au,aq] <;> omega))) | fail)
      all_goals (refine (hK _ _ ?_).2;clear hK;simp -implicitDefEqProofs only [go_sem,Int.reduceNegSucc,aS,aT,bf,bl,aH,aG,aF,bG] <;>(try simp_all [-Int.not_lt,-Int.not_le,aH,aG,aF,bF,bG]) <;> try omega)
    | some q=>
      obtain ⟨p,ys⟩:=q
      rw [lp] at hS
      simp -implicitDefEqProofs only [lp] at hK
      have ku:=xp lp
      simp -implicitDefEqProofs only [List.length_nil,Nat.zero_add,hcl] at ku
      have hv:=Dx p.cur
      simp -implicitDefEqProofs only [lB,jZ,lG,Option.isSome,Pl.cells,Su.sv,Su.cells,List.map_cons,List.map_nil] at hS hv
      cases mQ:nG p.cur with
      | false=>
        rw [mQ] at hv
        simp -implicitDefEqProofs only [mQ,Bool.false_eq_true,if_false] at hK
        have ig:=hS;have ij:=hv;repeat' (first | (simp -implicitDefEqProofs only [go_sem,Int.reduceNegSucc,Bp,sA]) | (with_reducible refine aA ?_) | (refine bS ig ?_ ?_ ?_;(focus (simp [aR,aB] <;> fail));(focus (simp [aV,aQ] <;> fail))) | (refine bV ig ?_ ?_ ?_;(focus (simp [aR,aB] <;> fail));(focus (simp [aV,aQ] <;> fail))) | (with_reducible first | refine ag ij ?_ | refine ah ij ?_) | ((first | refine aj (fun hg=>?_) (fun hg=>?_) | refine ax (fun hg=>?_) (fun hg=>?_) | refine ay (fun hg=>?_) (fun hg=>?_)) <;> try simp -implicitDefEqProofs only [hg,Bool.not_true,Bool.not_false]) | ((with_reducible apply And.intro);focus (first | trivial | omega | decide | (simp -implicitDefEqProofs only [maxLen];omega) | (simp [maxLen,af,ak,an,av,ai,au,aq] <;> omega))) | fail)
        all_goals (refine (hK _ _ ?_).2;clear hK;simp -implicitDefEqProofs only [go_sem,Int.reduceNegSucc,aS,aT,bf,bl,aH,aG,aF,bG] <;>(try simp_all [-Int.not_lt,-Int.not_le,aH,aG,aF,bF,bG]) <;> try omega)
      | true=>
        rw [mQ] at hv
        simp -implicitDefEqProofs only [mQ,if_true] at hK
        have iq:=hS;have ir:=hv;repeat' (first | (simp -implicitDefEqProofs only [go_sem,Int.reduceNegSucc,Bp,sA]) | (with_reducible refine aA ?_) | (refine bS iq ?_ ?_ ?_;(focus (simp [aR,aB] <;> fail));(focus (simp [aV,aQ] <;> fail))) | (refine bV iq ?_ ?_ ?_;(focus (simp [aR,aB] <;> fail));(focus (simp [aV,aQ] <;> fail))) | (with_reducible first | refine ag ir ?_ | refine ah ir ?_) | ((first | refine aj (fun hg=>?_) (fun hg=>?_) | refine ax (fun hg=>?_) (fun hg=>?_) | refine ay (fun hg=>?_) (fun hg=>?_)) <;> try simp -implicitDefEqProofs only [hg,Bool.not_true,Bool.not_false]) | ((with_reducible apply And.intro);focus (first | trivial | omega | decide | (simp -implicitDefEqProofs only [maxLen];omega) | (simp [maxLen,af,ak,an,av,ai,au,aq] <;> omega))) | fail)
        have wF:=ai ys
        have oN:=uL rs
        refine fG (ι:=Nat) (fun i=>[(119,.rv (.int .i64 i)),(118,.rv (.int .i64 rs.length)),(117,.row 4 rs.length rs.length),(17,.ptr 3 0),(25,.ptr 8 0),(27,.rv (.int .i64 (iQ p.cur))),(10,.ptr 1 0),(12,.ptr 2 0)])
         (fun i=>rB h e rs.length (bD rs).length (iF rs) (fM rs) (iK rs (ys.take i))++[some (.row 1 ys.length (aM (aN ys))),some (.var [.row 7 ys.length ys.length,.rv (.int .i64 p.iD),.rv (.int .i64 p.top.p),.rv (.int .i64 p.top.n),.rv (.int .i64 p.cur.p),.rv (.int .i64 p.cur.n),.rv (.bool p.lM)])])
         (fun i=>i≤rs.length) (fun i=>rs.length - i) 0 (Nat.zero_le _) (by rw [List.take_zero,oN];exact aU (by simp [lk])) (fun i hi K' hN hX hR=>?_)
        simp -implicitDefEqProofs only [rB,Sz.cells,go_sem,Int.reduceNegSucc]
        refine aj (fun hg=>?_) (fun hg=>?_)
        ·have hi4:i<rs.length:=by simp at hg;omega
         have wu:=cw (k:=i) (by omega)
         have ho:=CR hi4
         have wg:=qI (rs:=rs)
         have hy:=oS (show i<ys.length by omega)
         have gC:=CZ hi4 (show i<ys.length by omega)
         have iO:=Da hi4 (show i<ys.length by omega)
         have hlt:(bD (rs.take i)).length<(bD rs).length:=by
          have:=(uK rs ys i hi4 (by omega)).1
          have:=(List.getElem?_eq_some_iff.1 this).1
          rwa [mq] at this
         have gl:(gj (iK rs (ys.take i))).length=(bD rs).length:=by rw [kC,mq]
         have fE:=ai (iF rs)
         have xo:=Dz (rs[i].1,rs[i].2.1) ys[i]
         have sX:=CY (rs[i].1,rs[i].2.1)
         repeat' (first | (simp -implicitDefEqProofs only [go_sem,Int.reduceNegSucc,ho,hy,gC,iO,gl,fE,wg,xo,sX,wu,wF]) | (with_reducible refine aA ?_) | ((first | refine aj (fun hg=>?_) (fun hg=>?_) | refine ax (fun hg=>?_) (fun hg=>?_) | refine ay (fun hg=>?_) (fun hg=>?_)) <;> try simp -implicitDefEqProofs only [hg,Bool.not_true,Bool.not_false]) | ((with_reducible apply And.intro);focus (first | trivial | omega | decide | (simp -implicitDefEqProofs only [maxLen];omega) | (simp [maxLen,af,ak,an,av,ai,au,aq] <;> omega) | (omega;done))) | fail)
         exact hN (i+1) _ _ (by omega) (by omega) (aU (by simp [lk]))
        ·have hi4:i=rs.length:=by simp at hg;omega
         have iR:ys.take i=ys:=List.take_of_length_le (by omega)
         rw [iR]
         clear iR hg
         simp -implicitDefEqProofs only [go_sem,Int.reduceNegSucc]
         refine hX _ _ _ ?_
         clear hN hX hR
         have hfit:=mz (qe rs (p,ys) e.lW).high
         have gl:(gj (iK rs ys)).length=(bD rs).length:=by rw [kC,mq]
         simp -implicitDefEqProofs only [qe] at hfit hK
         cases gC:p.lM <;> cases lf:e.lW <;> simp -implicitDefEqProofs only [gC,lf,Bool.false_eq_true,if_true,if_false] at hfit hK
         all_goals ((have iu:=hfit;repeat' (first | (simp -implicitDefEqProofs only [go_sem,Int.reduceNegSucc,Mg,sA,gC,lf]) | (with_reducible refine aA ?_) | (with_reducible first | refine ag iu ?_ | refine ah iu ?_) | ((first | refine aj (fun hg=>?_) (fun hg=>?_) | refine ax (fun hg=>?_) (fun hg=>?_) | refine ay (fun hg=>?_) (fun hg=>?_)) <;> try simp -implicitDefEqProofs only [hg,Bool.not_true,Bool.not_false]) | ((with_reducible apply And.intro);focus (first | trivial | omega | decide | (simp -implicitDefEqProofs only [maxLen];omega) | (simp [maxLen,af,ak,an,av,ai,au,aq] <;> omega))) | fail)))
         all_goals (refine (hK _ _ ?_).2;simp -implicitDefEqProofs only [go_sem,Int.reduceNegSucc,aS,aT,bf,bl,aH,aG,aF,bG,Pl.cells,gC])
         all_goals (refine ⟨qi rfl rfl (by rw [gl]) (zT _),qi rfl rfl (by rw [ai]) (kM _)⟩)
theorem Vi (l:List Nd) (hb:l.length≤1000) (n:Int) (w:Int) (h:Sz) (e:Ed) (bx:Nat→Option (Fm×La)) (hlen:∀ m∈bn l n,∀ q,bx m=some q→q.2.L.length≤1000)
 (hB:∀ m∈bn l n,aL Go.Proofs.Tryz.prog 30 [.rv (cu l),.rv (.int .i64 m),.rv (.int .i64 w),h.sv,.rv (.bool (bJ l n).bO)] [] [] (lO (bx m))) :
 aL Go.Proofs.Tryz.prog 49 [.rv (cu l),.rv (.int .i64 n),.rv (.int .i64 w),h.sv,e.sv,.rv (.int .i64 (-1))] [] [] (.aO [.agg ((bG (jh bx (bn l n) (ic w h) e.oe e.lW).1).map .rv),.rv (.bool (jh bx (bn l n) (ic w h) e.oe e.lW).2)]):=
 IV l hb n w h e bx (-1) (bn l n) (.inl ⟨by decide,rfl⟩) (by have:=vC l n;omega) hlen (fun _=>hB)
end Go.aJ

namespace Go.aJ
open Go
def td (l:List Nd) (bd:Nat→Int→Sz→Bool→Option (Fm×La)) (n:Nat) (e:Ed) (x:Ao):Option La×Bool:=
 jh (fun m=>bd m x.w (mO e) (bJ l n).bO) (bn l n) (ic x.w (mO e)) e.oe e.lW
def kW (l:List Nd):Nat→Nat→Int→Sz→Bool→Option (Fm×La)
 | 0,_,_,_,_=>none
 | d+1,n,w,h,bO=>pN l (td l (kW l d) n) n w h bO
def WG (l:List Nd) (n:Int) (w:Int) (h:Sz) (bO:Bool):Option (Fm×La):=if (ia l n && ic w h)=true then kW l (l.length+1) n.toNat w h bO else none
theorem ME (l:List Nd) (n:Int):(bn l n).Pairwise (·< ·):=by
 unfold bn iw
 split
 ·unfold gY bB
  exact (List.pairwise_lt_range.filter _).filter _
 ·exact .nil
theorem nO {l:List Nd} {n:Nat} {m:Nat} (h:m∈bn l n):0<m∧m<l.length∧aZ l m=n:=by
 have h:=(List.mem_filter.1 h).1
 unfold iw at h
 split at h
 ·exact qG.1 (by simpa using h)
 ·simp at h
theorem MF {l:List Nd} (hs:gF l) {n:Nat} (hn:n<l.length):(bn l n).Pairwise (fun x y=>iH l x≤y)∧∀ m∈bn l n,n+1≤m∧m≤iH l m∧iH l m≤iH l n:=by
 have hwf:=hs.wf
 refine ⟨?_,fun m hm=>?_⟩
 ·refine List.Pairwise.imp_of_mem (fun {x y} hx hy hlt=>?_) (ME l n)
  obtain ⟨x1,x2,x3⟩:=nO hx
  obtain ⟨y1,y2,y3⟩:=nO hy
  have Xi:=hs.up x x1 x2
  apply Classical.byContradiction
  intro hc
  have:=(hs.below x2 y2).2 ⟨by omega,by omega⟩
  rcases (tq hwf y1 y2).1 this with h | h
  ·omega
  ·rw [y3] at h
   have:=uI _ _ h
   simp at this
   omega
 ·obtain ⟨m1,m2,m3⟩:=nO hm
  have hu:=hs.up m m1 m2
  obtain ⟨g1,g2⟩:=hs.sB m2
  refine ⟨by omega,by omega,?_⟩
  have h1:=(hs.below m2 (show iH l m - 1<l.length by omega)).2 ⟨by omega,by omega⟩
  have h2:n∈bw l m:=(tq hwf m1 m2).2 (.inr (by rw [m3];simpa using zG))
  have:=(hs.below hn (show iH l m - 1<l.length by omega)).1 (Dd h1 n h2)
  omega
theorem Jk (e:Nat→Nat):∀ (ks:List Nat) (a b:Nat),ks.Pairwise (fun x y=>e x≤y)→(∀ k∈ks,a≤k∧k≤e k∧e k≤b)→(ks.map fun k=>e k - k).sum≤b - a
 | [],_,_,_,_=>by simp
 | k::ks,a,b,hp,hk=>by
   rw [List.pairwise_cons] at hp
   have:=Jk e ks (e k) b hp.2 (fun x hx=>⟨hp.1 x hx,(hk x (.tail _ hx)).2⟩)
   have:=hk k (.head _)
   simp -implicitDefEqProofs only [List.map_cons,List.sum_cons]
   omega
theorem Dl {bx:Nat→Option (Fm×La)} {g:Nat→Nat}:∀ {ks:List Nat} {rs:List (Nat×Fm×La)},hD bx ks=some rs→(∀ m∈ks,∀ q,bx m=some q→q.2.L.length+1≤g m)→(bD rs).length≤(ks.map g).sum
 | [],rs,h,_=>by cases h;simp [bD]
 | m::ks,rs,h,hg=>by
   rw [hD] at h
   split at h
   ·rename_i q hq
    rw [Option.map_eq_some_iff] at h
    obtain ⟨rs',h1,rfl⟩:=h
    have:=Dl h1 (fun x hx=>hg x (.tail _ hx))
    have:=hg m (.head _) q hq
    show (mD (m,q)++bD rs').length≤_
    simp -implicitDefEqProofs only [mD,List.length_append,List.length_cons,List.map_cons,List.sum_cons]
    omega
   ·cases h
theorem Ct {bx:Nat→Option (Fm×La)} {ks:List Nat} {ok ot ob:Bool} {t:La} (h:(jh bx ks ok ot ob).1=some t):∃ rs q,hD bx ks=some rs∧ju (fM rs) ot=some q∧t=qe rs q ob:=by
 unfold jh at h
 repeat' split at h
 all_goals first | (cases h;done) | (cases h;exact ⟨_,_,by assumption,by assumption,rfl⟩)
theorem Lu {l:List Nd} {ins:Ed→Ao→Option La×Bool} {n w:Int} {h:Sz} {bO:Bool} {q:Fm×La} (hq:pN l ins n w h bO=some q):∃ x,nI (ow l n w h bO)=some x∧okB l n w h=true∧(ins (cg l n w h) x)=(some q.2,true)∧q.1=uj (cg l n w h) x (bn l n).length q.2:=by
 unfold pN at hq
 split at hq
 ·rename_i hok
  rw [Option.bind_eq_some_iff] at hq
  obtain ⟨x,hx,hf⟩:=hq
  unfold pQ at hf
  split at hf
  ·rename_i h2
   rw [Option.bind_eq_some_iff] at hf
   obtain ⟨t,ht,hf⟩:=hf
   split at hf
   ·cases hf;exact ⟨x,hx,hok,Prod.ext ht h2,rfl⟩
   ·cases hf
  ·cases hf
 ·cases hq
theorem tT {l:List Nd} (hs:gF l):∀ (d n:Nat) (w:Int) (h:Sz) (bO:Bool) (q:Fm×La),n<l.length→kW l d n w h bO=some q→q.2.L.length+1≤iH l n - n
 | 0,_,_,_,_,_,_,h=>by cases h
 | d+1,n,w,h,bO,q,hn,hq=>by
   obtain ⟨x,_,_,hi,_⟩:=Lu hq
   obtain ⟨rs,z,h1,h2,h3⟩:=Ct (t:=q.2) (by rw [show jh _ _ _ _ _=td l (kW l d) n (cg l n w h) x from rfl,hi])
   obtain ⟨p1,p2⟩:=MF hs hn
   have hl:=Dl (g:=fun m=>iH l m - m) h1 (fun m hm r hr=>tT hs d m _ _ _ r (nO hm).2.1 hr)
   have Xg:=Jk (iH l) _ (n+1) (iH l n) p1 p2
   have:=(hs.sB hn).1
   rw [h3]
   simp -implicitDefEqProofs only [qe,mq]
   omega
theorem IS (l:List Nd) (hs:gF l) (hb:l.length≤1000):∀ (d n:Nat) (w:Int) (h:Sz) (bO:Bool),n<l.length→l.length<n+d→aL Go.Proofs.Tryz.prog 30 [.rv (cu l),.rv (.int .i64 n),.rv (.int .i64 w),h.sv,.rv (.bool bO)] [] [] (lO (kW l d n w h bO))
 | 0,n,w,h,bO,hn,hd=>by omega
 | d+1,n,w,h,bO,hn,hd=>by
   refine UY l (by omega) n w h bO (td l (kW l d) n) (fun e x hq=>Cu hq) (fun x=>?_)
   refine Vi l hb n x.w (mO (cg l n w h)) (cg l n w h) (fun m=>kW l d m x.w (mO (cg l n w h)) (bJ l n).bO) (fun m hm q hq=>?_) (fun m hm=>?_)
   ·have:=tT hs d m _ _ _ q (nO hm).2.1 hq
    have:=(hs.sB (nO hm).2.1).2
    omega
   ·obtain ⟨h1,h2,h3⟩:=nO hm
    have:=hs.up m h1 h2
    exact IS l hs hb d m _ _ _ h2 (by omega)
end Go.aJ

namespace Go.aJ
open Go
theorem GH:aX Go.Proofs.Tryz.prog 18 168 (fc Go.Proofs.Tryz.prog 18 168 [(.c 14 9 true),(.t 15)]) [(.c 14 9 true),(.t 15)]:=br (by kernel_rfl)
def og (l:List Nd) (n more:Int) (k:Nat):Bool:=decide (k≠0) && decide (aZ l k=n) && (decide ((k:Int)=more) || iA l k)
def iS (l:List Nd) (n more:Int):List Nat:=(List.range l.length).filter (og l n more)
theorem zE (l:List Nd) (n:Nat) (hn:n<l.length):iS l n (-1)=bn l n:=by
 unfold iS bn iw
 rw [if_pos (nv hn)]
 unfold gY bB
 rw [List.filter_filter]
 refine List.filter_congr fun k hk=>?_
 unfold og
 have:((k:Int) = -1)=False:=eq_false (by omega)
 simp -implicitDefEqProofs only [this,decide_false,Bool.false_or,Int.toNat_natCast]
 rw [Bool.and_comm]
 congr 1
 rw [Bool.eq_iff_iff];simp <;> try omega
def mR (h:Sz) (k n:Nat) (o:List Int) (c:List Ch) (L:List (Nat×Fm)):List (Option HB):=
 [some (.var (h.cells.map .rv)),some (.var xQ),some (.var [.row 5 (2*k) n,.rv .cv,.rv (.int .i64 0),.rv (.int .i64 0),.rv (.int .i64 0),.rv (.int .i64 0),.rv (.int .i64 0),.rv (.bool false),.rv (.int .i64 0)]),
  some (.row 1 k (aM (aN o))),some (.row 8 k (aM (gD c))),some (.row 26 (2*k) (aM (gj L)))]
def rA (h:Sz) (rs:List (Nat×Fm×La)):List (Option HB):=mR h rs.length (bD rs).length (iF rs) (fM rs) (bD rs)
theorem Gl (h:Sz) (k n:Nat) (o:List Int) (c:List Ch) (L:List (Nat×Fm)):lH (nc 6) (mR h k n o c L):=
 ⟨jG,jG (rs:=bG none),⟨jw.2 (by decide),jG (rs:=[.cv,.int .i64 0,.int .i64 0,.int .i64 0,.int .i64 0,.int .i64 0,.bool false,.int .i64 0])⟩,jd,jd,jd,trivial⟩
theorem HA (x:Nd):(x.cells.drop 42)[0]?=some (.bool x.s.bO):=rfl
theorem VL (l:List Nd) (ht:fW l=true) (hb:l.length≤1000) (n:Nat) (hn:n<l.length) (more:Int) (w:Int) (h:Sz) (ot ob:Bool) (bx:Nat→Option (Fm×La)) (hlen:∀ m∈iS l n more,∀ q,bx m=some q→q.2.L.length≤1000)
 (hB:ic w h=true→∀ m∈iS l n more,aL Go.Proofs.Tryz.prog 11 [.rv (.sl 49 (bp l)),.rv (.int .i64 m),.rv (.int .i64 w),h.sv,.rv (.bool (bJ l n).bO)] [] [] (lO (bx m))) :
 aL Go.Proofs.Tryz.prog 18 [.rv (.sl 49 (bp l)),.rv (.int .i64 n),.rv (.int .i64 more),.rv (.int .i64 w),h.sv,.rv (.bool ot),.rv (.bool ob)] [] [] (.aO [.agg ((bG (jh bx (iS l n more) (ic w h) ot ob).1).map .rv),.rv (.bool (jh bx (iS l n more) (ic w h) ot ob).2)]):=by
 refine bz GH [.rv (.sl 49 (bp l)),.rv (.int .i64 n),.rv (.int .i64 more),.rv (.int .i64 w),h.sv,.rv (.bool ot),.rv (.bool ob)] _ (by simp) (by simp [aP,bg,bu,aY,bq,aC.sv,Ln.sv,Nd.sv]) (fun K hK=>?_)
 have hm:=Dw w h
 have hl:=an l
 have wD:=iP hn
 have iO:bJ l n=(l[n]'hn).s:=by simp [bJ,nv hn,hn]
 rw [iO] at hB
 unfold jh at hK
 cases hmay:ic w h with
 | false=>
   rw [hmay] at hm
   simp -implicitDefEqProofs only [hmay,Bool.false_eq_true,if_false] at hK
   conv in fc _ _ _ _=>reduce
   simp -implicitDefEqProofs only [Sz.sv,Sz.cells,go_sem,Int.reduceNegSucc] at hm ⊢
   have bh:=hm;repeat' (first | (simp -implicitDefEqProofs only [go_sem,Int.reduceNegSucc]) | (with_reducible refine aA ?_) | (with_reducible first | refine ag bh ?_ | refine ah bh ?_) | ((first | refine aj (fun hg=>?_) (fun hg=>?_) | refine ax (fun hg=>?_) (fun hg=>?_) | refine ay (fun hg=>?_) (fun hg=>?_)) <;> try simp -implicitDefEqProofs only [hg,Bool.not_true,Bool.not_false]) | ((with_reducible apply And.intro);focus (first | trivial | omega | decide | (simp -implicitDefEqProofs only [maxLen];omega) | (simp [maxLen,af,ak,an,av,ai,au,aq] <;> omega))) | fail)
   all_goals (refine (hK _ _ ?_).2;clear hK;simp -implicitDefEqProofs only [go_sem,Int.reduceNegSucc,aS,aT,bf,bl,aH,aG,aF,bG] <;>(try simp_all [-Int.not_lt,-Int.not_le,aH,aG,aF,bF,bG]) <;> try omega)
 | true=>
   have hB:=hB hmay
   rw [hmay] at hm
   simp -implicitDefEqProofs only [hmay,if_true] at hK
   conv in fc _ _ _ _=>reduce
   simp -implicitDefEqProofs only [Sz.sv,Sz.cells,go_sem,Int.reduceNegSucc] at hm ⊢
   have y_2:=hm;repeat' (first | (simp -implicitDefEqProofs only [go_sem,Int.reduceNegSucc,hl]) | (with_reducible refine aA ?_) | (with_reducible first | refine ag y_2 ?_ | refine ah y_2 ?_) | ((first | refine aj (fun hg=>?_) (fun hg=>?_) | refine ax (fun hg=>?_) (fun hg=>?_) | refine ay (fun hg=>?_) (fun hg=>?_)) <;> try simp -implicitDefEqProofs only [hg,Bool.not_true,Bool.not_false]) | ((with_reducible apply And.intro);focus (first | trivial | omega | decide | (simp -implicitDefEqProofs only [maxLen];omega) | (simp [maxLen,af,ak,an,av,ai,au,aq] <;> omega))) | fail)
   refine fG (ι:=Nat×List (Nat×Fm×La)) (fun q=>[(35,.rv (.int .i64 q.1)),(34,.rv (.int .i64 l.length)),(16,.ptr 2 0),(18,.row 3 q.2.length q.2.length),(17,.row 4 q.2.length q.2.length),(14,.ptr 1 0),(11,.ptr 0 0),(0,.rv (.sl 49 (bp l))),(1,.rv (.int .i64 n)),(2,.rv (.int .i64 more)),(3,.rv (.int .i64 w)),(5,.rv (.bool ot)),(6,.rv (.bool ob))]) (fun q=>rA h q.2)
    (fun q=>q.1≤l.length∧q.2.length≤q.1∧(bD q.2).length≤1001*q.2.length∧hD bx (iS l n more)=(hD bx (((List.range l.length).drop q.1).filter (og l n more))).map (q.2 ++ ·)) (fun q=>l.length - q.1) (0,[]) ⟨Nat.zero_le _,Nat.zero_le _,by simp [bD],by show hD bx (iS l n more)=(hD bx (iS l n more)).map _;cases hq:hD bx (iS l n more) <;> simp [hq]⟩
    ((pP 18 1 0 rfl).trans ((pP 17 8 0 rfl).trans ((sE 2 26 0 rfl rfl).trans (aU (by simp [lk,aQ]))))) (fun q hq K' hN hX hR=>?_)
   obtain ⟨k,rs⟩:=q
   obtain ⟨fH,hk2,nT,cC⟩:=hq
   dsimp at fH hk2 nT cC ⊢
   simp -implicitDefEqProofs only [rA,mR,Sz.cells,go_sem,Int.reduceNegSucc]
   refine aj (fun hg=>?_) (fun hg=>?_)
   ·have aD:k<l.length:=by simp at hg;omega
    have wu:=cw (k:=k) (by omega)
    have Wz:=cw (k:=rs.length) (by omega)
    have hx:=iP aD
    have sY:aZ l k=(l[k]'aD).parent:=(lX aD).symm
    have jr:=xk l ht k
    have oM:=Am l ht k
    have vL:(List.range l.length).drop k=k::(List.range l.length).drop (k+1):=by
     rw [List.drop_eq_getElem_cons (by simpa using aD)];simp
    rw [vL,List.filter_cons] at cC
    have hmem:og l n more k=true→k∈iS l n more:=fun hp=>List.mem_filter.2 ⟨List.mem_range.2 aD,hp⟩
    have hpk:og l n more k=(decide (k≠0) && decide ((l[k]'aD).parent=n) && (decide ((k:Int)=more) || (ia l k && !ja l k))):=by rw [← sY];rfl
    have x1:=ak (l[k]'aD)
    have x2:=kz (l[k]'aD)
    have y1:=ak (l[n]'hn)
    have y2:=HA (l[n]'hn)
    generalize l[k]'aD=x at *
    generalize l[n]'hn=xn at *
    generalize ia l k=M at *
    generalize ja l k=O at *
    clear sY vL
    cases hp:og l n more k with
    | false=>
      rw [hp] at cC hpk
      simp -implicitDefEqProofs only [Bool.false_eq_true,if_false] at cC
      have e4:k=0∨(k≠0∧x.parent≠n)∨(k≠0∧x.parent=n∧(k:Int)≠more∧M=false)∨(k≠0∧x.parent=n∧(k:Int)≠more∧M=true∧O=true):=by
       by_cases a:k=0
       ·exact .inl a
       by_cases b:x.parent=n
       ·by_cases c:(k:Int)=more
        ·simp [a,b,c] at hpk
        ·cases hM:M
         ·exact .inr (.inr (.inl ⟨a,b,c,rfl⟩))
         ·cases hO:O
          ·simp [a,b,c,hM,hO] at hpk
          ·exact .inr (.inr (.inr ⟨a,b,c,rfl,rfl⟩))
       ·exact .inr (.inl ⟨a,b⟩)
      have done:=hN (k+1,rs)
      rcases e4 with h0 | ⟨h0,h1⟩ | ⟨h0,h1,h2,h3⟩ | ⟨h0,h1,h2,h3,h4⟩
      ·have g0:(((k:Int)) == 0)=true:=by simp [h0]
       repeat' (first | (simp -implicitDefEqProofs only [go_sem,Int.reduceNegSucc,hl,hx,x1,x2,g0,List.length_drop,wu]) | (with_reducible refine aA ?_) | ((first | refine aj (fun hg=>?_) (fun hg=>?_) | refine ax (fun hg=>?_) (fun hg=>?_) | refine ay (fun hg=>?_) (fun hg=>?_)) <;> try simp -implicitDefEqProofs only [hg,Bool.not_true,Bool.not_false]) | ((with_reducible apply And.intro);focus (first | trivial | omega | decide | (simp -implicitDefEqProofs only [maxLen];omega) | (simp [maxLen,af,ak,an,av,ai,au,aq] <;> omega))) | fail)
       exact done _ _ ⟨aD,by dsimp;omega,nT,cC⟩ (by dsimp;omega) (aU (by simp [lk]))
      ·have g0:(((k:Int)) == 0)=false:=by simp [h0]
       have g1:(x.parent !=(n:Int))=true:=by simp [h1]
       repeat' (first | (simp -implicitDefEqProofs only [go_sem,Int.reduceNegSucc,hl,hx,x1,x2,g0,g1,List.length_drop,wu]) | (with_reducible refine aA ?_) | ((first | refine aj (fun hg=>?_) (fun hg=>?_) | refine ax (fun hg=>?_) (fun hg=>?_) | refine ay (fun hg=>?_) (fun hg=>?_)) <;> try simp -implicitDefEqProofs only [hg,Bool.not_true,Bool.not_false]) | ((with_reducible apply And.intro);focus (first | trivial | omega | decide | (simp -implicitDefEqProofs only [maxLen];omega) | (simp [maxLen,af,ak,an,av,ai,au,aq] <;> omega))) | fail)
       exact done _ _ ⟨aD,by dsimp;omega,nT,cC⟩ (by dsimp;omega) (aU (by simp [lk]))
      ·have g0:(((k:Int)) == 0)=false:=by simp [h0]
       have g1:(x.parent !=(n:Int))=false:=by simp [h1]
       have g2:((k:Int) != more)=true:=by simp [h2]
       rw [h3] at jr
       have bC:=jr;repeat' (first | (simp -implicitDefEqProofs only [go_sem,Int.reduceNegSucc,hl,hx,x1,x2,g0,g1,g2,List.length_drop,wu]) | (with_reducible refine aA ?_) | (with_reducible first | refine ag bC ?_ | refine ah bC ?_) | ((first | refine aj (fun hg=>?_) (fun hg=>?_) | refine ax (fun hg=>?_) (fun hg=>?_) | refine ay (fun hg=>?_) (fun hg=>?_)) <;> try simp -implicitDefEqProofs only [hg,Bool.not_true,Bool.not_false]) | ((with_reducible apply And.intro);focus (first | trivial | omega | decide | (simp -implicitDefEqProofs only [maxLen];omega) | (simp [maxLen,af,ak,an,av,ai,au,aq] <;> omega))) | fail)
       exact done _ _ ⟨aD,by dsimp;omega,nT,cC⟩ (by dsimp;omega) (aU (by simp [lk]))
      ·have g0:(((k:Int)) == 0)=false:=by simp [h0]
       have g1:(x.parent !=(n:Int))=false:=by simp [h1]
       have g2:((k:Int) != more)=true:=by simp [h2]
       rw [h3] at jr
       rw [h4] at oM
       have bI:=jr;have bK:=oM;repeat' (first | (simp -implicitDefEqProofs only [go_sem,Int.reduceNegSucc,hl,hx,x1,x2,g0,g1,g2,List.length_drop,wu]) | (with_reducible refine aA ?_) | (with_reducible first | refine ag bI ?_ | refine ah bI ?_) | (with_reducible first | refine ag bK ?_ | refine ah bK ?_) | ((first | refine aj (fun hg=>?_) (fun hg=>?_) | refine ax (fun hg=>?_) (fun hg=>?_) | refine ay (fun hg=>?_) (fun hg=>?_)) <;> try simp -implicitDefEqProofs only [hg,Bool.not_true,Bool.not_false]) | ((with_reducible apply And.intro);focus (first | trivial | omega | decide | (simp -implicitDefEqProofs only [maxLen];omega) | (simp [maxLen,af,ak,an,av,ai,au,aq] <;> omega))) | fail)
       exact done _ _ ⟨aD,by dsimp;omega,nT,cC⟩ (by dsimp;omega) (aU (by simp [lk]))
    | true=>
      rw [hp] at cC hpk
      simp -implicitDefEqProofs only [if_true] at cC
      rw [hD] at cC
      have iW:=hB _ (hmem hp)
      have qB:=hlen _ (hmem hp)
      have vQ:k≠0∧x.parent=n∧∃ c:Bool,((k:Int) != more)=c∧(c=true→M=true∧O=false):=by
       simp at hpk
       refine ⟨hpk.1.1,hpk.1.2,_,rfl,fun hc=>?_⟩
       have:¬ (k:Int)=more:=by simpa using hc
       simpa [this] using hpk.2
      obtain ⟨h0,h1,c,g2,BK⟩:=vQ
      cases c
      case' true=>
       obtain ⟨hM,hO⟩:=BK rfl
       rw [hM] at jr
       rw [hO] at oM
      all_goals
       have g0:(((k:Int)) == 0)=false:=by simp [h0]
       have g1:(x.parent !=(n:Int))=false:=by simp [h1]
       cases oH:bx k with
       | none=>
         rw [oH] at iW cC
         simp -implicitDefEqProofs only [Option.map] at cC
         rw [cC] at hK
         simp -implicitDefEqProofs only [lO,cz,bG,Option.map,Option.isSome,List.map_cons,List.map_nil,Sz.sv,Sz.cells] at iW
         have bM:=jr;have bN:=oM;have bR:=iW;repeat' (first | (simp -implicitDefEqProofs only [go_sem,Int.reduceNegSucc,hl,hx,wD,x1,x2,y1,y2,g0,g1,g2,List.length_drop,wu]) | (with_reducible refine aA ?_) | (with_reducible first | refine ag bM ?_ | refine ah bM ?_) | (with_reducible first | refine ag bN ?_ | refine ah bN ?_) | (with_reducible first | refine ag bR ?_ | refine ah bR ?_) | ((first | refine aj (fun hg=>?_) (fun hg=>?_) | refine ax (fun hg=>?_) (fun hg=>?_) | refine ay (fun hg=>?_) (fun hg=>?_)) <;> try simp -implicitDefEqProofs only [hg,Bool.not_true,Bool.not_false]) | ((with_reducible apply And.intro);focus (first | trivial | omega | decide | (simp -implicitDefEqProofs only [maxLen];omega) | (simp [maxLen,af,ak,an,av,ai,au,aq] <;> omega))) | fail)
         refine hR _ _ (hK _ _ ?_).2
         simp -implicitDefEqProofs only [go_sem,Int.reduceNegSucc,aS,aT,bf,bl,aH,aG,aF,bG]
       | some q=>
         rw [oH] at iW cC
         obtain ⟨f,t⟩:=q
         have vV:=qB _ oH
         simp -implicitDefEqProofs only [Option.map_map] at cC
         have hrl:rs.length≤1000:=by omega
         have zi:(bD rs).length≤1001000:=by omega
         have hv:2*rs.length+1+1=2*(rs.length+1):=by omega
         have ho:=CS (rs:=rs) (r:=(k,f,t))
         have hc:=AZ (rs:=rs) (r:=(k,f,t))
         have hls:bD rs++[(k,f)]++t.L=bD (rs++[(k,f,t)]):=by rw [AB];simp [mD]
         have wz:(aN (iF rs)).take rs.length=aN (iF rs):=List.take_of_length_le (by rw [ai,qI];omega)
         have wA:(gD (fM rs)).take rs.length=gD (fM rs):=List.take_of_length_le (by rw [ni];simp [fM])
         have l1:(aN (iF rs)).length=rs.length:=by rw [ai,qI]
         have l2:(gD (fM rs)).length=rs.length:=by rw [ni];simp [fM]
         have l3:=kC (bD rs)
         have l4:=kC t.L
         have l5:(gj (bD rs++[(k,f)])).length=(bD rs).length+1:=by rw [kC];simp
         simp only at vV
         simp -implicitDefEqProofs only [lO,cz,bG,Option.map,Option.isSome,Pl.cells,List.map_cons,List.map_nil,List.cons_append,List.nil_append,Sz.sv,Sz.cells] at iW
         have bZ:=jr;have cm:=oM;have fT:=iW;repeat' (first | (simp -implicitDefEqProofs only [go_sem,Int.reduceNegSucc,hl,hx,wD,x1,x2,y1,y2,g0,g1,g2,List.length_drop,ug,uh,yR,vF,BB,Ba,AM,AN,AJ,mu,DD,DE,wz,wA,l1,l2,l3,l4,l5,wu,hv]) | (with_reducible refine aA ?_) | (with_reducible first | refine ag bZ ?_ | refine ah bZ ?_) | (with_reducible first | refine ag cm ?_ | refine ah cm ?_) | (with_reducible first | refine ag fT ?_ | refine ah fT ?_) | ((first | refine aj (fun hg=>?_) (fun hg=>?_) | refine ax (fun hg=>?_) (fun hg=>?_) | refine ay (fun hg=>?_) (fun hg=>?_)) <;> try simp -implicitDefEqProofs only [hg,Bool.not_true,Bool.not_false]) | ((with_reducible apply And.intro);focus (first | trivial | omega | decide | (simp -implicitDefEqProofs only [maxLen];omega) | (simp [maxLen,af,ak,an,av,ai,au,aq] <;> omega) | (omega;done))) | fail)
         have hq:rA h (rs++[(k,f,t)])=mR h (rs.length+1) ((bD rs).length+1+t.L.length) (iF rs++[((bD rs).length:Int)]) (fM rs++[f.child]) (bD rs++[(k,f)]++t.L):=by
          unfold rA
          rw [ho,hc,← hls]
          simp -implicitDefEqProofs only [List.length_append,List.length_cons,List.length_nil,Nat.zero_add]
         refine hN (k+1,rs++[(k,f,t)]) _ _ ⟨by dsimp;omega,by simp;omega,by dsimp;rw [← hls];simp;omega,?_⟩ (by dsimp;omega) ?_
         ·rw [cC]
          congr 1
          funext x
          simp
         ·dsimp
          rw [hq]
          exact nj (h':=mR h (rs.length+1) ((bD rs).length+1+t.L.length) (iF rs++[((bD rs).length:Int)]) (fM rs++[f.child]) (bD rs++[(k,f)]++t.L)) (Nat.zero_le _) (Gl _ _ _ _ _ _) (by simp [iC,lk,jH,jw,lP,mR])
   ·have aD:k=l.length:=by simp at hg;omega
    subst aD
    simp -implicitDefEqProofs only [go_sem,Int.reduceNegSucc]
    have wo:hD bx (iS l n more)=some rs:=by rw [cC,List.drop_of_length_le (by simp)];simp [hD]
    rw [wo] at hK
    clear cC wo
    refine hX _ _ _ ?_
    clear hN hX hR
    have hcl:(fM rs).length=rs.length:=by simp [fM]
    have hrl:rs.length≤1000:=by omega
    have hS:=Jb (fM rs) ot (by omega) 4 rs.length 6 (by decide)
    rw [hcl] at hS
    cases lp:ju (fM rs) ot with
    | none=>
      rw [lp] at hS
      simp -implicitDefEqProofs only [lp] at hK
      have hv:=xm ⟨0,0⟩
      simp -implicitDefEqProofs only [lB,jZ,Option.isSome,Su.sv,Su.cells,List.map_cons,List.map_nil] at hS hv
      have gO:=hS;have ie:=hv;repeat' (first | (simp -implicitDefEqProofs only [go_sem,Int.reduceNegSucc]) | (with_reducible refine aA ?_) | (refine bS gO ?_ ?_ ?_;(focus (simp [aR,aB] <;> fail));(focus (simp [aV,aQ] <;> fail))) | (refine bV gO ?_ ?_ ?_;(focus (simp [aR,aB] <;> fail));(focus (simp [aV,aQ] <;> fail))) | (with_reducible first | refine ag ie ?_ | refine ah ie ?_) | ((first | refine aj (fun hg=>?_) (fun hg=>?_) | refine ax (fun hg=>?_) (fun hg=>?_) | refine ay (fun hg=>?_) (fun hg=>?_)) <;> try simp -implicitDefEqProofs only [hg,Bool.not_true,Bool.not_false]) | ((with_reducible apply And.intro);focus (first | trivial | omega | decide | (simp -implicitDefEqProofs only [maxLen];omega) | (simp [maxLen,af,ak,an,av,ai,au,aq] <;> omega))) | fail)
      all_goals (refine (hK _ _ ?_).2;clear hK;simp -implicitDefEqProofs only [go_sem,Int.reduceNegSucc,aS,aT,bf,bl,aH,aG,aF,bG] <;>(try simp_all [-Int.not_lt,-Int.not_le,aH,aG,aF,bF,bG]) <;> try omega)
    | some q=>
      obtain ⟨p,ys⟩:=q
      rw [lp] at hS
      simp -implicitDefEqProofs only [lp] at hK
      have ku:=xp lp
      simp -implicitDefEqProofs only [List.length_nil,Nat.zero_add,hcl] at ku
      have hv:=xm p.cur
      simp -implicitDefEqProofs only [lB,jZ,lG,Option.isSome,Pl.cells,Su.sv,Su.cells,List.map_cons,List.map_nil] at hS hv
      cases mQ:nG p.cur with
      | false=>
        rw [mQ] at hv
        simp -implicitDefEqProofs only [mQ,Bool.false_eq_true,if_false] at hK
        have ig:=hS;have ij:=hv;repeat' (first | (simp -implicitDefEqProofs only [go_sem,Int.reduceNegSucc]) | (with_reducible refine aA ?_) | (refine bS ig ?_ ?_ ?_;(focus (simp [aR,aB] <;> fail));(focus (simp [aV,aQ] <;> fail))) | (refine bV ig ?_ ?_ ?_;(focus (simp [aR,aB] <;> fail));(focus (simp [aV,aQ] <;> fail))) | (with_reducible first | refine ag ij ?_ | refine ah ij ?_) | ((first | refine aj (fun hg=>?_) (fun hg=>?_) | refine ax (fun hg=>?_) (fun hg=>?_) | refine ay (fun hg=>?_) (fun hg=>?_)) <;> try simp -implicitDefEqProofs only [hg,Bool.not_true,Bool.not_false]) | ((with_reducible apply And.intro);focus (first | trivial | omega | decide | (simp -implicitDefEqProofs only [maxLen];omega) | (simp [maxLen,af,ak,an,av,ai,au,aq] <;> omega))) | fail)
        all_goals (refine (hK _ _ ?_).2;clear hK;simp -implicitDefEqProofs only [go_sem,Int.reduceNegSucc,aS,aT,bf,bl,aH,aG,aF,bG] <;>(try simp_all [-Int.not_lt,-Int.not_le,aH,aG,aF,bF,bG]) <;> try omega)
      | true=>
        rw [mQ] at hv
        simp -implicitDefEqProofs only [mQ,if_true] at hK
        have iq:=hS;have ir:=hv;repeat' (first | (simp -implicitDefEqProofs only [go_sem,Int.reduceNegSucc]) | (with_reducible refine aA ?_) | (refine bS iq ?_ ?_ ?_;(focus (simp [aR,aB] <;> fail));(focus (simp [aV,aQ] <;> fail))) | (refine bV iq ?_ ?_ ?_;(focus (simp [aR,aB] <;> fail));(focus (simp [aV,aQ] <;> fail))) | (with_reducible first | refine ag ir ?_ | refine ah ir ?_) | ((first | refine aj (fun hg=>?_) (fun hg=>?_) | refine ax (fun hg=>?_) (fun hg=>?_) | refine ay (fun hg=>?_) (fun hg=>?_)) <;> try simp -implicitDefEqProofs only [hg,Bool.not_true,Bool.not_false]) | ((with_reducible apply And.intro);focus (first | trivial | omega | decide | (simp -implicitDefEqProofs only [maxLen];omega) | (simp [maxLen,af,ak,an,av,ai,au,aq] <;> omega))) | fail)
        have wF:=ai ys
        have oN:=uL rs
        refine fG (ι:=Nat) (fun i=>[(127,.rv (.int .i64 i)),(126,.rv (.int .i64 rs.length)),(18,.row 3 rs.length rs.length),(16,.ptr 2 0),(23,.ptr 7 0),(25,.rv (.int .i64 (iQ p.cur))),(14,.ptr 1 0),(11,.ptr 0 0),(6,.rv (.bool ob))])
         (fun i=>mR h rs.length (bD rs).length (iF rs) (fM rs) (iK rs (ys.take i))++[some (.row 1 ys.length (aM (aN ys))),some (.var [.row 6 ys.length ys.length,.rv (.int .i64 p.iD),.rv (.int .i64 p.top.p),.rv (.int .i64 p.top.n),.rv (.int .i64 p.cur.p),.rv (.int .i64 p.cur.n),.rv (.bool p.lM)])])
         (fun i=>i≤rs.length) (fun i=>rs.length - i) 0 (Nat.zero_le _) (by rw [List.take_zero,oN];exact aU (by simp [lk])) (fun i hi K' hN hX hR=>?_)
        simp -implicitDefEqProofs only [mR,Sz.cells,go_sem,Int.reduceNegSucc]
        refine aj (fun hg=>?_) (fun hg=>?_)
        ·have hi4:i<rs.length:=by simp at hg;omega
         have wu:=cw (k:=i) (by omega)
         have ho:=CR hi4
         have wg:=qI (rs:=rs)
         have hy:=oS (show i<ys.length by omega)
         have gC:=CZ hi4 (show i<ys.length by omega)
         have iO:=Da hi4 (show i<ys.length by omega)
         have hlt:(bD (rs.take i)).length<(bD rs).length:=by
          have:=(uK rs ys i hi4 (by omega)).1
          have:=(List.getElem?_eq_some_iff.1 this).1
          rwa [mq] at this
         have gl:(gj (iK rs (ys.take i))).length=(bD rs).length:=by rw [kC,mq]
         have fE:=ai (iF rs)
         have xo:=Dz (rs[i].1,rs[i].2.1) ys[i]
         have sX:=CY (rs[i].1,rs[i].2.1)
         repeat' (first | (simp -implicitDefEqProofs only [go_sem,Int.reduceNegSucc,ho,hy,gC,iO,gl,fE,wg,xo,sX,wu,wF]) | (with_reducible refine aA ?_) | ((first | refine aj (fun hg=>?_) (fun hg=>?_) | refine ax (fun hg=>?_) (fun hg=>?_) | refine ay (fun hg=>?_) (fun hg=>?_)) <;> try simp -implicitDefEqProofs only [hg,Bool.not_true,Bool.not_false]) | ((with_reducible apply And.intro);focus (first | trivial | omega | decide | (simp -implicitDefEqProofs only [maxLen];omega) | (simp [maxLen,af,ak,an,av,ai,au,aq] <;> omega) | (omega;done))) | fail)
         exact hN (i+1) _ _ (by omega) (by omega) (aU (by simp [lk]))
        ·have hi4:i=rs.length:=by simp at hg;omega
         have iR:ys.take i=ys:=List.take_of_length_le (by omega)
         rw [iR]
         clear iR hg
         simp -implicitDefEqProofs only [go_sem,Int.reduceNegSucc]
         refine hX _ _ _ ?_
         clear hN hX hR
         have hfit:=jO (qe rs (p,ys) ob).high
         have gl:(gj (iK rs ys)).length=(bD rs).length:=by rw [kC,mq]
         simp -implicitDefEqProofs only [qe] at hfit hK
         have BF:decide ((0:Int)<0)=false:=rfl
         cases gC:p.lM with
         | true=>
           simp -implicitDefEqProofs only [gC,if_true] at hfit hK
           have iu:=hfit;repeat' (first | (simp -implicitDefEqProofs only [go_sem,Int.reduceNegSucc,gC,BF]) | (with_reducible refine aA ?_) | (with_reducible first | refine ag iu ?_ | refine ah iu ?_) | ((first | refine aj (fun hg=>?_) (fun hg=>?_) | refine ax (fun hg=>?_) (fun hg=>?_) | refine ay (fun hg=>?_) (fun hg=>?_)) <;> try simp -implicitDefEqProofs only [hg,Bool.not_true,Bool.not_false]) | ((with_reducible apply And.intro);focus (first | trivial | omega | decide | (simp -implicitDefEqProofs only [maxLen];omega) | (simp [maxLen,af,ak,an,av,ai,au,aq] <;> omega))) | fail)
           all_goals (refine (hK _ _ ?_).2;simp -implicitDefEqProofs only [go_sem,Int.reduceNegSucc,aS,aT,bf,bl,aH,aG,aF,bG,Pl.cells,gC])
           all_goals (refine ⟨qi rfl rfl (by rw [gl]) (zT _),qi rfl rfl (by rw [ai]) (kM _)⟩)
         | false=>
           cases lf:ob <;> simp -implicitDefEqProofs only [gC,lf,Bool.false_eq_true,if_true,if_false] at hfit hK
           case' false=>obtain ⟨A,hA⟩:∃ A,A=IntKind.i64.wrap (p.iD+iQ p.cur):=⟨_,rfl⟩
           case' true=>obtain ⟨A,hA⟩:∃ A,A=p.iD:=⟨_,rfl⟩
           all_goals
            rw [← hA] at hfit hK
            by_cases hneg:0>A
            ·have g1:decide (A<0)=true:=decide_eq_true hneg
             rw [if_pos hneg] at hfit hK
             rw [hA] at g1
             have iT:=hfit;repeat' (first | (simp -implicitDefEqProofs only [go_sem,Int.reduceNegSucc,gC,lf,g1]) | (with_reducible refine aA ?_) | (with_reducible first | refine ag iT ?_ | refine ah iT ?_) | ((first | refine aj (fun hg=>?_) (fun hg=>?_) | refine ax (fun hg=>?_) (fun hg=>?_) | refine ay (fun hg=>?_) (fun hg=>?_)) <;> try simp -implicitDefEqProofs only [hg,Bool.not_true,Bool.not_false]) | ((with_reducible apply And.intro);focus (first | trivial | omega | decide | (simp -implicitDefEqProofs only [maxLen];omega) | (simp [maxLen,af,ak,an,av,ai,au,aq] <;> omega))) | fail)
             all_goals (refine (hK _ _ ?_).2;simp -implicitDefEqProofs only [go_sem,Int.reduceNegSucc,aS,aT,bf,bl,aH,aG,aF,bG,Pl.cells,gC])
             all_goals (refine ⟨qi rfl rfl (by rw [gl]) (zT _),qi rfl rfl (by rw [ai]) (kM _)⟩)
            ·have g1:decide (A<0)=false:=decide_eq_false hneg
             rw [if_neg hneg] at hfit hK
             rw [hA] at g1 hfit hK
             have iU:=hfit;repeat' (first | (simp -implicitDefEqProofs only [go_sem,Int.reduceNegSucc,gC,lf,g1]) | (with_reducible refine aA ?_) | (with_reducible first | refine ag iU ?_ | refine ah iU ?_) | ((first | refine aj (fun hg=>?_) (fun hg=>?_) | refine ax (fun hg=>?_) (fun hg=>?_) | refine ay (fun hg=>?_) (fun hg=>?_)) <;> try simp -implicitDefEqProofs only [hg,Bool.not_true,Bool.not_false]) | ((with_reducible apply And.intro);focus (first | trivial | omega | decide | (simp -implicitDefEqProofs only [maxLen];omega) | (simp [maxLen,af,ak,an,av,ai,au,aq] <;> omega))) | fail)
             all_goals (refine (hK _ _ ?_).2;simp -implicitDefEqProofs only [go_sem,Int.reduceNegSucc,aS,aT,bf,bl,aH,aG,aF,bG,Pl.cells,gC])
             all_goals (refine ⟨qi rfl rfl (by rw [gl]) (zT _),qi rfl rfl (by rw [ai]) (kM _)⟩)
end Go.aJ

namespace Go.aJ
open Go
theorem QC:aX Go.Proofs.Tryz.prog 71 132 (fc Go.Proofs.Tryz.prog 71 132 [(.c 4 3 true),(.t 5)]) [(.c 4 3 true),(.t 5)]:=br (by kernel_rfl)
theorem QD:aX Go.Proofs.Tryz.prog 37 78 (fc Go.Proofs.Tryz.prog 37 78 [(.c 2 3 true),(.t 3)]) [(.c 2 3 true),(.t 3)]:=br (by kernel_rfl)
def sH (i:Ai) (s:Sz):Ao:=if bT (jo i s).w=true then jo i s else ⟨0,0,0⟩
theorem Dv (i:Ai) (s:Sz) (hf:Fit i):aL Go.Proofs.Tryz.prog 71 [i.sv,s.sv] [] [] (.aO [.agg ((sH i s).cells.map .rv),.rv (.bool (nh i s))]):=by
 refine bz QC [i.sv,s.sv] _ (by simp) (by simp [aP,bg,bu,aY,bq,aC.sv,Ln.sv,Nd.sv]) (fun K hK=>?_)
 have o1:=pz i.left 0
 have o2:=pz i.right 0
 have o3:=pz ⟨false,bk i.left 0⟩ 0
 have o4:=pz ⟨false,bk i.right 0⟩ 0
 have q1:=je.1 hf.b
 have q2:=je.1 hf.a
 have q3:=je.1 hf.l
 have q4:=je.1 hf.r
 have n1:i.left.auto=false→i.left.n=bk i.left 0:=fun h=>(CX h 0).symm
 have n2:i.right.auto=false→i.right.n=bk i.right 0:=fun h=>(CX h 0).symm
 have e3:bk ⟨false,bk i.left 0⟩ 0=bk i.left 0:=rfl
 have e4:bk ⟨false,bk i.right 0⟩ 0=bk i.right 0:=rfl
 rw [e3] at o3
 rw [e4] at o4
 have fl:=hf.l
 have fr:=hf.r
 simp -implicitDefEqProofs only [sH,nh,jo] at hK
 obtain ⟨sa,W⟩:=s
 dsimp at hK
 cases hs:sa with
 | true=>
   simp -implicitDefEqProofs only [hs,if_true] at hK
   generalize bk i.left 0=L at *
   generalize bk i.right 0=R at *
   have w1:IntKind.i64.wrap (i.base - i.around)=i.base - i.around:=wrap_i64 (by omega) (by omega)
   have w2:IntKind.i64.wrap (i.base - i.around - L)=i.base - i.around - L:=wrap_i64 (by omega) (by omega)
   have w3:IntKind.i64.wrap (i.base - i.around - L - R)=i.base - i.around - L - R:=wrap_i64 (by omega) (by omega)
   have f1:=jO (i.base - i.around - L - R)
   rw [fl,fr] at hK
   simp -implicitDefEqProofs only [Bool.true_and,Bool.and_true] at hK
   conv in fc _ _ _ _=>reduce
   simp -implicitDefEqProofs only [Ai.sv,Ai.cells,Sz.sv,Sz.cells,go_sem,Int.reduceNegSucc]
   simp -implicitDefEqProofs only [Ai.cells,Ao.cells,Sz.sv,Sz.cells,List.map_cons,List.map_nil] at o1 o2 o3 o4 hK
   cases sR:bT (i.base - i.around - L - R) with
   | false=>
     rw [sR] at f1 hK
     simp -implicitDefEqProofs only [Bool.false_eq_true,if_false] at hK
     have bh:=o1;have y_2:=o2;have bC:=o3;have bI:=o4;have bK:=f1;repeat' (first | (simp -implicitDefEqProofs only [go_sem,Int.reduceNegSucc,w1,w2,w3,hs]) | (with_reducible refine aA ?_) | (with_reducible first | refine ag bh ?_ | refine ah bh ?_) | (with_reducible first | refine ag y_2 ?_ | refine ah y_2 ?_) | (with_reducible first | refine ag bC ?_ | refine ah bC ?_) | (with_reducible first | refine ag bI ?_ | refine ah bI ?_) | (with_reducible first | refine ag bK ?_ | refine ah bK ?_) | ((first | refine aj (fun hg=>?_) (fun hg=>?_) | refine ax (fun hg=>?_) (fun hg=>?_) | refine ay (fun hg=>?_) (fun hg=>?_)) <;> try simp -implicitDefEqProofs only [hg,Bool.not_true,Bool.not_false]) | ((with_reducible apply And.intro);focus (first | trivial | omega | decide | (simp -implicitDefEqProofs only [maxLen];omega) | (simp [maxLen,af,ak,an,av,ai,au,aq] <;> omega))) | fail)
     all_goals (refine (hK _ _ ?_).2;clear hK;simp -implicitDefEqProofs only [go_sem,Int.reduceNegSucc,aS,aT,bf,bl,aH,aG,aF] <;>(try simp_all [-Int.not_lt,-Int.not_le,aH,aG,aF,bF]) <;> try omega)
   | true=>
     rw [sR] at f1 hK
     simp -implicitDefEqProofs only [if_true] at hK
     obtain ⟨W,hW⟩:∃ W',W'=i.base - i.around - L - R:=⟨_,rfl⟩
     have q5:=je.1 sR
     have w4:IntKind.i64.wrap (L+i.around)=L+i.around:=wrap_i64 (by omega) (by omega)
     have w5:IntKind.i64.wrap (L+i.around+W)=L+i.around+W:=wrap_i64 (by omega) (by omega)
     have w6:IntKind.i64.wrap (L+i.around+W+R)=i.base:=by rw [wrap_i64 (by omega) (by omega)];omega
     have w7:IntKind.i64.wrap (i.base - i.around - W)=i.base - i.around - W:=wrap_i64 (by omega) (by omega)
     have w8:IntKind.i64.wrap (i.base - i.around - W - R)=L:=by rw [wrap_i64 (by omega) (by omega)];omega
     have w9:IntKind.i64.wrap (i.base - i.around - W - L)=R:=by rw [wrap_i64 (by omega) (by omega)];omega
     have g1:decide (i.base>i.base)=false:=decide_eq_false (by omega)
     have f2:=jO L
     have f3:=jO R
     rw [fl] at f2
     rw [fr] at f3
     replace w3:=w3.trans hW.symm
     rw [← hW] at f1 hK
     clear hW
     cases hr:i.bO
     all_goals ((have bM:=o1;have bN:=o2;have bR:=o3;have bZ:=o4;have cm:=f1;have fT:=f2;have gO:=f3;repeat' (first | (simp -implicitDefEqProofs only [go_sem,Int.reduceNegSucc,w1,w2,w3,hs,w4,w5,w6,w7,w8,w9,g1,hr]) | (with_reducible refine aA ?_) | (with_reducible first | refine ag bM ?_ | refine ah bM ?_) | (with_reducible first | refine ag bN ?_ | refine ah bN ?_) | (with_reducible first | refine ag bR ?_ | refine ah bR ?_) | (with_reducible first | refine ag bZ ?_ | refine ah bZ ?_) | (with_reducible first | refine ag cm ?_ | refine ah cm ?_) | (with_reducible first | refine ag fT ?_ | refine ah fT ?_) | (with_reducible first | refine ag gO ?_ | refine ah gO ?_) | ((first | refine aj (fun hg=>?_) (fun hg=>?_) | refine ax (fun hg=>?_) (fun hg=>?_) | refine ay (fun hg=>?_) (fun hg=>?_)) <;> try simp -implicitDefEqProofs only [hg,Bool.not_true,Bool.not_false]) | ((with_reducible apply And.intro);focus (first | trivial | omega | decide | (simp -implicitDefEqProofs only [maxLen];omega) | (simp [maxLen,af,ak,an,av,ai,au,aq] <;> omega))) | fail)))
     all_goals all_goals (refine (hK _ _ ?_).2;clear hK;simp -implicitDefEqProofs only [go_sem,Int.reduceNegSucc,aS,aT,bf,bl,aH,aG,aF] <;>(try simp_all [-Int.not_lt,-Int.not_le,aH,aG,aF,bF]) <;> try omega)
 | false=>
   simp -implicitDefEqProofs only [hs,Bool.false_eq_true,if_false] at hK
   simp -implicitDefEqProofs only [uD] at hK
   generalize bk i.left 0=L at *
   generalize bk i.right 0=R at *
   have f1:=jO W
   conv in fc _ _ _ _=>reduce
   simp -implicitDefEqProofs only [Ai.sv,Ai.cells,Sz.sv,Sz.cells,go_sem,Int.reduceNegSucc]
   simp -implicitDefEqProofs only [Ai.cells,Ao.cells,Sz.sv,Sz.cells,List.map_cons,List.map_nil] at o1 o2 o3 o4 hK
   cases sR:bT W with
   | false=>
     rw [sR] at f1 hK
     simp -implicitDefEqProofs only [Bool.false_eq_true,if_false,Bool.and_false,Bool.false_and] at hK
     have ie:=o1;have ig:=o2;have ij:=o3;have iq:=o4;have ir:=f1;repeat' (first | (simp -implicitDefEqProofs only [go_sem,Int.reduceNegSucc,hs]) | (with_reducible refine aA ?_) | (with_reducible first | refine ag ie ?_ | refine ah ie ?_) | (with_reducible first | refine ag ig ?_ | refine ah ig ?_) | (with_reducible first | refine ag ij ?_ | refine ah ij ?_) | (with_reducible first | refine ag iq ?_ | refine ah iq ?_) | (with_reducible first | refine ag ir ?_ | refine ah ir ?_) | ((first | refine aj (fun hg=>?_) (fun hg=>?_) | refine ax (fun hg=>?_) (fun hg=>?_) | refine ay (fun hg=>?_) (fun hg=>?_)) <;> try simp -implicitDefEqProofs only [hg,Bool.not_true,Bool.not_false]) | ((with_reducible apply And.intro);focus (first | trivial | omega | decide | (simp -implicitDefEqProofs only [maxLen];omega) | (simp [maxLen,af,ak,an,av,ai,au,aq] <;> omega))) | fail)
     all_goals (refine (hK _ _ ?_).2;clear hK;simp -implicitDefEqProofs only [go_sem,Int.reduceNegSucc,aS,aT,bf,bl,aH,aG,aF] <;>(try simp_all [-Int.not_lt,-Int.not_le,aH,aG,aF,bF]) <;> try omega)
   | true=>
     rw [sR] at f1 hK
     simp -implicitDefEqProofs only [if_true,Bool.and_true] at hK
     have q5:=je.1 sR
     have w1:IntKind.i64.wrap (i.base - i.around)=i.base - i.around:=wrap_i64 (by omega) (by omega)
     have w4:IntKind.i64.wrap (L+i.around)=L+i.around:=wrap_i64 (by omega) (by omega)
     have w5:IntKind.i64.wrap (L+i.around+W)=L+i.around+W:=wrap_i64 (by omega) (by omega)
     have w6:IntKind.i64.wrap (L+i.around+W+R)=L+i.around+W+R:=by rw [wrap_i64 (by omega) (by omega)]
     have w7:IntKind.i64.wrap (i.base - i.around - W)=i.base - i.around - W:=wrap_i64 (by omega) (by omega)
     have w8:IntKind.i64.wrap (i.base - i.around - W - R)=i.base - i.around - W - R:=wrap_i64 (by omega) (by omega)
     have w9:IntKind.i64.wrap (i.base - i.around - W - L)=i.base - i.around - W - L:=wrap_i64 (by omega) (by omega)
     have h5:=Vt (i.base - i.around - W) (by omega) (by omega)
     have Wv:IntKind.i64.wrap (i.base - i.around - W - (i.base - i.around - W) / 2)=i.base - i.around - W - (i.base - i.around - W) / 2:=wrap_i64 (by omega) (by omega)
     have zm:(i.base - i.around - W - L - R<0)↔(L+i.around+W+R>i.base):=by omega
     simp -implicitDefEqProofs only [zm] at hK
     have f2:=jO (L)
     have f3:=jO (R)
     have f4:=jO ((i.base - i.around - W) / 2)
     have f5:=jO (i.base - i.around - W - (i.base - i.around - W) / 2)
     have f6:=jO (i.base - i.around - W - R)
     have f7:=jO (i.base - i.around - W - L)
     cases hl:i.left.auto <;> cases hr:i.right.auto <;> cases ht:i.bO <;> simp -implicitDefEqProofs only [hl,hr,ht,true_implies,Bool.false_eq_true,reduceCtorEq,false_implies] at o1 o2 n1 n2 hK ⊢ <;> by_cases FJ:L+i.around+W+R>i.base <;> simp -implicitDefEqProofs only [FJ,decide_true,decide_false,not_true_eq_false,not_false_eq_true,false_and,true_and,and_true,and_self,false_or,true_or,or_false,or_true,if_true,if_false,and_false] at hK ⊢
     all_goals (try rw [n1] at o1)
     all_goals (try rw [n2] at o2)
     all_goals ((have iu:=o1;have iT:=o2;have iU:=o3;have ke:=o4;have mW:=f1;have mX:=h5;have pG:=f2;have rW:=f3;have rX:=f4;have rY:=f5;have rZ:=f6;have sg:=f7;repeat' (first | (simp -implicitDefEqProofs only [go_sem,Int.reduceNegSucc,hs,w1,w4,w5,w6,w7,w8,w9,Wv,FJ,decide_true,decide_false,n1,n2]) | (with_reducible refine aA ?_) | (with_reducible first | refine ag iu ?_ | refine ah iu ?_) | (with_reducible first | refine ag iT ?_ | refine ah iT ?_) | (with_reducible first | refine ag iU ?_ | refine ah iU ?_) | (with_reducible first | refine ag ke ?_ | refine ah ke ?_) | (with_reducible first | refine ag mW ?_ | refine ah mW ?_) | (with_reducible first | refine ag mX ?_ | refine ah mX ?_) | (with_reducible first | refine ag pG ?_ | refine ah pG ?_) | (with_reducible first | refine ag rW ?_ | refine ah rW ?_) | (with_reducible first | refine ag rX ?_ | refine ah rX ?_) | (with_reducible first | refine ag rY ?_ | refine ah rY ?_) | (with_reducible first | refine ag rZ ?_ | refine ah rZ ?_) | (with_reducible first | refine ag sg ?_ | refine ah sg ?_) | ((first | refine aj (fun hg=>?_) (fun hg=>?_) | refine ax (fun hg=>?_) (fun hg=>?_) | refine ay (fun hg=>?_) (fun hg=>?_)) <;> try simp -implicitDefEqProofs only [hg,Bool.not_true,Bool.not_false]) | ((with_reducible apply And.intro);focus (first | trivial | omega | decide | (simp -implicitDefEqProofs only [maxLen];omega) | (simp [maxLen,af,ak,an,av,ai,au,aq] <;> omega))) | fail)))
     all_goals all_goals (refine (hK _ _ ?_).2;clear hK;simp -implicitDefEqProofs only [go_sem,Int.reduceNegSucc,aS,aT,bf,bl,aH,aG,aF] <;>(try simp_all [-Int.not_lt,-Int.not_le,aH,aG,aF,bF]) <;> try omega)
end Go.aJ

namespace Go.aJ
open Go
theorem BC {i:Ai} {s:Sz} (h:nh i s=true):sH i s=jo i s:=by
 simp -implicitDefEqProofs only [nh,Bool.and_eq_true] at h
 simp [sH,h.1.2]
theorem VJ (i:Ai):aL Go.Proofs.Tryz.prog 37 [i.sv] [] [] (.aO [.agg ((iJ (nI i)).cells.map .rv),.rv (.bool (nI i).isSome)]):=by
 refine bz QD [i.sv] _ (by simp) (by simp [aP,bg,bu,aY,bq,aC.sv,Ln.sv,Nd.sv]) (fun K hK=>?_)
 have o1:=pz i.left 0
 have o2:=pz i.wide 0
 have o3:=pz i.right 0
 have f1:=jO i.base
 have f2:=jO i.around
 have f3:=jO (bk i.left 0)
 have f4:=jO (bk i.wide 0)
 have f5:=jO (bk i.right 0)
 cases h5:sG i with
 | true=>
   obtain ⟨hF,hw⟩:=Ff h5
   have a0:=Dv i i.wide hF
   have a1:=Dv i ⟨false,i.most⟩ hF
   have a2:=Dv i ⟨false,i.least⟩ hF
   rw [hF.b] at f1
   rw [hF.a] at f2
   rw [hF.l] at f3
   rw [hw] at f4
   rw [hF.r] at f5
   simp -implicitDefEqProofs only [nI,h5,if_true,vj,rU] at hK
   simp -implicitDefEqProofs only [Ao.cells,Ai.sv,Ai.cells,Sz.sv,Sz.cells,List.map_cons,List.map_nil] at a0 a1 a2 o1 o2 o3
   conv in fc _ _ _ _=>reduce
   simp -implicitDefEqProofs only [Ai.sv,Ai.cells,Sz.sv,Sz.cells,go_sem,Int.reduceNegSucc]
   have bh:=o1;have y_2:=o2;have bC:=o3;repeat' (first | (simp -implicitDefEqProofs only [go_sem,Int.reduceNegSucc]) | (with_reducible refine aA ?_) | (with_reducible first | refine ag bh ?_ | refine ah bh ?_) | (with_reducible first | refine ag y_2 ?_ | refine ah y_2 ?_) | (with_reducible first | refine ag bC ?_ | refine ah bC ?_) | ((first | refine aj (fun hg=>?_) (fun hg=>?_) | refine ax (fun hg=>?_) (fun hg=>?_) | refine ay (fun hg=>?_) (fun hg=>?_)) <;> try simp -implicitDefEqProofs only [hg,Bool.not_true,Bool.not_false]) | ((with_reducible apply And.intro);focus (first | trivial | omega | decide | (simp -implicitDefEqProofs only [maxLen];omega) | (simp [maxLen,af,ak,an,av,ai,au,aq] <;> omega))) | fail)
   refine kK 6 ?_
   have bI:=f1;have bK:=f2;have bM:=f3;have bN:=f4;have bR:=f5;repeat' (first | (simp -implicitDefEqProofs only [go_sem,Int.reduceNegSucc,kO,kP,kQ,kR,kS,kT,kI,Int.reduceLT,decide_true,decide_false,Int.reduceToNat,Nat.reduceMul]) | (with_reducible refine aA ?_) | (with_reducible show G _ _ (It.l _ _::_) _ _ _;refine kJ ?_) | (with_reducible first | refine ag bI ?_ | refine ah bI ?_) | (with_reducible first | refine ag bK ?_ | refine ah bK ?_) | (with_reducible first | refine ag bM ?_ | refine ah bM ?_) | (with_reducible first | refine ag bN ?_ | refine ah bN ?_) | (with_reducible first | refine ag bR ?_ | refine ah bR ?_) | ((first | refine aj (fun hg=>?_) (fun hg=>?_) | refine ax (fun hg=>?_) (fun hg=>?_) | refine ay (fun hg=>?_) (fun hg=>?_)) <;> try simp -implicitDefEqProofs only [hg,Bool.not_true,Bool.not_false]) | ((with_reducible apply And.intro);focus (first | trivial | omega | decide | (simp -implicitDefEqProofs only [maxLen];omega) | (simp [maxLen,af,ak,an,av,ai,au,aq] <;> omega))) | fail)
   have i0:=@BC i i.wide
   have i1:=@BC i ⟨false,i.most⟩
   have i2:=@BC i ⟨false,i.least⟩
   generalize sH i i.wide=V0 at *
   generalize sH i ⟨false,i.most⟩=V1 at *
   generalize sH i ⟨false,i.least⟩=V2 at *
   cases k0:nh i i.wide with
   | false=>
     rw [k0] at a0
     simp -implicitDefEqProofs only [k0,Bool.false_eq_true,if_false] at hK
     have bZ:=a0;have cm:=a1;have fT:=a2;repeat' (first | (simp -implicitDefEqProofs only [go_sem,Int.reduceNegSucc]) | (with_reducible refine aA ?_) | (with_reducible first | refine ag bZ ?_ | refine ah bZ ?_) | (with_reducible first | refine ag cm ?_ | refine ah cm ?_) | (with_reducible first | refine ag fT ?_ | refine ah fT ?_) | ((first | refine aj (fun hg=>?_) (fun hg=>?_) | refine ax (fun hg=>?_) (fun hg=>?_) | refine ay (fun hg=>?_) (fun hg=>?_)) <;> try simp -implicitDefEqProofs only [hg,Bool.not_true,Bool.not_false]) | ((with_reducible apply And.intro);focus (first | trivial | omega | decide | (simp -implicitDefEqProofs only [maxLen];omega) | (simp [maxLen,af,ak,an,av,ai,au,aq] <;> omega))) | fail)
     all_goals (refine (hK _ _ ?_).2;clear hK;simp -implicitDefEqProofs only [go_sem,Int.reduceNegSucc,aS,aT,bf,bl,aH,aG,aF,Ao.cells,iJ] <;>(try simp_all [-Int.not_lt,-Int.not_le,aH,aG,aF,bF,Ao.cells,iJ]) <;> try omega)
   | true=>
     rw [k0] at a0
     have j0:=i0 k0
     simp -implicitDefEqProofs only [k0,if_true,Option.bind,← j0] at hK
     by_cases m0:V0.w>i.most
     ·have g0:decide (V0.w>i.most)=true:=decide_eq_true m0
      simp -implicitDefEqProofs only [g0,if_true] at hK
      cases k1:nh i ⟨false,i.most⟩ with
      | false=>
        rw [k1] at a1
        simp -implicitDefEqProofs only [k1,Bool.false_eq_true,if_false] at hK
        have gO:=a0;have ie:=a1;have ig:=a2;repeat' (first | (simp -implicitDefEqProofs only [go_sem,Int.reduceNegSucc,g0]) | (with_reducible refine aA ?_) | (with_reducible first | refine ag gO ?_ | refine ah gO ?_) | (with_reducible first | refine ag ie ?_ | refine ah ie ?_) | (with_reducible first | refine ag ig ?_ | refine ah ig ?_) | ((first | refine aj (fun hg=>?_) (fun hg=>?_) | refine ax (fun hg=>?_) (fun hg=>?_) | refine ay (fun hg=>?_) (fun hg=>?_)) <;> try simp -implicitDefEqProofs only [hg,Bool.not_true,Bool.not_false]) | ((with_reducible apply And.intro);focus (first | trivial | omega | decide | (simp -implicitDefEqProofs only [maxLen];omega) | (simp [maxLen,af,ak,an,av,ai,au,aq] <;> omega))) | fail)
        all_goals (refine (hK _ _ ?_).2;clear hK;simp -implicitDefEqProofs only [go_sem,Int.reduceNegSucc,aS,aT,bf,bl,aH,aG,aF,Ao.cells,iJ] <;>(try simp_all [-Int.not_lt,-Int.not_le,aH,aG,aF,bF,Ao.cells,iJ]) <;> try omega)
      | true=>
        rw [k1] at a1
        have j1:=i1 k1
        simp -implicitDefEqProofs only [k1,if_true,Option.bind,← j1] at hK
        by_cases m1:V1.w<i.least
        ·have g1:decide (V1.w<i.least)=true:=decide_eq_true m1
         simp -implicitDefEqProofs only [rU,g1,if_true] at hK
         cases k2:nh i ⟨false,i.least⟩ with
         | false=>
           rw [k2] at a2
           simp -implicitDefEqProofs only [k2,Bool.false_eq_true,if_false] at hK
           have ij:=a0;have iq:=a1;have ir:=a2;repeat' (first | (simp -implicitDefEqProofs only [go_sem,Int.reduceNegSucc,g0,g1]) | (with_reducible refine aA ?_) | (with_reducible first | refine ag ij ?_ | refine ah ij ?_) | (with_reducible first | refine ag iq ?_ | refine ah iq ?_) | (with_reducible first | refine ag ir ?_ | refine ah ir ?_) | ((first | refine aj (fun hg=>?_) (fun hg=>?_) | refine ax (fun hg=>?_) (fun hg=>?_) | refine ay (fun hg=>?_) (fun hg=>?_)) <;> try simp -implicitDefEqProofs only [hg,Bool.not_true,Bool.not_false]) | ((with_reducible apply And.intro);focus (first | trivial | omega | decide | (simp -implicitDefEqProofs only [maxLen];omega) | (simp [maxLen,af,ak,an,av,ai,au,aq] <;> omega))) | fail)
           all_goals (refine (hK _ _ ?_).2;clear hK;simp -implicitDefEqProofs only [go_sem,Int.reduceNegSucc,aS,aT,bf,bl,aH,aG,aF,Ao.cells,iJ] <;>(try simp_all [-Int.not_lt,-Int.not_le,aH,aG,aF,bF,Ao.cells,iJ]) <;> try omega)
         | true=>
           rw [k2] at a2
           have j2:=i2 k2
           simp -implicitDefEqProofs only [k2,if_true,← j2] at hK
           have iu:=a0;have iT:=a1;have iU:=a2;repeat' (first | (simp -implicitDefEqProofs only [go_sem,Int.reduceNegSucc,g0,g1]) | (with_reducible refine aA ?_) | (with_reducible first | refine ag iu ?_ | refine ah iu ?_) | (with_reducible first | refine ag iT ?_ | refine ah iT ?_) | (with_reducible first | refine ag iU ?_ | refine ah iU ?_) | ((first | refine aj (fun hg=>?_) (fun hg=>?_) | refine ax (fun hg=>?_) (fun hg=>?_) | refine ay (fun hg=>?_) (fun hg=>?_)) <;> try simp -implicitDefEqProofs only [hg,Bool.not_true,Bool.not_false]) | ((with_reducible apply And.intro);focus (first | trivial | omega | decide | (simp -implicitDefEqProofs only [maxLen];omega) | (simp [maxLen,af,ak,an,av,ai,au,aq] <;> omega))) | fail)
           all_goals (refine (hK _ _ ?_).2;clear hK;simp -implicitDefEqProofs only [go_sem,Int.reduceNegSucc,aS,aT,bf,bl,aH,aG,aF,Ao.cells,iJ] <;>(try simp_all [-Int.not_lt,-Int.not_le,aH,aG,aF,bF,Ao.cells,iJ]) <;> try omega)
        ·have g1:decide (V1.w<i.least)=false:=decide_eq_false m1
         simp -implicitDefEqProofs only [rU,g1,Bool.false_eq_true,if_false] at hK
         have ke:=a0;have mW:=a1;have mX:=a2;repeat' (first | (simp -implicitDefEqProofs only [go_sem,Int.reduceNegSucc,g0,g1]) | (with_reducible refine aA ?_) | (with_reducible first | refine ag ke ?_ | refine ah ke ?_) | (with_reducible first | refine ag mW ?_ | refine ah mW ?_) | (with_reducible first | refine ag mX ?_ | refine ah mX ?_) | ((first | refine aj (fun hg=>?_) (fun hg=>?_) | refine ax (fun hg=>?_) (fun hg=>?_) | refine ay (fun hg=>?_) (fun hg=>?_)) <;> try simp -implicitDefEqProofs only [hg,Bool.not_true,Bool.not_false]) | ((with_reducible apply And.intro);focus (first | trivial | omega | decide | (simp -implicitDefEqProofs only [maxLen];omega) | (simp [maxLen,af,ak,an,av,ai,au,aq] <;> omega))) | fail)
         all_goals (refine (hK _ _ ?_).2;clear hK;simp -implicitDefEqProofs only [go_sem,Int.reduceNegSucc,aS,aT,bf,bl,aH,aG,aF,Ao.cells,iJ] <;>(try simp_all [-Int.not_lt,-Int.not_le,aH,aG,aF,bF,Ao.cells,iJ]) <;> try omega)
     ·have g0:decide (V0.w>i.most)=false:=decide_eq_false m0
      simp -implicitDefEqProofs only [g0,Bool.false_eq_true,if_false,Option.bind] at hK
      by_cases m1:V0.w<i.least
      ·have g1:decide (V0.w<i.least)=true:=decide_eq_true m1
       simp -implicitDefEqProofs only [rU,g1,if_true] at hK
       cases k2:nh i ⟨false,i.least⟩ with
       | false=>
         rw [k2] at a2
         simp -implicitDefEqProofs only [k2,Bool.false_eq_true,if_false] at hK
         have pG:=a0;have rW:=a1;have rX:=a2;repeat' (first | (simp -implicitDefEqProofs only [go_sem,Int.reduceNegSucc,g0,g1]) | (with_reducible refine aA ?_) | (with_reducible first | refine ag pG ?_ | refine ah pG ?_) | (with_reducible first | refine ag rW ?_ | refine ah rW ?_) | (with_reducible first | refine ag rX ?_ | refine ah rX ?_) | ((first | refine aj (fun hg=>?_) (fun hg=>?_) | refine ax (fun hg=>?_) (fun hg=>?_) | refine ay (fun hg=>?_) (fun hg=>?_)) <;> try simp -implicitDefEqProofs only [hg,Bool.not_true,Bool.not_false]) | ((with_reducible apply And.intro);focus (first | trivial | omega | decide | (simp -implicitDefEqProofs only [maxLen];omega) | (simp [maxLen,af,ak,an,av,ai,au,aq] <;> omega))) | fail)
         all_goals (refine (hK _ _ ?_).2;clear hK;simp -implicitDefEqProofs only [go_sem,Int.reduceNegSucc,aS,aT,bf,bl,aH,aG,aF,Ao.cells,iJ] <;>(try simp_all [-Int.not_lt,-Int.not_le,aH,aG,aF,bF,Ao.cells,iJ]) <;> try omega)
       | true=>
         rw [k2] at a2
         have j2:=i2 k2
         simp -implicitDefEqProofs only [k2,if_true,← j2] at hK
         have rY:=a0;have rZ:=a1;have sg:=a2;repeat' (first | (simp -implicitDefEqProofs only [go_sem,Int.reduceNegSucc,g0,g1]) | (with_reducible refine aA ?_) | (with_reducible first | refine ag rY ?_ | refine ah rY ?_) | (with_reducible first | refine ag rZ ?_ | refine ah rZ ?_) | (with_reducible first | refine ag sg ?_ | refine ah sg ?_) | ((first | refine aj (fun hg=>?_) (fun hg=>?_) | refine ax (fun hg=>?_) (fun hg=>?_) | refine ay (fun hg=>?_) (fun hg=>?_)) <;> try simp -implicitDefEqProofs only [hg,Bool.not_true,Bool.not_false]) | ((with_reducible apply And.intro);focus (first | trivial | omega | decide | (simp -implicitDefEqProofs only [maxLen];omega) | (simp [maxLen,af,ak,an,av,ai,au,aq] <;> omega))) | fail)
         all_goals (refine (hK _ _ ?_).2;clear hK;simp -implicitDefEqProofs only [go_sem,Int.reduceNegSucc,aS,aT,bf,bl,aH,aG,aF,Ao.cells,iJ] <;>(try simp_all [-Int.not_lt,-Int.not_le,aH,aG,aF,bF,Ao.cells,iJ]) <;> try omega)
      ·have g1:decide (V0.w<i.least)=false:=decide_eq_false m1
       simp -implicitDefEqProofs only [rU,g1,Bool.false_eq_true,if_false] at hK
       have xF:=a0;have xG:=a1;have xH:=a2;repeat' (first | (simp -implicitDefEqProofs only [go_sem,Int.reduceNegSucc,g0,g1]) | (with_reducible refine aA ?_) | (with_reducible first | refine ag xF ?_ | refine ah xF ?_) | (with_reducible first | refine ag xG ?_ | refine ah xG ?_) | (with_reducible first | refine ag xH ?_ | refine ah xH ?_) | ((first | refine aj (fun hg=>?_) (fun hg=>?_) | refine ax (fun hg=>?_) (fun hg=>?_) | refine ay (fun hg=>?_) (fun hg=>?_)) <;> try simp -implicitDefEqProofs only [hg,Bool.not_true,Bool.not_false]) | ((with_reducible apply And.intro);focus (first | trivial | omega | decide | (simp -implicitDefEqProofs only [maxLen];omega) | (simp [maxLen,af,ak,an,av,ai,au,aq] <;> omega))) | fail)
       all_goals (refine (hK _ _ ?_).2;clear hK;simp -implicitDefEqProofs only [go_sem,Int.reduceNegSucc,aS,aT,bf,bl,aH,aG,aF,Ao.cells,iJ] <;>(try simp_all [-Int.not_lt,-Int.not_le,aH,aG,aF,bF,Ao.cells,iJ]) <;> try omega)
 | false=>
   simp -implicitDefEqProofs only [nI,h5,Bool.false_eq_true,if_false] at hK
   simp -implicitDefEqProofs only [Ai.sv,Ai.cells,Sz.sv,Sz.cells,List.map_cons,List.map_nil] at o1 o2 o3
   conv in fc _ _ _ _=>reduce
   simp -implicitDefEqProofs only [Ai.sv,Ai.cells,Sz.sv,Sz.cells,go_sem,Int.reduceNegSucc]
   have xI:=o1;have xJ:=o2;have xK:=o3;repeat' (first | (simp -implicitDefEqProofs only [go_sem,Int.reduceNegSucc]) | (with_reducible refine aA ?_) | (with_reducible first | refine ag xI ?_ | refine ah xI ?_) | (with_reducible first | refine ag xJ ?_ | refine ah xJ ?_) | (with_reducible first | refine ag xK ?_ | refine ah xK ?_) | ((first | refine aj (fun hg=>?_) (fun hg=>?_) | refine ax (fun hg=>?_) (fun hg=>?_) | refine ay (fun hg=>?_) (fun hg=>?_)) <;> try simp -implicitDefEqProofs only [hg,Bool.not_true,Bool.not_false]) | ((with_reducible apply And.intro);focus (first | trivial | omega | decide | (simp -implicitDefEqProofs only [maxLen];omega) | (simp [maxLen,af,ak,an,av,ai,au,aq] <;> omega))) | fail)
   refine kK 6 ?_
   have xL:=f1;have xM:=f2;have xN:=f3;have xO:=f4;have xP:=f5;repeat' (first | (simp -implicitDefEqProofs only [go_sem,Int.reduceNegSucc,kO,kP,kQ,kR,kS,kT,kI,Int.reduceLT,decide_true,decide_false,Int.reduceToNat,Nat.reduceMul]) | (with_reducible refine aA ?_) | (with_reducible show G _ _ (It.l _ _::_) _ _ _;refine kJ ?_) | (with_reducible first | refine ag xL ?_ | refine ah xL ?_) | (with_reducible first | refine ag xM ?_ | refine ah xM ?_) | (with_reducible first | refine ag xN ?_ | refine ah xN ?_) | (with_reducible first | refine ag xO ?_ | refine ah xO ?_) | (with_reducible first | refine ag xP ?_ | refine ah xP ?_) | ((first | refine aj (fun hg=>?_) (fun hg=>?_) | refine ax (fun hg=>?_) (fun hg=>?_) | refine ay (fun hg=>?_) (fun hg=>?_)) <;> try simp -implicitDefEqProofs only [hg,Bool.not_true,Bool.not_false]) | ((with_reducible apply And.intro);focus (first | trivial | omega | decide | (simp -implicitDefEqProofs only [maxLen];omega) | (simp [maxLen,af,ak,an,av,ai,au,aq] <;> omega))) | fail)
   all_goals first | (exfalso;simp_all [sG];done) | skip
   all_goals (refine (hK _ _ ?_).2;clear hK;simp -implicitDefEqProofs only [go_sem,Int.reduceNegSucc,aS,aT,bf,bl,aH,aG,aF,Ao.cells,iJ] <;>(try simp_all [-Int.not_lt,-Int.not_le,aH,aG,aF,bF,Ao.cells,iJ]) <;> try omega)
end Go.aJ
