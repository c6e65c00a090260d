/- Part 2 of the proof: EngO, EngP, EngQ, EngR, EngS, EngT, EngU, EngV, EngW, EngX, EngY, EngZ, EngZa, EngZb, EngZc, EngZd, K0, KF, T0, T1, T2, K1, K2. -/
import Derived.Test.YtnaoehbodmiekaaFlowApart1
import Derived.ProofKit
import Derived.OpenShut
import Derived.Below
import Derived.Test.YtnaoehbodmiekaaProg
import Derived.KernelRfl
set_option linter.unusedSimpArgs false
set_option linter.unusedVariables false
set_option maxRecDepth 100000
set_option maxHeartbeats 16000000
namespace Go.aI
open Go
structure St where
 env:List (Nat×U)
 h:List (Option HB)
def lk:List (Nat×U)→Nat→U
 | [],_=>.dead
 | (m,v)::r,n=>if m=n then v else lk r n
def ag (h:List (Option HB)) (id:Nat):Option HB:=match h[id]? with
 | some x=>x
 | none=>none
def cD (dst:Option Nat) (v:U) (env:List (Nat×U)):List (Nat×U):=match dst with
 | some d=>(d,v)::env
 | none=>env
def aZ (h:List (Option HB)) (q:Nat×HB):List (Option HB):=if q.1=h.length then h++[some q.2] else h.set q.1 (some q.2)
def uS (h:List (Option HB)):Option (Nat×HB)→List (Option HB)
 | none=>h
 | some q=>aZ h q
def jX:List (Option HB)→List (Nat×HB)→List (Option HB)
 | h,[]=>h
 | h,q::r=>jX (aZ h q) r
def bk (pre:List (Nat×HB)):List (Option HB)→List (Nat×HB)→Prop
 | _,[]=>True
 | h,q::r=>(q.1=h.length∨(q.1<h.length∧∃ hb,(q.1,hb)∈pre))∧bk pre (aZ h q) r
theorem uy (env:List (Nat×U)) (d:Nat) (v:U):lk ((d,v)::env)=up (lk env) d v:=by
 funext n
 simp only [lk,up]
 by_cases h:d=n
 ·simp [h]
 ·rw [if_neg h,if_neg (Ne.symm h)]
theorem sI (h:List (Option HB)) (q:Nat×HB):h.length≤(aZ h q).length:=by
 unfold aZ;split <;> simp
theorem wq {h:List (Option HB)} {q:Nat×HB} (hq:q.1≤h.length):ag (aZ h q)=up (ag h) q.1 (some q.2):=by
 funext id
 unfold aZ ag up
 by_cases he:q.1=h.length
 ·rw [if_pos he]
  by_cases hi:id=q.1
  ·subst hi;simp [he]
  ·rw [if_neg hi]
   show _=(match h[id]? with | some x=>x | none=>none)
   by_cases hl:id<h.length
   ·rw [List.getElem?_append_left hl]
   ·rw [List.getElem?_append_right (by omega),List.getElem?_eq_none (l:=h) (by omega),List.getElem?_eq_none (by simp;omega)]
 ·rw [if_neg he,List.getElem?_set]
  by_cases hi:id=q.1
  ·subst hi
   have:q.1<h.length:=by omega
   simp [this]
  ·rw [if_neg (Ne.symm hi),if_neg hi]
theorem tL {pre:List (Nat×HB)}:∀ {us:List (Nat×HB)} {h:List (Option HB)},bk pre h us→ag (jX h us)=bz (ag h) us∧h.length≤(jX h us).length
 | [],h,_=>⟨rfl,Nat.le_refl _⟩
 | q::r,h,hk=>by
   obtain ⟨h1,h2⟩:=hk
   have hle:q.1≤h.length:=by rcases h1 with h1 | ⟨h1,_⟩ <;> omega
   obtain ⟨g1,g2⟩:=tL h2
   refine ⟨?_,Nat.le_trans (sI h q) g2⟩
   obtain ⟨id,hb⟩:=q
   rw [jX,g1,wq hle];rfl
structure eF (C:Ctx) (n0:Nat) (s:St) (a:Act) (w:World):Prop where
 rep:∃ aa,fe C (lk s.env) (ag s.h) a w aa
 uu:n0≤s.h.length
 h0:∀ id,n0≤id→C.h0 id=none
theorem Ei {C:Ctx} {n0:Nat} {s:St} {a:Act} {w:World} (R:eF C n0 s a w) {pre:List (Nat×HB)}:∀ {us:List (Nat×HB)} {h:List (Option HB)},s.h.length≤h.length→bk pre h us→qh C (ag s.h) pre us
 | [],h,_,_=>fun q hq=>by simp at hq
 | p::r,h,hl,hk=>fun q hq=>by
   rcases List.mem_cons.1 hq with rfl | hq
   ·rcases hk.1 with h1 | ⟨_,h1⟩
    ·refine .inr ⟨?_,R.h0 _ (by have:=R.uu;omega)⟩
     unfold ag
     rw [List.getElem?_eq_none (by omega)]
    ·exact .inl h1
   ·exact Ei R (h:=aZ h p) (by have:=sI h p;omega) hk.2 q hq
theorem EM {w:World} {ok:Nat→Prop} {aa:Nat→Option Nat} {hp:Hp}:Rp w ok aa hp (.aM []) undef:=.aM [] [] rfl (fun j y hj=>by simp at hj)
theorem OR {w:World} {ok:Nat→Prop} {aa:Nat→Option Nat} {hp:Hp} {v:Value} (h:Rp w ok aa hp (.aM []) v):v=undef:=by
 cases h with
 | aM _ vs hl _=>
   have:vs=[]:=List.eq_nil_of_length_eq_zero (by simpa using hl)
   subst this;rfl
def fO (en:Nat→U):Option (Nat×Bool)→Option Bool
 | none=>some true
 | some (d,b)=>match en d with
   | .rv (.bool t)=>some (t == b)
   | .aM []=>some false
   | _=>none
def oD (P:Program) (f:FuncId) (args:List U) (h:List (Option HB)) (K:U→List (Option HB)→Prop):Prop:=
 ∃ pre us sv,aK P f args pre us sv∧aW (ag h) pre∧bk pre h us∧K sv (jX h us)
def vv (P:Program) (h:List (Option HB)) (K:U→List (Option HB)→Prop):List U→Prop
 | .fn f caps::args=>oD P f (args++caps) h K
 | .bZ f caps::args=>oD P f (caps++args) h K
 | _=>False
def ud (P:Program) (name:String) (h:List (Option HB)) (K:U→List (Option HB)→Prop):List U→Prop
 | s::args=>match mA s with
   | some (t,x)=>match mC P t name with
     | some (f,none)=>oD P f (x::args) h K
     | some (f,some (n,agg))=>match dQ n agg (ag h) x with
       | some (p,y,_,_)=>p∧oD P f (y::args) h K
       | none=>False
     | none=>False
   | none=>False
 | _=>False
def xp (h:List (Option HB)) (K:U→List (Option HB)→Prop):XR→Prop
 | some (p,sv,u,_)=>p∧K sv (uS h u)
 | none=>False
def qR (P:Program) (ao:AO) (args:List U) (h:List (Option HB)) (K:U→List (Option HB)→Prop):Prop:=
 match ao with
 | .call f=>oD P f args h K
 | .lZ=>vv P h K args
 | .inv name=>ud P name h K args
 | ao=>xp h K (bF ao args (ag h) h.length)
def RW (P:Program) (K:St→Prop):List aU→St→Prop
 | [],s=>K s
 | op::r,s=>match fO (lk s.env) op.guard with
   | some true=>qR P op.ao (op.xs.map (eo (lk s.env))) s.h fun sv h'=>RW P K r ⟨cD op.dst sv s.env,h'⟩
   | some false=>RW P K r ⟨cD op.dst (.aM []) s.env,s.h⟩
   | none=>False
theorem DQ {n:Nat} {agg:Bool} {hp:Hp} {x y:U} {p:Prop} {u:Option (Nat×HB)} {rd:List Nat} (h:dQ n agg hp x=some (p,y,u,rd)):∀ id∈rd,(hp id).isSome=true:=by
 unfold dQ at h
 repeat' split at h
 all_goals first | (cases h;done) | (cases h;simp [*])
def sr (h:List (Option HB)) (rd:List Nat):List (Nat×HB):=rd.filterMap fun id=>(ag h id).map fun hb=>(id,hb)
theorem CU {P:Program} {o:Oper} {name:String} {s x y:U} {t:TypeId} {args:List U} {f:FuncId} {n:Nat} {agg:Bool} {cX:List Operand} (hc:fN P o.op=some (.inv name,cX)) (hi:mA s=some (t,x)) (hf:mC P t name=some (f,some (n,agg))) {h:List (Option HB)} {p:Prop} {u:Option (Nat×HB)} {rd:List Nat} (hE:dQ n agg (ag h) x=some (p,y,u,rd)) (ah:p)
 {pre us:List (Nat×HB)} {sv:U} (H:aK P f (y::args) pre us sv) (h2:aW (ag h) pre) (h3:bk pre h us):mU P o (s::args) (sr h rd++pre) us sv∧aW (ag h) (sr h rd++pre)∧bk (sr h rd++pre) h us:=by
 have hrd:=DQ hE
 have hpre:aW (ag h) (sr h rd++pre):=fun q hq=>by
  rcases List.mem_append.1 hq with hq | hq
  ·obtain ⟨id,_,hid⟩:=List.mem_filterMap.1 hq
   cases ck:ag h id with
   | none=>simp [ck] at hid
   | some hb=>simp [ck] at hid;subst hid;exact ck
  ·exact h2 q hq
 have NY:∀ {us:List (Nat×HB)} {h':List (Option HB)},bk pre h' us→bk (sr h rd++pre) h' us:=by
  intro us
  induction us with
  | nil=>intro h' _;trivial
  | cons q r ih=>
    intro h' hk
    refine ⟨hk.1.imp (fun h=>h) (fun ⟨a,hb,hm⟩=>⟨a,hb,List.mem_append.2 (.inr hm)⟩),ih hk.2⟩
 refine ⟨Ad hc hi hf (y:=y) (fun hp hP=>?_) (xq:=pre) (fun q hq=>List.mem_append.2 (.inr hq)) H (fun C hp hnew hP q hq=>?_),hpre,NY h3⟩
 ·refine ⟨p,u,rd,DP hE (fun id hid=>?_),ah⟩
  obtain ⟨hb,nu⟩:=Option.isSome_iff_exists.1 (hrd id hid)
  rw [nu]
  exact hP (id,hb) (List.mem_append.2 (.inl (List.mem_filterMap.2 ⟨id,hid,by simp [nu]⟩)))
 ·rcases hnew q hq with ⟨hb,hm⟩ | hn
  ·rcases List.mem_append.1 hm with hm | hm
   ·
    have:∀ {us:List (Nat×HB)} {h':List (Option HB)},bk pre h' us→∀ q∈us,(∃ hb,(q.1,hb)∈pre)∨h'.length≤q.1:=by
     intro us
     induction us with
     | nil=>intro h' _ q hq;simp at hq
     | cons r l ih=>
       intro h' hk q hq
       rcases List.mem_cons.1 hq with rfl | hq
       ·rcases hk.1 with h1 | ⟨_,h1⟩
        ·exact .inr (by omega)
        ·exact .inl h1
       ·rcases ih hk.2 q hq with h1 | h1
        ·exact .inl h1
        ·exact .inr (by have:=sI h' r;omega)
    rcases this h3 q hq with h1 | h1
    ·exact .inl h1
    ·exfalso
     obtain ⟨id,_,hid⟩:=List.mem_filterMap.1 hm
     cases ck:ag h id with
     | none=>simp [ck] at hid
     | some hb'=>
       simp [ck] at hid
       have:id<h.length:=by
        unfold ag at ck
        cases hl:h[id]? with
        | none=>simp [hl] at ck
        | some x=>exact (List.getElem?_eq_some_iff.1 hl).1
       omega
   ·exact .inl ⟨hb,hm⟩
  ·exact .inr hn
theorem Oe {P:Program} {o:Oper} {ao:AO} {cX:List Operand} (hc:fN P o.op=some (ao,cX)) {args:List U} {h:List (Option HB)} {K:U→List (Option HB)→Prop} (hW:qR P ao args h K) :
 ∃ pre us sv,mU P o args pre us sv∧aW (ag h) pre∧bk pre h us∧K sv (jX h us):=by
 unfold qR at hW
 split at hW
 ·obtain ⟨pre,us,sv,h1,h2,h3,h4⟩:=hW
  exact ⟨pre,us,sv,El hc h1,h2,h3,h4⟩
 ·unfold vv at hW
  split at hW
  ·obtain ⟨pre,us,sv,h1,h2,h3,h4⟩:=hW
   exact ⟨pre,us,sv,En hc h1,h2,h3,h4⟩
  ·obtain ⟨pre,us,sv,h1,h2,h3,h4⟩:=hW
   exact ⟨pre,us,sv,Em hc h1,h2,h3,h4⟩
  ·exact hW.elim
 ·unfold ud at hW
  split at hW
  ·rename_i s eG
   split at hW
   ·rename_i t x hi
    split at hW
    ·rename_i f hf
     obtain ⟨pre,us,sv,h1,h2,h3,h4⟩:=hW
     exact ⟨pre,us,sv,Ad hc hi hf (y:=x) (fun hp hP=>rfl) (fun q hq=>hq) h1 (fun C hp hn _=>hn),h2,h3,h4⟩
    ·rename_i f n agg hf
     split at hW
     ·rename_i p y u rd hE
      obtain ⟨ah,pre,us,sv,h1,h2,h3,h4⟩:=hW
      obtain ⟨g1,g2,g3⟩:=CU hc hi hf hE ah h1 h2 h3
      exact ⟨_,us,sv,g1,g2,g3,h4⟩
     ·exact hW.elim
    ·exact hW.elim
   ·exact hW.elim
  ·exact hW.elim
 ·unfold xp at hW
  split at hW
  ·rename_i p sv u rd hE
   obtain ⟨hp,hK⟩:=hW
   have mq:ag h h.length=none:=by unfold ag;rw [List.getElem?_eq_none (Nat.le_refl _)]
   refine ⟨_,uR u,sv,Eo hc hE hp mq,fun q hq=>?_,?_,?_⟩
   ·obtain ⟨id,_,hid⟩:=List.mem_filterMap.1 hq
    cases ck:ag h id with
    | none=>simp [ck] at hid
    | some hb=>simp [ck] at hid;subst hid;exact ck
   ·cases u with
    | none=>trivial
    | some q=>
      have ur:=Ac hE
      refine ⟨?_,trivial⟩
      rcases ur.1 q rfl with h1 | h1
      ·exact .inl h1
      ·right
       have hs:=ur.2 _ h1
       obtain ⟨hb,nu⟩:=Option.isSome_iff_exists.1 hs
       refine ⟨?_,hb,List.mem_filterMap.2 ⟨q.1,h1,by simp [nu]⟩⟩
       unfold ag at nu
       cases hl:h[q.1]? with
       | none=>simp [hl] at nu
       | some x=>exact (List.getElem?_eq_some_iff.1 hl).1
   ·cases u with
    | none=>exact hK
    | some q=>exact hK
  ·exact hW.elim
theorem yO {C:Ctx} {en:Nat→U} {hp:Hp} {a:Act} {w:World} {aa:Nat→Option Nat} (RF:fe C en hp a w aa) {ops:Array Oper} {o:Oper} {N:Nat} {P:Program} {op:aU} (hc:lz P ops N o=some op) {b:Bool} (h:fO en op.guard=some b):Region.wanted o (yielded ops a.tmps)=b:=by
 unfold lz at hc
 split at hc
 ·cases hc
 ·split at hc
  ·cases hc
  ·split at hc
   ·split at hc
    ·rename_i hg
     cases hc
     simp only [fO,Option.some.injEq] at h
     simp [Region.wanted,hg,← h]
    ·rename_i j b' hg
     split at hc
     ·rename_i d hd
      cases hc
      simp only [fO] at h
      split at h
      ·rename_i t ht
       simp only [Option.some.injEq] at h
       have:=RF.env d
       rw [ht] at this
       have hv:=qX this
       have Km:a.tmps[d]?=some (.bool t):=by
        rw [Array.getD_eq_getD_getElem?] at hv
        cases hx:a.tmps[d]? with
        | none=>simp [hx,undef] at hv
        | some x=>simp [hx] at hv;rw [hv]
       simp only [Region.wanted,hg,yielded,hd,Option.bind_some,Km]
       rw [← h];cases t <;> cases b' <;> rfl
      ·rename_i ht
       simp only [Option.some.injEq] at h
       have:=RF.env d
       rw [ht] at this
       have hv:=OR this
       have hno:yielded ops a.tmps j=none:=by
        simp only [yielded,hd,Option.bind_some]
        rw [Array.getD_eq_getD_getElem?] at hv
        cases hx:a.tmps[d]? with
        | none=>rfl
        | some x=>simp [hx] at hv;rw [hv];rfl
       simp only [Region.wanted,hg,hno]
       rw [← h];rfl
      ·cases h
     ·cases hc
   ·cases hc
theorem yu {P:Program} {ops:Array Oper} {N:Nat} {o:Oper} {op:aU} (hc:lz P ops N o=some op):∃ cX,fN P o.op=some (op.ao,cX)∧rC cX=some op.xs∧o.dst=op.dst∧∀ d,op.dst=some d→d<N:=by
 unfold lz at hc
 split at hc
 ·cases hc
 ·rename_i ao xs hao
  split at hc
  ·cases hc
  ·rename_i ys hys
   split at hc
   ·rename_i hd
    split at hc
    ·cases hc
     exact ⟨xs,hao,hys,rfl,fun d gd=>by have yZ:o.dst=some d:=gd;rw [yZ] at hd;simpa using hd⟩
    ·split at hc
     ·cases hc
      exact ⟨xs,hao,hys,rfl,fun d gd=>by have yZ:o.dst=some d:=gd;rw [yZ] at hd;simpa using hd⟩
     ·cases hc
   ·cases hc
theorem fe.EB {C:Ctx} {env:List (Nat×U)} {hp:Hp} {a:Act} {w:World} {aa:Nat→Option Nat} (R:fe C (lk env) hp a w aa) {dst:Option Nat} (hd:∀ d,dst=some d→d<C.N) {s:U} {v:Value} (h:Rp w (aD C aa hp) aa hp s v) :
 fe C (lk (cD dst s env)) hp (a.put dst v) w aa:=by
 cases dst with
 | none=>exact R
 | some d=>
   have:=R.put (hd d rfl) h
   rw [← uy] at this;exact this
theorem EY {P:Program} {C:Ctx} {n0:Nat} {ops:Array Oper} {K:St→Prop} {Q:Exit→Act→World→Prop} (hK:∀ s a w,K s→eF C n0 s a w→Q .normal a w) :
 ∀ (l:List aU) (is:List Nat) (s:St) (a:Act) (w:World),is.length=l.length→(∀ (j i:Nat) (op:aU),is[j]?=some i→l[j]?=some op→∃ o,ops[i]?=some o∧lz P ops C.N o=some op)→
  RW P K l s→eF C n0 s a w→wpOps P ops Q is a w
 | [],[],s,a,w,_,_,h,R=>hK s a w h R
 | [],_::_,s,a,w,hl,_,_,_=>by simp at hl
 | _::_,[],s,a,w,hl,_,_,_=>by simp at hl
 | op::l,i::is,s,a,w,hl,hc,h,R=>by
   obtain ⟨o,ho,ko⟩:=hc 0 i op rfl rfl
   obtain ⟨cX,oT,oa,rO,rP⟩:=yu ko
   have ih:=EY (P:=P) (ops:=ops) hK l is
   have hl':is.length=l.length:=by simpa using hl
   have lC:∀ (j i:Nat) (op:aU),is[j]?=some i→l[j]?=some op→∃ o,ops[i]?=some o∧lz P ops C.N o=some op:=fun j i op h1 h2=>hc (j+1) i op (by simpa using h1) (by simpa using h2)
   simp only [wpOps,ho]
   unfold RW at h
   cases hg:fO (lk s.env) op.guard with
   | none=>simp [hg] at h
   | some b=>
     obtain ⟨aa,RF⟩:=R.rep
     have hw:=yO RF ko hg
     cases b with
     | false=>
       rw [hg] at h
       rw [if_neg (by rw [hw];simp)]
       refine ih _ _ _ hl' lC h ⟨⟨aa,?_⟩,R.uu,R.h0⟩
       rw [rO]
       exact RF.EB rP EM
     | true=>
       rw [hg] at h
       rw [if_pos hw]
       left
       obtain ⟨pre,us,sv,h1,h2,h3,h4⟩:=Oe oT h
       obtain ⟨g1,g2⟩:=tL h3
       refine h1 C (ag s.h) w aa a _ _ _ _ oT h2 (Ei R (Nat.le_refl _) h3) RF.mem (ve RF oa) (fun v w' aE hS hR=>?_)
       refine ih _ _ _ hl' lC h4 ⟨⟨aE,?_⟩,Nat.le_trans R.uu g2,R.h0⟩
       rw [rO]
       have fX:=RF.step hS
       rw [← g1] at fX hR
       exact fX.EB rP hR
end Go.aI

namespace Go.aI
open Go
structure TE where
 bV:List Nat
 dst:Option Nat
 pre:List Nat
 us:List Nat
def lQ:List XO→List Nat
 | []=>[]
 | .t n::r=>n::lQ r
 | .c _::r=>lQ r
def mJ (op:aU):List Nat:=match op.guard with
 | some (d,_)=>d::lQ op.xs
 | none=>lQ op.xs
def nU (a b:List Nat):Bool:=a.all fun x=>!b.contains x
def kM (x y:TE):Bool:=
 (match x.dst with
  | some d=>!y.bV.contains d && !(y.dst == some d)
  | none=>true) &&
 (match y.dst with
  | some d=>!x.bV.contains d
  | none=>true) && nU x.us y.pre && nU x.us y.us && nU y.us x.pre
def Bw (aL:List (List Nat)) (i:Nat) (x:TE):Nat→List TE→Bool
 | _,[]=>true
 | j,y::r=>((aL.getD j []).contains i || kM x y) && Bw aL i x (j+1) r
def Hv (aL:List (List Nat)):Nat→List TE→Bool
 | _,[]=>true
 | i,x::r=>Bw aL i x (i+1) r && Hv aL (i+1) r
def eY (o:Oper):List Nat:=(o.after.toList.filter (fun e=>Region.binds .any e)).map (·.on)
inductive EN where
 | skip
 | run (args:List U) (pre us:List (Nat×HB)) (sv:U)
def zZ (op:aU) (s:St):EN→St
 | .skip=>⟨cD op.dst (.aM []) s.env,s.h⟩
 | .run _ _ us sv=>⟨cD op.dst sv s.env,jX s.h us⟩
def eg (op:aU):EN→TE
 | .skip=>⟨mJ op,op.dst,[],[]⟩
 | .run _ pre us _=>⟨mJ op,op.dst,pre.map (·.1),us.map (·.1)⟩
def Tr (P:Program) (ops:Array Oper):Nat→List aU→St→List EN→St→Prop
 | _,[],s,[],s'=>s=s'
 | i,op::l,s,e::es,s'=>(match e with
    | .skip=>fO (lk s.env) op.guard=some false
    | .run args pre us sv=>fO (lk s.env) op.guard=some true∧args=op.xs.map (eo (lk s.env))∧(∀ o,ops[i]?=some o→mU P o args pre us sv)∧aW (ag s.h) pre∧bk pre s.h us)∧Tr P ops (i+1) l (zZ op s e) es s'
 | _,_,_,_,_=>False
def cg:List aU→List EN→St→Nat→St
 | op::l,e::es,s,i+1=>cg l es (zZ op s e) i
 | _,_,s,_=>s
theorem Tr.length {P:Program} {ops:Array Oper}:∀ {l:List aU} {i:Nat} {s s':St} {es:List EN},Tr P ops i l s es s'→es.length=l.length
 | [],i,s,s',[],_=>rfl
 | [],i,s,s',_::_,h=>h.elim
 | _::_,i,s,s',[],h=>h.elim
 | op::l,i,s,s',e::es,h=>by simp [Tr.length h.2]
theorem Tr.last {P:Program} {ops:Array Oper}:∀ {l:List aU} {i:Nat} {s s':St} {es:List EN},Tr P ops i l s es s'→cg l es s l.length=s'
 | [],i,s,s',[],h=>h
 | [],i,s,s',_::_,h=>h.elim
 | _::_,i,s,s',[],h=>h.elim
 | op::l,i,s,s',e::es,h=>by simpa [cg] using Tr.last h.2
theorem Tr.at_ {P:Program} {ops:Array Oper}:∀ {l:List aU} {i:Nat} {s s':St} {es:List EN},Tr P ops i l s es s'→∀ (j:Nat) (op:aU),l[j]?=some op→∃ e,es[j]?=some e∧cg l es s (j+1)=zZ op (cg l es s j) e∧(match e with
 | .skip=>fO (lk (cg l es s j).env) op.guard=some false
 | .run args pre us sv=>fO (lk (cg l es s j).env) op.guard=some true∧args=op.xs.map (eo (lk (cg l es s j).env))∧(∀ o,ops[i+j]?=some o→mU P o args pre us sv)∧aW (ag (cg l es s j).h) pre∧bk pre (cg l es s j).h us)
 | [],i,s,s',es,h,j,op,hj=>by simp at hj
 | _::_,i,s,s',[],h,_,_,_=>h.elim
 | RG::l,i,s,s',e::es,h,j,op,hj=>by
   cases j with
   | zero=>
     simp at hj;subst hj
     refine ⟨e,rfl,?_,?_⟩
     ·cases l <;> cases es <;> rfl
     ·have:=h.1
      cases e <;> exact this
   | succ j=>
     have:=Tr.at_ h.2 j op (by simpa using hj)
     obtain ⟨e',h1,h2,h3⟩:=this
     refine ⟨e',by simpa using h1,h2,?_⟩
     rw [show i+(j+1)=i+1+j by omega]
     exact h3
theorem FD {l:List aU} {es:List EN} {s:St} (P:Program) (ops:Array Oper) {i:Nat} {s':St} (h:Tr P ops i l s es s'):∀ j,j≤l.length→s.h.length≤(cg l es s j).h.length:=fun j=>by
 induction j with
 | zero=>intro _;cases l <;> cases es <;> exact Nat.le_refl _
 | succ j ih=>
   intro hj
   obtain ⟨e,h1,h2,h3⟩:=h.at_ j _ (List.getElem?_eq_getElem (by omega))
   rw [h2]
   refine Nat.le_trans (ih (by omega)) ?_
   cases e with
   | skip=>exact Nat.le_refl _
   | run args pre us sv=>exact (tL h3.2.2.2.2).2
def cnt (L:Nat→Bool):Nat→Nat
 | 0=>0
 | n+1=>cnt L n+(if L n then 0 else 1)
theorem Bs {L L':Nat→Bool}:∀ {n:Nat},(∀ i,i<n→L' i=L i)→cnt L' n=cnt L n
 | 0,_=>rfl
 | n+1,h=>by rw [cnt,cnt,Bs (fun i hi=>h i (by omega)),h n (by omega)]
theorem Bt {L L':Nat→Bool} {j:Nat} (hj:L j=false) (hj':L' j=true) (ho:∀ i,i≠j→L' i=L i):∀ {n:Nat},j<n→cnt L n=cnt L' n+1
 | n+1,h=>by
   rw [cnt,cnt]
   by_cases hn:j=n
   ·subst hn
    rw [Bs (L:=L) (L':=L') (fun i hi=>ho i (by omega)),hj,hj'];simp
   ·rw [Bt hj hj' ho (n:=n) (by omega),ho n (fun e=>hn e.symm)];omega
theorem Bu {L:Nat→Bool}:∀ {n:Nat},cnt L n=0→∀ i,i<n→L i=true
 | n+1,h,i,hi=>by
   rw [cnt] at h
   by_cases hn:i=n
   ·subst hn;cases hL:L i with
    | true=>rfl
    | false=>simp [hL] at h
   ·exact Bu (n:=n) (by omega) i (by omega)
theorem Br (L:Nat→Bool):∀ n,cnt L n≤n
 | 0=>Nat.le_refl _
 | n+1=>by rw [cnt];have:=Br L n;split <;> omega
theorem uT {hp ah:Hp}:∀ {us:List (Nat×HB)} {id:Nat},id∈us.map (·.1)→bz hp us id=bz ah us id
 | [],id,h=>by simp at h
 | (i,hb)::r,id,h=>by
   by_cases hr:id∈r.map (·.1)
   ·rw [bz,bz];exact uT hr
   ·have hi:id=i:=by
     rcases List.mem_cons.1 h with h | h
     ·exact h
     ·exact absurd h hr
    subst hi
    have hne:∀ q∈r,q.1≠id:=fun q hq he=>hr (List.mem_map.2 ⟨q,hq,he⟩)
    rw [bz,bz,rj hne,rj hne,bR,bR]
theorem sC {α:Type} (f:Nat→α) (wr:Nat→Prop) (hs:∀ i,¬ wr i→f (i+1)=f i) {k j:Nat} (wB:k≤j) (h:∀ i,k≤i→i<j→¬ wr i):f j=f k:=by
 induction j with
 | zero=>have:k=0:=by omega
         rw [this]
 | succ j ih=>
   by_cases he:k=j+1
   ·rw [he]
   ·rw [hs j (h j (by omega) (by omega)),ih (by omega) (fun i h1 h2=>h i h1 (by omega))]
theorem vL {a b:List Nat} (h:nU a b=true) {x:Nat} (ha:x∈a) (hb:x∈b):False:=by
 unfold nU at h
 rw [List.all_eq_true] at h
 have:=h x ha
 simp at this
 exact this hb
structure eP (P:Program) (ops:Array Oper) (N:Nat) (l:List aU) (es:List EN) (s0 s1:St) (aL:List (List Nat)):Prop where
 tr:Tr P ops 0 l s0 es s1
 size:ops.size=l.length
 comp:∀ (i:Nat) (op:aU),l[i]?=some op→∃ o,ops[i]?=some o∧lz P ops N o=some op
 back:∀ (i:Nat) (o:Oper),ops[i]?=some o→∀ k∈eY o,k<i
 GH:∀ (i:Nat) (o:Oper),ops[i]?=some o→∀ k∈aL.getD i [],∃ (L:List Nat),(∀ x∈L,x∈eY o)∧(k∈L∨∃ x∈L,k∈aL.getD x [])
 ok:∀ (a b:Nat) (Ae Af:aU) (ea eb:EN),a<b→l[a]?=some Ae→l[b]?=some Af→es[a]?=some ea→es[b]?=some eb→a∈aL.getD b []∨kM (eg Ae ea) (eg Af eb)=true
section
variable {P:Program} {ops:Array Oper} {N:Nat} {l:List aU} {es:List EN} {s0 s1:St} {aL:List (List Nat)}
def oE (ops:Array Oper) (L:Nat→Bool):Prop:=∀ (i:Nat) (o:Oper),ops[i]?=some o→L i=true→∀ k∈eY o,L k=true
theorem eP.vf (H:eP P ops N l es s0 s1 aL) {L:Nat→Bool} (hc:oE ops L):∀ (i:Nat) (o:Oper),ops[i]?=some o→(∀ k∈eY o,L k=true)→∀ k∈aL.getD i [],L k=true:=by
 intro i
 induction i using Nat.strongRecOn with
 | _ i ih=>
   intro o ho hn k hk
   obtain ⟨ls,h1,h2⟩:=H.GH i o ho k hk
   rcases h2 with h2 | ⟨x,hx,h2⟩
   ·exact hn k (h1 k h2)
   ·have fm:=H.back i o ho x (h1 x hx)
    have hxs:x<ops.size:=by have:=(Array.getElem?_eq_some_iff.1 ho).1;omega
    have CG:=Array.getElem?_eq_getElem hxs
    exact ih x fm _ CG (hc x _ CG (hn x (h1 x hx))) k h2
structure Inv (l:List aU) (es:List EN) (s0:St) (L:Nat→Bool) (en:Nat→U) (hp:Hp):Prop where
 env:∀ m,∃ k,k≤l.length∧en m=lk (cg l es s0 k).env m∧(∀ (i:Nat) (op:aU),i<k→l[i]?=some op→op.dst=some m→L i=true)∧(∀ (i:Nat) (op:aU),k≤i→l[i]?=some op→op.dst=some m→L i=false)
 heap:∀ id,∃ k,k≤l.length∧hp id=ag (cg l es s0 k).h id∧(∀ (i:Nat) (op:aU) (e:EN),i<k→l[i]?=some op→es[i]?=some e→id∈(eg op e).us→L i=true)∧(∀ (i:Nat) (op:aU) (e:EN),k≤i→l[i]?=some op→es[i]?=some e→id∈(eg op e).us→L i=false)
theorem eP.yI (H:eP P ops N l es s0 s1 aL) (m i:Nat) (h:∀ op,l[i]?=some op→op.dst≠some m):lk (cg l es s0 (i+1)).env m=lk (cg l es s0 i).env m:=by
 cases hi:l[i]? with
 | none=>
   have hlen:∀ (l:List aU) (es:List EN) (s:St) (i:Nat),l.length≤i→cg l es s (i+1)=cg l es s i:=by
    intro l
    induction l with
    | nil=>intro es s i _;cases i <;> rfl
    | cons op l ih=>
      intro es s i hi
      cases es with
      | nil=>cases i <;> rfl
      | cons e es=>
        cases i with
        | zero=>simp at hi
        | succ i=>simp only [cg];exact ih es _ i (by simpa using hi)
   rw [hlen l es s0 i (List.getElem?_eq_none_iff.1 hi)]
 | some op=>
   obtain ⟨e,_,h2,_⟩:=H.tr.at_ i op hi
   rw [h2]
   have hd:=h op hi
   have hput:∀ v,lk (cD op.dst v (cg l es s0 i).env) m=lk (cg l es s0 i).env m:=fun v=>by
    cases gd:op.dst with
    | none=>rfl
    | some d=>
      rw [gd] at hd
      rw [cD,uy,cE _ _ (fun e=>hd (by rw [e]))]
   cases e <;> exact hput _
theorem eP.zd (H:eP P ops N l es s0 s1 aL) (id i:Nat) (h:∀ op e,l[i]?=some op→es[i]?=some e→id∉(eg op e).us):ag (cg l es s0 (i+1)).h id=ag (cg l es s0 i).h id:=by
 cases hi:l[i]? with
 | none=>
   have hlen:∀ (l:List aU) (es:List EN) (s:St) (i:Nat),l.length≤i→cg l es s (i+1)=cg l es s i:=by
    intro l
    induction l with
    | nil=>intro es s i _;cases i <;> rfl
    | cons op l ih=>
      intro es s i hi
      cases es with
      | nil=>cases i <;> rfl
      | cons e es=>
        cases i with
        | zero=>simp at hi
        | succ i=>simp only [cg];exact ih es _ i (by simpa using hi)
   rw [hlen l es s0 i (List.getElem?_eq_none_iff.1 hi)]
 | some op=>
   obtain ⟨e,he,h2,h3⟩:=H.tr.at_ i op hi
   rw [h2]
   have hd:=h op e hi he
   cases e with
   | skip=>rfl
   | run args pre us sv=>
     obtain ⟨_,_,_,_,hk⟩:=h3
     show ag (jX (cg l es s0 i).h us) id=_
     rw [(tL hk).1]
     exact rj (fun q hq he=>hd (List.mem_map.2 ⟨q,hq,he⟩))
theorem eP.FT (H:eP P ops N l es s0 s1 aL) {L:Nat→Bool} (hc:oE ops L) {j:Nat} {op:aU} {o:Oper} (hj:l[j]?=some op) (ho:ops[j]?=some o) (hL:L j=false) (hn:∀ k∈eY o,L k=true)
 {m:Nat} (hm:m∈mJ op∨op.dst=some m) (i:Nat) (bJ:aU) (hi:l[i]?=some bJ) (hd:bJ.dst=some m):(i<j→L i=true)∧(j<i→L i=false):=by
 obtain ⟨e,he,_⟩:=H.tr.at_ j op hj
 have hlen:=H.tr.length
 have cV:i<es.length:=by rw [hlen];exact (List.getElem?_eq_some_iff.1 hi).1
 have dX:=List.getElem?_eq_getElem cV
 have hdt:∀ e,(eg bJ e).dst=some m:=fun e=>by cases e <;> exact hd
 have CL:∀ e,(eg op e).bV=mJ op:=fun e=>by cases e <;> rfl
 have Cq:∀ e,(eg op e).dst=op.dst:=fun e=>by cases e <;> rfl
 refine ⟨fun hij=>?_,fun hji=>?_⟩
 ·rcases H.ok i j bJ op _ e hij hi hj dX he with h | h
  ·exact H.vf hc j o ho hn i h
  ·exfalso
   simp only [kM,Bool.and_eq_true] at h
   have ha:=h.1.1.1.1
   rw [hdt] at ha
   rw [CL,Cq] at ha
   rcases hm with hm | hm
   ·simp [hm] at ha
   ·simp [hm] at ha
 ·cases yP:L i with
  | false=>rfl
  | true=>
    exfalso
    rcases H.ok j i op bJ e _ hji hj hi he dX with h | h
    ·have fP:=Array.getElem?_eq_getElem (xs:=ops) (i:=i) (by rw [H.size,← hlen];exact cV)
     have:=H.vf hc i _ fP (hc i _ fP yP) j h
     rw [hL] at this;cases this
    ·simp only [kM,Bool.and_eq_true] at h
     have hb:=h.1.1.1.2
     have ha:=h.1.1.1.1
     rw [hdt] at hb
     rw [CL] at hb
     rw [Cq,hdt] at ha
     rcases hm with hm | hm
     ·simp [hm] at hb
     ·simp [hm] at ha
theorem eP.OK (H:eP P ops N l es s0 s1 aL) {L:Nat→Bool} (hc:oE ops L) {en:Nat→U} {hp:Hp} (I:Inv l es s0 L en hp) {j:Nat} {op:aU} {o:Oper} (hj:l[j]?=some op) (ho:ops[j]?=some o) (hL:L j=false) (hn:∀ k∈eY o,L k=true)
 {m:Nat} (hm:m∈mJ op∨op.dst=some m):en m=lk (cg l es s0 j).env m:=by
 obtain ⟨k,hk,h1,h2,h3⟩:=I.env m
 rw [h1]
 have hw:=H.FT hc hj ho hL hn hm
 by_cases wB:k≤j
 ·refine (sC (fun i=>lk (cg l es s0 i).env m) (fun i=>∃ bJ,l[i]?=some bJ∧bJ.dst=some m) (fun i hi=>H.yI m i (fun op ho hd=>hi ⟨op,ho,hd⟩)) wB (fun i hi1 hi2 ⟨bJ,ho,hd⟩=>?_)).symm
  have:=h3 i bJ hi1 ho hd
  rw [(hw i bJ ho hd).1 hi2] at this;cases this
 ·refine sC (fun i=>lk (cg l es s0 i).env m) (fun i=>∃ bJ,l[i]?=some bJ∧bJ.dst=some m) (fun i hi=>H.yI m i (fun op ho hd=>hi ⟨op,ho,hd⟩)) (by omega) (fun i hi1 hi2 ⟨bJ,ho,hd⟩=>?_)
  have:=h2 i bJ hi2 ho hd
  by_cases hij:i=j
  ·subst hij;rw [hL] at this;cases this
  ·rw [(hw i bJ ho hd).2 (by omega)] at this;cases this
theorem eP.FV (H:eP P ops N l es s0 s1 aL) {L:Nat→Bool} (hc:oE ops L) {j:Nat} {op:aU} {e:EN} {o:Oper} (hj:l[j]?=some op) (he:es[j]?=some e) (ho:ops[j]?=some o) (hL:L j=false) (hn:∀ k∈eY o,L k=true)
 {id:Nat} (hm:id∈(eg op e).pre∨id∈(eg op e).us) (i:Nat) (bJ:aU) (ei:EN) (hi:l[i]?=some bJ) (dX:es[i]?=some ei) (hd:id∈(eg bJ ei).us):(i<j→L i=true)∧(j<i→L i=false):=by
 have hlen:=H.tr.length
 refine ⟨fun hij=>?_,fun hji=>?_⟩
 ·rcases H.ok i j bJ op _ e hij hi hj dX he with h | h
  ·exact H.vf hc j o ho hn i h
  ·exfalso
   simp only [kM,Bool.and_eq_true] at h
   rcases hm with hm | hm
   ·exact vL h.1.1.2 hd hm
   ·exact vL h.1.2 hd hm
 ·cases yP:L i with
  | false=>rfl
  | true=>
    exfalso
    rcases H.ok j i op bJ e _ hji hj hi he dX with h | h
    ·have cV:i<es.length:=(List.getElem?_eq_some_iff.1 dX).1
     have fP:=Array.getElem?_eq_getElem (xs:=ops) (i:=i) (by rw [H.size,← hlen];exact cV)
     have:=H.vf hc i _ fP (hc i _ fP yP) j h
     rw [hL] at this;cases this
    ·simp only [kM,Bool.and_eq_true] at h
     rcases hm with hm | hm
     ·exact vL h.2 hd hm
     ·exact vL h.1.2 hm hd
theorem eP.ED (H:eP P ops N l es s0 s1 aL) {L:Nat→Bool} (hc:oE ops L) {en:Nat→U} {hp:Hp} (I:Inv l es s0 L en hp) {j:Nat} {op:aU} {e:EN} {o:Oper} (hj:l[j]?=some op) (he:es[j]?=some e) (ho:ops[j]?=some o) (hL:L j=false) (hn:∀ k∈eY o,L k=true)
 {id:Nat} (hm:id∈(eg op e).pre∨id∈(eg op e).us):hp id=ag (cg l es s0 j).h id:=by
 obtain ⟨k,hk,h1,h2,h3⟩:=I.heap id
 rw [h1]
 have hw:=H.FV hc hj he ho hL hn hm
 by_cases wB:k≤j
 ·refine (sC (fun i=>ag (cg l es s0 i).h id) (fun i=>∃ bJ ei,l[i]?=some bJ∧es[i]?=some ei∧id∈(eg bJ ei).us) (fun i hi=>H.zd id i (fun op e ho he hd=>hi ⟨op,e,ho,he,hd⟩)) wB (fun i hi1 hi2 ⟨bJ,ei,ho,dX,hd⟩=>?_)).symm
  have:=h3 i bJ ei hi1 ho dX hd
  rw [(hw i bJ ei ho dX hd).1 hi2] at this;cases this
 ·refine sC (fun i=>ag (cg l es s0 i).h id) (fun i=>∃ bJ ei,l[i]?=some bJ∧es[i]?=some ei∧id∈(eg bJ ei).us) (fun i hi=>H.zd id i (fun op e ho he hd=>hi ⟨op,e,ho,he,hd⟩)) (by omega) (fun i hi1 hi2 ⟨bJ,ei,ho,dX,hd⟩=>?_)
  have:=h2 i bJ ei hi2 ho dX hd
  by_cases hij:i=j
  ·subst hij;rw [hL] at this;cases this
  ·rw [(hw i bJ ei ho dX hd).2 (by omega)] at this;cases this
def gD (L:Nat→Bool) (j:Nat):Nat→Bool:=fun i=>if i=j then true else L i
theorem eP.CV (H:eP P ops N l es s0 s1 aL) {L:Nat→Bool} (hc:oE ops L) {en:Nat→U} {hp:Hp} (I:Inv l es s0 L en hp) {j:Nat} {op:aU} {e:EN} {o:Oper} (hj:l[j]?=some op) (he:es[j]?=some e) (ho:ops[j]?=some o) (hL:L j=false) (hn:∀ k∈eY o,L k=true)
 {nV:Nat→U} {ah:Hp} (h1:∀ m,op.dst=some m→nV m=lk (cg l es s0 (j+1)).env m) (h2:∀ m,op.dst≠some m→nV m=en m) (h3:∀ id,id∈(eg op e).us→ah id=ag (cg l es s0 (j+1)).h id) (h4:∀ id,id∉(eg op e).us→ah id=hp id) :
 Inv l es s0 (gD L j) nV ah:=by
 have hjl:=(List.getElem?_eq_some_iff.1 hj).1
 have xP:∀ i,L i=true→gD L j i=true:=fun i h=>by unfold gD;split <;> simp [h]
 refine ⟨fun m=>?_,fun id=>?_⟩
 ·by_cases hm:op.dst=some m
  ·have hw:=H.FT hc hj ho hL hn (.inr hm)
   refine ⟨j+1,by omega,h1 m hm,fun i bJ hi ho hd=>?_,fun i bJ hi ho hd=>?_⟩
   ·by_cases hij:i=j
    ·subst hij;simp [gD]
    ·exact xP i ((hw i bJ ho hd).1 (by omega))
   ·unfold gD
    rw [if_neg (by omega)]
    exact (hw i bJ ho hd).2 (by omega)
  ·obtain ⟨k,g1,g2,g3,g4⟩:=I.env m
   refine ⟨k,g1,(h2 m hm).trans g2,fun i bJ hi ho hd=>xP i (g3 i bJ hi ho hd),fun i bJ hi fP hd=>?_⟩
   unfold gD
   by_cases hij:i=j
   ·subst hij;rw [hj] at fP;cases fP;exact absurd hd hm
   ·rw [if_neg hij];exact g4 i bJ hi fP hd
 ·by_cases hm:id∈(eg op e).us
  ·have hw:=H.FV hc hj he ho hL hn (.inr hm)
   refine ⟨j+1,by omega,h3 id hm,fun i bJ ei hi ho dX hd=>?_,fun i bJ ei hi ho dX hd=>?_⟩
   ·by_cases hij:i=j
    ·subst hij;simp [gD]
    ·exact xP i ((hw i bJ ei ho dX hd).1 (by omega))
   ·unfold gD
    rw [if_neg (by omega)]
    exact (hw i bJ ei ho dX hd).2 (by omega)
  ·obtain ⟨k,g1,g2,g3,g4⟩:=I.heap id
   refine ⟨k,g1,(h4 id hm).trans g2,fun i bJ ei hi ho dX hd=>xP i (g3 i bJ ei hi ho dX hd),fun i bJ ei hi fP dX hd=>?_⟩
   unfold gD
   by_cases hij:i=j
   ·subst hij;rw [hj] at fP;cases fP;rw [he] at dX;cases dX;exact absurd hd hm
   ·rw [if_neg hij];exact g4 i bJ ei hi fP dX hd
theorem eP.KF (H:eP P ops N l es s0 s1 aL) {L:Nat→Bool} {en:Nat→U} {hp:Hp} (I:Inv l es s0 L en hp) (hall:∀ i,i<l.length→L i=true):en=lk s1.env∧hp=ag s1.h:=by
 have CB:=H.tr.last
 refine ⟨funext fun m=>?_,funext fun id=>?_⟩
 ·obtain ⟨k,g1,g2,g3,g4⟩:=I.env m
  rw [g2,← CB]
  refine (sC (fun i=>lk (cg l es s0 i).env m) (fun i=>∃ bJ,l[i]?=some bJ∧bJ.dst=some m) (fun i hi=>H.yI m i (fun op ho hd=>hi ⟨op,ho,hd⟩)) g1 (fun i hi1 hi2 ⟨bJ,ho,hd⟩=>?_)).symm
  have:=g4 i bJ hi1 ho hd
  rw [hall i hi2] at this;cases this
 ·obtain ⟨k,g1,g2,g3,g4⟩:=I.heap id
  rw [g2,← CB]
  refine (sC (fun i=>ag (cg l es s0 i).h id) (fun i=>∃ bJ ei,l[i]?=some bJ∧es[i]?=some ei∧id∈(eg bJ ei).us) (fun i hi=>H.zd id i (fun op e ho he hd=>hi ⟨op,e,ho,he,hd⟩)) g1 (fun i hi1 hi2 ⟨bJ,ei,ho,dX,hd⟩=>?_)).symm
  have:=g4 i bJ ei hi1 ho dX hd
  rw [hall i hi2] at this;cases this
def Lf (listed:Array Bool) (i:Nat):Bool:=listed.getD i false
theorem Ap {listed:Array Bool} (hs:listed.size=ops.size) {i:Nat}:i∈Region.ready .any ops listed↔i<ops.size∧Lf listed i=false∧∀ o,ops[i]?=some o→∀ k∈eY o,Lf listed k=true:=by
 unfold Region.ready
 rw [List.mem_filter,List.mem_range]
 constructor
 ·rintro ⟨h1,h2⟩
  simp only [Bool.and_eq_true,Bool.not_eq_true'] at h2
  refine ⟨h1,?_,fun o ho k hk=>?_⟩
  ·have:=h2.1
   simp only [Lf,Array.getD_eq_getD_getElem?] at this ⊢
   cases hx:listed[i]? with
   | none=>simp [hx] at this
   | some x=>simp [hx] at this ⊢;exact this
  ·have h3:=h2.2
   rw [ho] at h3
   simp only [Option.map_some,Option.getD_some,Array.all_eq_true'] at h3
   unfold eY at hk
   obtain ⟨e,he,rfl⟩:=List.mem_map.1 hk
   obtain ⟨qz,Jz⟩:=List.mem_filter.1 he
   have:=h3 e (by simpa using qz)
   simp [Jz] at this
   simpa [Lf] using this
 ·rintro ⟨h1,h2,h3⟩
  refine ⟨h1,?_⟩
  have ho:=Array.getElem?_eq_getElem h1
  simp only [Bool.and_eq_true,Bool.not_eq_true']
  refine ⟨?_,?_⟩
  ·simp only [Lf,Array.getD_eq_getD_getElem?] at h2 ⊢
   have hx:=Array.getElem?_eq_getElem (xs:=listed) (i:=i) (by omega)
   rw [hx] at h2 ⊢
   exact h2
  ·rw [ho]
   simp only [Option.map_some,Option.getD_some,Array.all_eq_true']
   intro e he
   cases hb:Region.binds .any e with
   | false=>simp
   | true=>
     have:=h3 _ ho e.on (List.mem_map.2 ⟨e,List.mem_filter.2 ⟨by simpa using he,hb⟩,rfl⟩)
     simpa [Lf] using this
theorem NK {xs:List XO} {n:Nat} (h:XO.t n∈xs):n∈lQ xs:=by
 induction xs with
 | nil=>simp at h
 | cons x r ih=>
   rcases List.mem_cons.1 h with rfl | h'
   ·simp [lQ]
   ·cases x with
    | t m=>simp [lQ,ih h']
    | c s=>exact ih h'
theorem HH {en nV:Nat→U} {xs:List XO} (h:∀ n,n∈lQ xs→en n=nV n):xs.map (eo en)=xs.map (eo nV):=by
 refine List.map_congr_left (fun x hx=>?_)
 cases x with
 | t n=>exact h n (NK hx)
 | c s=>rfl
theorem Ii {en nV:Nat→U} {op:aU} (h:∀ n,n∈mJ op→en n=nV n):fO en op.guard=fO nV op.guard:=by
 cases hg:op.guard with
 | none=>rfl
 | some q=>
   obtain ⟨d,b⟩:=q
   simp only [fO]
   rw [h d (by simp [mJ,hg])]
theorem Ph (H:eP P ops N l es s0 s1 aL) {C:Ctx} (hN:C.N=N) {n0:Nat} (hn0:n0≤s0.h.length) (JH:∀ id,n0≤id→C.h0 id=none) {Q:Exit→Act→World→Prop} (hQ:∀ a w aa,fe C (lk s1.env) (ag s1.h) a w aa→Q .normal a w) :
 ∀ (fuel:Nat) (listed:Array Bool) (en:Nat→U) (hp:Hp) (a:Act) (w:World) (aa:Nat→Option Nat),listed.size=ops.size→cnt (Lf listed) l.length≤fuel→oE ops (Lf listed)→Inv l es s0 (Lf listed) en hp→fe C en hp a w aa→
  wpAny P .any ops Q fuel listed a w:=by
 have Jq:∀ listed:Array Bool,listed.size=ops.size→Region.ready .any ops listed=[]→∀ i,i<l.length→Lf listed i=true:=fun listed hs hr i=>by
  induction i using Nat.strongRecOn with
  | _ i ih=>
    intro hi
    cases hL:Lf listed i with
    | true=>rfl
    | false=>
      have:i∈Region.ready .any ops listed:=(Ap hs).2 ⟨by rw [H.size];exact hi,hL,fun o ho k hk=>ih k (H.back i o ho k hk) (by have:=H.back i o ho k hk;omega)⟩
      rw [hr] at this;cases this
 have Ct:∀ (listed:Array Bool) (en:Nat→U) (hp:Hp) (a:Act) (w:World) (aa:Nat→Option Nat),(∀ i,i<l.length→Lf listed i=true)→Inv l es s0 (Lf listed) en hp→fe C en hp a w aa→Q .normal a w:=fun listed en hp a w aa hall I R=>by
  obtain ⟨rfl,rfl⟩:=H.KF I hall
  exact hQ a w aa R
 intro fuel
 induction fuel with
 | zero=>
   intro listed en hp a w aa hs Cm hc I R
   have hall:=Bu (Nat.le_zero.1 Cm)
   refine ⟨?_,Ct listed en hp a w aa hall I R⟩
   cases hr:Region.ready .any ops listed with
   | nil=>rfl
   | cons i r=>
     have hm:i∈Region.ready .any ops listed:=by rw [hr];simp
     obtain ⟨h1,h2,_⟩:=(Ap hs).1 hm
     rw [hall i (by rw [← H.size];exact h1)] at h2;cases h2
 | succ fuel ih=>
   intro listed en hp a w aa hs Cm hc I R
   refine ⟨fun hr=>Ct listed en hp a w aa (Jq listed hs hr) I R,fun j hj=>?_⟩
   obtain ⟨Cw,hL,hn⟩:=(Ap hs).1 hj
   have hjl:j<l.length:=by rw [← H.size];exact Cw
   have hop:=List.getElem?_eq_getElem hjl
   obtain ⟨o,ho,ko⟩:=H.comp j _ hop
   obtain ⟨e,he,hst,CM⟩:=H.tr.at_ j _ hop
   obtain ⟨cX,oT,oa,rO,rP⟩:=yu ko
   have hn':=hn o ho
   have hrd:∀ m,m∈mJ l[j]→en m=lk (cg l es s0 j).env m:=fun m hm=>H.OK hc I hop ho hL hn' (.inl hm)
   have Cv:=Ii hrd
   have vY:Lf (listed.setIfInBounds j true)=gD (Lf listed) j:=by
    funext i
    simp only [Lf,gD,Array.getD_eq_getD_getElem?,Array.getElem?_setIfInBounds]
    by_cases hij:j=i
    ·subst hij;simp [hs,Cw]
    ·rw [if_neg hij,if_neg (Ne.symm hij)]
   have Cn:cnt (Lf (listed.setIfInBounds j true)) l.length≤fuel:=by
    rw [vY]
    have:=Bt (L:=Lf listed) (L':=gD (Lf listed) j) hL (by simp [gD]) (fun i hi=>by simp [gD,hi]) hjl
    omega
   have lC:oE ops (Lf (listed.setIfInBounds j true)):=by
    rw [vY]
    intro i oi fP hi k hk
    unfold gD at hi ⊢
    by_cases hij:i=j
    ·subst hij
     rw [ho] at fP;cases fP
     split
     ·rfl
     ·exact hn' k hk
    ·rw [if_neg hij] at hi
     split
     ·rfl
     ·exact hc i oi fP hi k hk
   unfold wpOp
   rw [ho]
   simp only
   cases e with
   | skip=>
     have hg:fO en l[j].guard=some false:=by rw [Cv];exact CM
     have hw:=yO R ko hg
     rw [if_neg (by rw [hw];simp)]
     have zc:∀ m,l[j].dst=some m→m<C.N:=fun m hm=>by rw [hN];exact rP m hm
     have R':fe C (match l[j].dst with | some d=>up en d (.aM []) | none=>en) hp (a.put o.dst undef) w aa:=by
      rw [rO]
      cases hd:l[j].dst with
      | none=>exact R
      | some d=>exact R.put (zc d hd) EM
     refine ih _ _ _ _ _ _ (by simpa using hs) Cn lC ?_ R'
     rw [vY]
     refine H.CV hc I hop he ho hL hn' (fun m hm=>?_) (fun m hm=>?_) (fun id hid=>by simp [eg] at hid) (fun id _=>rfl)
     ·rw [hst]
      show _=lk (cD l[j].dst (.aM []) (cg l es s0 j).env) m
      rw [hm];simp only [cD,uy,bR]
     ·cases hd:l[j].dst with
      | none=>rfl
      | some d=>rw [hd] at hm;exact cE _ _ (fun e=>hm (by rw [e]))
   | run args pre us sv=>
     obtain ⟨t1,t2,t3,t4,t5⟩:=CM
     have hg:fO en l[j].guard=some true:=by rw [Cv];exact t1
     have hw:=yO R ko hg
     rw [if_pos hw]
     left
     have Kf:∀ m,m∈lQ l[j].xs→en m=lk (cg l es s0 j).env m:=fun m hm=>hrd m (by
      unfold mJ
      cases l[j].guard with
      | none=>exact hm
      | some q=>exact List.mem_cons_of_mem _ hm)
     have hargs:args=l[j].xs.map (eo en):=by rw [t2];exact (HH Kf).symm
     have hpre:∀ id,id∈pre.map (·.1)→hp id=ag (cg l es s0 j).h id:=fun id hid=>H.ED hc I hop he ho hL hn' (.inl hid)
     have fl:∀ id,id∈us.map (·.1)→hp id=ag (cg l es s0 j).h id:=fun id hid=>H.ED hc I hop he ho hL hn' (.inr hid)
     have Rz:=FD P ops H.tr j (by omega)
     have hnew:qh C hp pre us:=by
      have gen:∀ {us:List (Nat×HB)} {h:List (Option HB)},(cg l es s0 j).h.length≤h.length→bk pre h us→∀ q∈us,(∃ hb,(q.1,hb)∈pre)∨(cg l es s0 j).h.length≤q.1:=by
       intro us
       induction us with
       | nil=>intro h _ _ q hq;simp at hq
       | cons p r KA=>
         intro h hl hk q hq
         rcases List.mem_cons.1 hq with rfl | hq
         ·rcases hk.1 with h1 | ⟨_,h1⟩
          ·exact .inr (by omega)
          ·exact .inl h1
         ·exact KA (h:=aZ h p) (by have:=sI h p;omega) hk.2 q hq
      intro q hq
      rcases gen (Nat.le_refl _) t5 q hq with h | h
      ·exact .inl h
      ·refine .inr ⟨?_,JH _ (by omega)⟩
       rw [fl q.1 (List.mem_map.2 ⟨q,hq,rfl⟩)]
       unfold ag
       rw [List.getElem?_eq_none (by omega)]
     refine t3 o (by simpa using ho) C hp w aa a _ _ _ _ oT (fun q hq=>?_) hnew R.mem (by rw [hargs];exact ve R oa) (fun v w' aE hS hR=>?_)
     ·rw [hpre q.1 (List.mem_map.2 ⟨q,hq,rfl⟩)];exact t4 q hq
     ·have zc:∀ m,l[j].dst=some m→m<C.N:=fun m hm=>by rw [hN];exact rP m hm
      have R':fe C (match l[j].dst with | some d=>up en d sv | none=>en) (bz hp us) (a.put o.dst v) w' aE:=by
       rw [rO]
       have RS:=R.step hS
       cases hd:l[j].dst with
       | none=>exact RS
       | some d=>exact RS.put (zc d hd) hR
      refine ih _ _ _ _ _ _ (by simpa using hs) Cn lC ?_ R'
      rw [vY]
      refine H.CV hc I hop he ho hL hn' (fun m hm=>?_) (fun m hm=>?_) (fun id hid=>?_) (fun id hid=>?_)
      ·rw [hst]
       show _=lk (cD l[j].dst sv (cg l es s0 j).env) m
       rw [hm];simp only [cD,uy,bR]
      ·cases hd:l[j].dst with
       | none=>rfl
       | some d=>rw [hd] at hm;exact cE _ _ (fun e=>hm (by rw [e]))
      ·rw [hst]
       show _=ag (jX (cg l es s0 j).h us) id
       rw [(tL t5).1]
       exact uT hid
      ·exact rj (fun q hq he=>hid (List.mem_map.2 ⟨q,hq,he⟩))
end
end Go.aI

namespace Go.aI
open Go
def lV:List Oper→List Nat→List Nat
 | [],acc=>acc
 | o::r,acc=>lV r (acc++[(eY o).foldl (fun m k=>m ||| 2 ^ k ||| acc.getD k 0) 0])
theorem Ca (acc:List Nat) (k:Nat):∀ (l:List Nat) (m:Nat),(l.foldl (fun m k=>m ||| 2 ^ k ||| acc.getD k 0) m).testBit k=true→m.testBit k=true∨k∈l∨∃ x∈l,(acc.getD x 0).testBit k=true
 | [],m,h=>.inl h
 | x::l,m,h=>by
   rw [List.foldl_cons] at h
   rcases Ca acc k l _ h with h | h | ⟨y,hy,h⟩
   ·rw [Nat.testBit_or,Nat.testBit_or,Nat.testBit_two_pow] at h
    simp only [Bool.or_eq_true,decide_eq_true_eq] at h
    rcases h with (h | h) | h
    ·exact .inl h
    ·exact .inr (.inl (by simp [h]))
    ·exact .inr (.inr ⟨x,by simp,h⟩)
   ·exact .inr (.inl (by simp [h]))
   ·exact .inr (.inr ⟨y,by simp [hy],h⟩)
theorem xX:∀ (ops:List Oper) (acc:List Nat) (x:Nat),x<acc.length→(lV ops acc).getD x 0=acc.getD x 0
 | [],acc,x,_=>rfl
 | o::r,acc,x,h=>by
   unfold lV
   rw [xX r _ x (by simp;omega)]
   simp only [List.getD_eq_getElem?_getD,List.getElem?_append_left h]
theorem Bb:∀ (ops:List Oper) (acc:List Nat) (i:Nat) (o:Oper),ops[i]?=some o→∀ k,((lV ops acc).getD (acc.length+i) 0).testBit k=true→k∈eY o∨∃ x∈eY o,((lV ops acc).getD x 0).testBit k=true
 | [],acc,i,o,h,k,_=>by simp at h
 | p::r,acc,i,o,h,k,hk=>by
   cases i with
   | zero=>
     simp only [List.getElem?_cons_zero,Option.some.injEq] at h
     subst h
     unfold lV at hk ⊢
     rw [xX r _ _ (by simp)] at hk
     simp only [Nat.add_zero,List.getD_eq_getElem?_getD,List.getElem?_concat_length,Option.getD_some] at hk
     rcases Ca acc k (eY p) 0 (by simpa [List.getD_eq_getElem?_getD] using hk) with hk | hk | ⟨x,hx,hk⟩
     ·simp at hk
     ·exact .inl hk
     ·refine .inr ⟨x,hx,?_⟩
      have hl:x<acc.length:=by
       by_cases hl:x<acc.length
       ·exact hl
       ·rw [List.getD_eq_getElem?_getD,List.getElem?_eq_none (by omega)] at hk;simp at hk
      rw [xX r _ x (by simp;omega)]
      simp only [List.getD_eq_getElem?_getD,List.getElem?_append_left hl]
      simpa [List.getD_eq_getElem?_getD] using hk
   | succ i=>
     unfold lV at hk ⊢
     refine Bb r _ i o (by simpa using h) k ?_
     have:(acc++[(eY p).foldl (fun m k=>m ||| 2 ^ k ||| acc.getD k 0) 0]).length+i=acc.length+(i+1):=by simp;omega
     rw [this];exact hk
def oO (aL:List Nat) (i:Nat) (x:TE):Nat→List TE→Bool
 | _,[]=>true
 | j,y::r=>((aL.getD j 0).testBit i || kM x y) && oO aL i x (j+1) r
def ni (aL:List Nat):Nat→List TE→Bool
 | _,[]=>true
 | i,x::r=>oO aL i x (i+1) r && ni aL (i+1) r
theorem Bx {aL:List Nat} {i:Nat} {x:TE}:∀ {l:List TE} {j:Nat},oO aL i x j l=true→∀ (k:Nat) (y:TE),l[k]?=some y→(aL.getD (j+k) 0).testBit i=true∨kM x y=true
 | [],j,_,k,y,h=>by simp at h
 | z::r,j,hc,k,y,h=>by
   simp only [oO,Bool.and_eq_true,Bool.or_eq_true] at hc
   cases k with
   | zero=>simp at h;subst h;exact hc.1
   | succ k=>
     have:=Bx hc.2 k y (by simpa using h)
     rwa [show j+1+k=j+(k+1) by omega] at this
theorem By {aL:List Nat}:∀ {l:List TE} {i:Nat},ni aL i l=true→∀ (a b:Nat) (x y:TE),a<b→l[a]?=some x→l[b]?=some y→(aL.getD (i+b) 0).testBit (i+a)=true∨kM x y=true
 | [],i,_,a,b,x,y,_,h,_=>by simp at h
 | z::r,i,hc,a,b,x,y,hab,hx,hy=>by
   simp only [ni,Bool.and_eq_true] at hc
   cases b with
   | zero=>omega
   | succ b=>
     simp only [List.getElem?_cons_succ] at hy
     cases a with
     | zero=>
       simp at hx;subst hx
       have:=Bx hc.1 b y hy
       rwa [show i+1+b=i+(b+1) by omega] at this
     | succ a=>
       simp only [List.getElem?_cons_succ] at hx
       have:=By hc.2 a b x y (by omega) hx hy
       rwa [show i+1+b=i+(b+1) by omega,show i+1+a=i+(a+1) by omega] at this
def xY (n:Nat) (aL:List Nat):List (List Nat):=aL.map fun m=>(List.range n).filter fun k=>m.testBit k
theorem zW {n:Nat} {aL:List Nat} {i k:Nat}:k∈(xY n aL).getD i []↔k<n∧(aL.getD i 0).testBit k=true:=by
 unfold xY
 rw [List.getD_eq_getElem?_getD,List.getElem?_map,List.getD_eq_getElem?_getD]
 cases h:aL[i]? with
 | none=>simp
 | some m=>simp
def sY:Nat→List Oper→Bool
 | _,[]=>true
 | i,o::r=>(eY o).all (·< i) && sY (i+1) r
theorem AZ:∀ {ops:List Oper} {i:Nat},sY i ops=true→∀ (j:Nat) (o:Oper),ops[j]?=some o→∀ k∈eY o,k<i+j
 | [],i,_,j,o,h,_,_=>by simp at h
 | p::r,i,hb,j,o,h,k,hk=>by
   simp only [sY,Bool.and_eq_true,List.all_eq_true,decide_eq_true_eq] at hb
   cases j with
   | zero=>simp at h;subst h;exact hb.1 k hk
   | succ j=>have:=AZ hb.2 j o (by simpa using h) k hk;omega
def AP:Option (Nat×HB)→List Nat
 | none=>[]
 | some q=>[q.1]
def mS (P:Program) (f:FuncId) (args:List U) (h:List (Option HB)) (K:U→List (Option HB)→List Nat→List Nat→Prop):Prop:=
 ∃ pre us sv,aK P f args pre us sv∧aW (ag h) pre∧bk pre h us∧K sv (jX h us) (pre.map (·.1)) (us.map (·.1))
def vu (P:Program) (h:List (Option HB)) (K:U→List (Option HB)→List Nat→List Nat→Prop):List U→Prop
 | .fn f caps::args=>mS P f (args++caps) h K
 | .bZ f caps::args=>mS P f (caps++args) h K
 | _=>False
def uc (P:Program) (name:String) (h:List (Option HB)) (K:U→List (Option HB)→List Nat→List Nat→Prop):List U→Prop
 | s::args=>match mA s with
   | some (t,x)=>match mC P t name with
     | some (f,none)=>mS P f (x::args) h K
     | some (f,some (n,agg))=>match dQ n agg (ag h) x with
       | some (p,y,_,rd)=>p∧mS P f (y::args) h fun sv h' pre us=>K sv h' (rd++pre) us
       | none=>False
     | none=>False
   | none=>False
 | _=>False
def xo (h:List (Option HB)) (K:U→List (Option HB)→List Nat→List Nat→Prop):XR→Prop
 | some (p,sv,u,rd)=>p∧K sv (uS h u) rd (AP u)
 | none=>False
def qP (P:Program) (ao:AO) (args:List U) (h:List (Option HB)) (K:U→List (Option HB)→List Nat→List Nat→Prop):Prop:=
 match ao with
 | .call f=>mS P f args h K
 | .lZ=>vu P h K args
 | .inv name=>uc P name h K args
 | ao=>xo h K (bF ao args (ag h) h.length)
def RD (P:Program) (aL:List Nat) (K:St→Prop):List aU→List TE→St→Prop
 | [],acc,s=>ni aL 0 acc=true∧K s
 | op::r,acc,s=>match fO (lk s.env) op.guard with
   | some true=>qP P op.ao (op.xs.map (eo (lk s.env))) s.h fun sv h' pre us=>RD P aL K r (acc++[⟨mJ op,op.dst,pre,us⟩]) ⟨cD op.dst sv s.env,h'⟩
   | some false=>RD P aL K r (acc++[⟨mJ op,op.dst,[],[]⟩]) ⟨cD op.dst (.aM []) s.env,s.h⟩
   | none=>False
theorem Am {hp:Hp}:∀ {rd:List Nat},(∀ id∈rd,(hp id).isSome=true)→(rd.filterMap fun id=>(hp id).map fun hb=>(id,hb)).map (·.1)=rd
 | [],_=>rfl
 | x::r,h=>by
   obtain ⟨hb,hx⟩:=Option.isSome_iff_exists.1 (h x (by simp))
   simp only [List.filterMap_cons,hx,Option.map_some,List.map_cons]
   rw [Am (fun id hid=>h id (by simp [hid]))]
theorem Ob {P:Program} {o:Oper} {ao:AO} {cX:List Operand} (hc:fN P o.op=some (ao,cX)) {args:List U} {h:List (Option HB)} {K:U→List (Option HB)→List Nat→List Nat→Prop} (hW:qP P ao args h K) :
 ∃ pre us sv,mU P o args pre us sv∧aW (ag h) pre∧bk pre h us∧K sv (jX h us) (pre.map (·.1)) (us.map (·.1)):=by
 unfold qP at hW
 split at hW
 ·obtain ⟨pre,us,sv,h1,h2,h3,h4⟩:=hW
  exact ⟨pre,us,sv,El hc h1,h2,h3,h4⟩
 ·unfold vu at hW
  split at hW
  ·obtain ⟨pre,us,sv,h1,h2,h3,h4⟩:=hW
   exact ⟨pre,us,sv,En hc h1,h2,h3,h4⟩
  ·obtain ⟨pre,us,sv,h1,h2,h3,h4⟩:=hW
   exact ⟨pre,us,sv,Em hc h1,h2,h3,h4⟩
  ·exact hW.elim
 ·unfold uc at hW
  split at hW
  ·rename_i s eG
   split at hW
   ·rename_i t x hi
    split at hW
    ·rename_i f hf
     obtain ⟨pre,us,sv,h1,h2,h3,h4⟩:=hW
     exact ⟨pre,us,sv,Ad hc hi hf (y:=x) (fun hp hP=>rfl) (fun q hq=>hq) h1 (fun C hp hn _=>hn),h2,h3,h4⟩
    ·rename_i f n agg hf
     split at hW
     ·rename_i p y u rd hE
      obtain ⟨ah,pre,us,sv,h1,h2,h3,h4⟩:=hW
      obtain ⟨g1,g2,g3⟩:=CU hc hi hf hE ah h1 h2 h3
      refine ⟨_,us,sv,g1,g2,g3,?_⟩
      rw [List.map_append]
      have:(sr h rd).map (·.1)=rd:=Am (fun id hid=>DQ hE id hid)
      rw [this];exact h4
     ·exact hW.elim
    ·exact hW.elim
   ·exact hW.elim
  ·exact hW.elim
 ·unfold xo at hW
  split at hW
  ·rename_i p sv u rd hE
   obtain ⟨hp,hK⟩:=hW
   have mq:ag h h.length=none:=by unfold ag;rw [List.getElem?_eq_none (Nat.le_refl _)]
   have ur:=Ac hE
   refine ⟨_,uR u,sv,Eo hc hE hp mq,fun q hq=>?_,?_,?_⟩
   ·obtain ⟨id,_,hid⟩:=List.mem_filterMap.1 hq
    cases ck:ag h id with
    | none=>simp [ck] at hid
    | some hb=>simp [ck] at hid;subst hid;exact ck
   ·cases u with
    | none=>trivial
    | some q=>
      refine ⟨?_,trivial⟩
      rcases ur.1 q rfl with h1 | h1
      ·exact .inl h1
      ·right
       have hs:=ur.2 _ h1
       obtain ⟨hb,nu⟩:=Option.isSome_iff_exists.1 hs
       refine ⟨?_,hb,List.mem_filterMap.2 ⟨q.1,h1,by simp [nu]⟩⟩
       unfold ag at nu
       cases hl:h[q.1]? with
       | none=>simp [hl] at nu
       | some x=>exact (List.getElem?_eq_some_iff.1 hl).1
   ·have:=Am (hp:=ag h) (rd:=rd) (fun id hid=>ur.2 id hid)
    rw [this]
    cases u with
    | none=>exact hK
    | some q=>exact hK
  ·exact hW.elim
def qa:List aU→List EN→List TE
 | op::l,e::es=>eg op e::qa l es
 | _,_=>[]
theorem AJ:∀ {l:List aU} {es:List EN} {a:Nat} {op:aU} {e:EN},l[a]?=some op→es[a]?=some e→(qa l es)[a]?=some (eg op e)
 | [],es,a,op,e,h,_=>by simp at h
 | _::_,[],a,op,e,_,h=>by simp at h
 | p::l,q::es,a,op,e,h1,h2=>by
   cases a with
   | zero=>simp at h1 h2;subst h1;subst h2;rfl
   | succ a=>simp only [qa,List.getElem?_cons_succ] at h1 h2 ⊢;exact AJ h1 h2
theorem An {P:Program} {ops:Array Oper} {N:Nat} {aL:List Nat} {K:St→Prop}:∀ (l:List aU) (i:Nat) (acc:List TE) (s:St),(∀ (j:Nat) (op:aU),l[j]?=some op→∃ o,ops[i+j]?=some o∧lz P ops N o=some op)→RD P aL K l acc s→
 ∃ es s',Tr P ops i l s es s'∧ni aL 0 (acc++qa l es)=true∧K s'
 | [],i,acc,s,_,h=>⟨[],s,rfl,by simpa [qa] using h.1,h.2⟩
 | op::l,i,acc,s,hc,h=>by
   have lC:∀ (j:Nat) (op:aU),l[j]?=some op→∃ o,ops[i+1+j]?=some o∧lz P ops N o=some op:=fun j op' hj=>by
    have:=hc (j+1) op' (by simpa using hj)
    rwa [show i+(j+1)=i+1+j by omega] at this
   obtain ⟨o,ho,ko⟩:=hc 0 op rfl
   rw [Nat.add_zero] at ho
   obtain ⟨cX,oT,oa,rO,rP⟩:=yu ko
   unfold RD at h
   split at h
   ·rename_i hg
    obtain ⟨pre,us,sv,h1,h2,h3,h4⟩:=Ob oT h
    obtain ⟨es,s',g1,g2,g3⟩:=An l (i+1) _ _ lC h4
    refine ⟨.run (op.xs.map (eo (lk s.env))) pre us sv::es,s',⟨⟨hg,rfl,fun o' ho'=>?_,h2,h3⟩,g1⟩,?_,g3⟩
    ·rw [ho] at ho';cases ho';exact h1
    ·simpa [qa,eg] using g2
   ·rename_i hg
    obtain ⟨es,s',g1,g2,g3⟩:=An l (i+1) _ _ lC h
    exact ⟨.skip::es,s',⟨hg,g1⟩,by simpa [qa,eg] using g2,g3⟩
   ·exact h.elim
theorem OJ {P:Program} {C:Ctx} {n0:Nat} {ops:Array Oper} {K:St→Prop} {Q:Exit→Act→World→Prop} {l:List aU} (hm:P.follows .mixedOrders=true) (hsz:ops.size=l.length) (Co:∀ (j:Nat) (op:aU),l[j]?=some op→∃ o,ops[j]?=some o∧lz P ops C.N o=some op)
 (Jr:sY 0 ops.toList=true) {s:St} {a:Act} {w:World} (h:RD P (lV ops.toList []) K l [] s) (R:eF C n0 s a w) (hK:∀ s a w,K s→eF C n0 s a w→Q .normal a w) (id:Nat):(Code.region id ops true).wp P Q a w:=by
 refine wp_region_any hm ?_
 obtain ⟨es,s',h1,h2,h3⟩:=An l 0 [] s (fun j op hj=>by rw [Nat.zero_add];exact Co j op hj) h
 have H:eP P ops C.N l es s s' (xY l.length (lV ops.toList [])):=by
  refine ⟨h1,hsz,Co,fun i o ho k hk=>?_,fun i o ho k hk=>?_,fun x y Ae Af ea eb hxy ha hb JA JB=>?_⟩
  ·have:=AZ Jr i o (by simpa using ho) k hk;omega
  ·obtain ⟨fE,hk⟩:=zW.1 hk
   have:=Bb ops.toList [] i o (by simpa using ho) k (by simpa using hk)
   rcases this with g | ⟨x,hx,g⟩
   ·exact ⟨eY o,fun x hx=>hx,.inl g⟩
   ·exact ⟨eY o,fun x hx=>hx,.inr ⟨x,hx,zW.2 ⟨fE,g⟩⟩⟩
  ·have:=By (aL:=lV ops.toList []) (l:=qa l es) (i:=0) (by simpa using h2) x y _ _ hxy (AJ ha JA) (AJ hb JB)
   rw [Nat.zero_add,Nat.zero_add] at this
   refine this.imp (fun h=>zW.2 ⟨(List.getElem?_eq_some_iff.1 ha).1,h⟩) (fun h=>h)
 have hlen:=h1.length
 obtain ⟨aa,RF⟩:=R.rep
 have hst:=FD P ops h1 l.length (Nat.le_refl _)
 rw [h1.last] at hst
 have fX:fe C (lk s.env) (ag s.h) a { w with drawn:=w.drawn+1 } aa:=RF.step (RF.mem.quiet (w':={ w with drawn:=w.drawn+1 }) rfl rfl rfl rfl)
 refine Ph H rfl R.uu R.h0 (fun a w aa RF=>hK s' a w h3 ⟨⟨aa,RF⟩,Nat.le_trans R.uu hst,R.h0⟩) ops.size _ (lk s.env) (ag s.h) a _ aa (by simp) ?_ ?_ ?_ fX
 ·rw [hsz];exact Br _ _
 ·intro i o ho hL
  exfalso
  simp only [Lf,Array.getD_eq_getD_getElem?,Array.getElem?_replicate] at hL
  split at hL <;> simp at hL
 ·have hf:∀ i,Lf (Array.replicate ops.size false) i=false:=fun i=>by
   simp only [Lf,Array.getD_eq_getD_getElem?,Array.getElem?_replicate]
   split <;> simp
  refine ⟨fun m=>⟨0,by omega,?_,fun i op hi=>by omega,fun i op _ _ _=>hf i⟩,fun id=>⟨0,by omega,?_,fun i op e hi=>by omega,fun i op e _ _ _ _=>hf i⟩⟩
  ·cases l <;> cases es <;> rfl
  ·cases l <;> cases es <;> rfl
end Go.aI

namespace Go.aI
open Go
inductive AC where
 | skip
 | cv (ops:List aU)
 | su (aL:List Nat) (ops:List aU)
 | seq (a b:AC)
 | cond (x:XO) (a b:AC)
 | block (id:Nat) (a:AC)
 | loop (a:AC)
 | exit (id:Nat)
 | ret
 | kN
 deriving Inhabited
def AC.rI:AC→Bool
 | .seq a b=>a.rI && b.rI
 | .cond _ a b=>a.rI || b.rI
 | .loop _ | .exit _ | .ret=>false
 | _=>true
def vF (P:Program) (ops:Array Oper) (N:Nat):List Oper→Option (List aU)
 | []=>some []
 | o::r=>match lz P ops N o,vF P ops N r with
   | some x,some l=>some (x::l)
   | _,_=>none
theorem yw {P:Program} {ops:Array Oper} {N:Nat}:∀ {os:List Oper} {l:List aU},vF P ops N os=some l→os.length=l.length∧∀ (j:Nat) (op:aU),l[j]?=some op→∃ o,os[j]?=some o∧lz P ops N o=some op
 | [],l,h=>by cases h;exact ⟨rfl,fun j op hj=>by simp at hj⟩
 | o::r,l,h=>by
   unfold vF at h
   split at h
   ·rename_i x l' hx hl
    cases h
    obtain ⟨g1,g2⟩:=yw hl
    refine ⟨by simp [g1],fun j op hj=>?_⟩
    cases j with
    | zero=>simp at hj;subst hj;exact ⟨o,rfl,hx⟩
    | succ j=>simp only [List.getElem?_cons_succ] at hj ⊢;exact g2 j op hj
   ·cases h
def comp (P:Program) (N:Nat):Code→Option AC
 | .skip=>some .skip
 | .region _ ops draw=>match draw,vF P ops N ops.toList with
   | false,some l=>some (.cv l)
   | true,some l=>if P.follows .mixedOrders && sY 0 ops.toList then some (.su (lV ops.toList []) l) else none
   | _,none=>none
 | .seq a b=>match comp P N a,comp P N b with
   | some x,some y=>some (.seq x y)
   | _,_=>none
 | .cond c a b=>match yx c,comp P N a,comp P N b with
   | some q,some x,some y=>if x.rI && y.rI then some (.seq (.cond q x y) .kN) else some (.cond q x y)
   | _,_,_=>none
 | .block id c=>match comp P N c with
   | some x=>some (.seq (.block id x) .kN)
   | none=>none
 | .loop c=>match comp P N c with
   | some x=>some (.loop x)
   | none=>none
 | .exit id=>some (.exit id)
 | .ret=>some .ret
 | _=>none
inductive Ex where
 | normal
 | exit (id:Nat)
 | ret
def Ex.xM:Ex→Exit
 | .normal=>.normal
 | .exit id=>.exit id
 | .ret=>.ret
def cI (n0:Nat) (s s':St):Prop:=∀ C a w,eF C n0 s a w→eF C n0 s' a w
def kX (n:St→Prop) (K:Ex→St→Prop):Ex→St→Prop
 | .normal,s=>n s
 | .exit id,s=>K (.exit id) s
 | .ret,s=>K .ret s
def vh (id:Nat) (K:Ex→St→Prop):Ex→St→Prop
 | .normal,s=>K .normal s
 | .exit j,s=>if j=id then K .normal s else K (.exit j) s
 | .ret,s=>K .ret s
def vH (T F:Prop):U→Prop
 | .rv (.bool t)=>if t=true then T else F
 | _=>False
def W (P:Program) (n0:Nat):AC→(Ex→St→Prop)→St→Prop
 | .skip,K,s=>K .normal s
 | .cv ops,K,s=>RW P (K .normal) ops s
 | .su aL ops,K,s=>RD P aL (K .normal) ops [] s
 | .seq a b,K,s=>W P n0 a (kX (W P n0 b K) K) s
 | .cond x a b,K,s=>vH (W P n0 a K s) (W P n0 b K s) (eo (lk s.env) x)
 | .block id a,K,s=>W P n0 a (vh id K) s
 | .loop a,K,s=>∃ (ι:Type) (σ:ι→St) (pr:ι→Prop) (μ:ι→Nat) (i0:ι),pr i0∧cI n0 s (σ i0)∧∀ i,pr i→W P n0 a (kX (fun s'=>∃ i',pr i'∧μ i'<μ i∧cI n0 s' (σ i')) K) (σ i)
 | .exit id,K,s=>K (.exit id) s
 | .ret,K,s=>K .ret s
 | .kN,K,s=>∃ s',cI n0 s s'∧K .normal s'
theorem xK {n n':St→Prop} {K K':Ex→St→Prop} (hn:∀ s,n s→n' s) (h:∀ e s,K e s→K' e s):∀ e s,kX n K e s→kX n' K' e s
 | .normal,s,hk=>hn s hk
 | .exit id,s,hk=>h _ s hk
 | .ret,s,hk=>h _ s hk
theorem GK {id:Nat} {K K':Ex→St→Prop} (h:∀ e s,K e s→K' e s):∀ e s,vh id K e s→vh id K' e s
 | .normal,s,hk=>h _ s hk
 | .exit j,s,hk=>by
   have hk':if j=id then K .normal s else K (.exit j) s:=hk
   show if j=id then K' .normal s else K' (.exit j) s
   by_cases hj:j=id
   ·rw [if_pos hj] at hk' ⊢;exact h _ s hk'
   ·rw [if_neg hj] at hk' ⊢;exact h _ s hk'
 | .ret,s,hk=>h _ s hk
theorem Od {P:Program} {ao:AO} {args:List U} {h:List (Option HB)} {K K':U→List (Option HB)→Prop} (hk:∀ sv h,K sv h→K' sv h) (hw:qR P ao args h K):qR P ao args h K':=by
 have hc:∀ f args,oD P f args h K→oD P f args h K':=fun f args ⟨pre,us,sv,h1,h2,h3,h4⟩=>⟨pre,us,sv,h1,h2,h3,hk _ _ h4⟩
 unfold qR at hw ⊢
 split at hw
 ·exact hc _ _ hw
 ·unfold vv at hw ⊢
  split at hw
  ·exact hc _ _ hw
  ·exact hc _ _ hw
  ·exact hw.elim
 ·unfold ud at hw ⊢
  split at hw
  ·split at hw
   ·split at hw
    ·exact hc _ _ hw
    ·split at hw
     ·exact ⟨hw.1,hc _ _ hw.2⟩
     ·exact hw.elim
    ·exact hw.elim
   ·exact hw.elim
  ·exact hw.elim
 ·unfold xp at hw ⊢
  split at hw
  ·exact ⟨hw.1,hk _ _ hw.2⟩
  ·exact hw.elim
theorem xU {P:Program} {K K':St→Prop} (hk:∀ s,K s→K' s):∀ {l:List aU} {s:St},RW P K l s→RW P K' l s
 | [],s,h=>hk s h
 | op::l,s,h=>by
   unfold RW at h ⊢
   split at h
   ·exact Od (fun sv h' hh=>xU hk hh) h
   ·exact xU hk h
   ·exact h.elim
theorem Oa {P:Program} {ao:AO} {args:List U} {h:List (Option HB)} {K K':U→List (Option HB)→List Nat→List Nat→Prop} (hk:∀ sv h p u,K sv h p u→K' sv h p u) (hw:qP P ao args h K):qP P ao args h K':=by
 have hc:∀ f args,mS P f args h K→mS P f args h K':=fun f args ⟨pre,us,sv,h1,h2,h3,h4⟩=>⟨pre,us,sv,h1,h2,h3,hk _ _ _ _ h4⟩
 have hcd:∀ f args rd,(mS P f args h fun sv h' pre us=>K sv h' (rd++pre) us)→mS P f args h fun sv h' pre us=>K' sv h' (rd++pre) us:=fun f args rd ⟨pre,us,sv,h1,h2,h3,h4⟩=>⟨pre,us,sv,h1,h2,h3,hk _ _ _ _ h4⟩
 unfold qP at hw ⊢
 split at hw
 ·exact hc _ _ hw
 ·unfold vu at hw ⊢
  split at hw
  ·exact hc _ _ hw
  ·exact hc _ _ hw
  ·exact hw.elim
 ·unfold uc at hw ⊢
  split at hw
  ·split at hw
   ·split at hw
    ·exact hc _ _ hw
    ·split at hw
     ·exact ⟨hw.1,hcd _ _ _ hw.2⟩
     ·exact hw.elim
    ·exact hw.elim
   ·exact hw.elim
  ·exact hw.elim
 ·unfold xo at hw ⊢
  split at hw
  ·exact ⟨hw.1,hk _ _ _ _ hw.2⟩
  ·exact hw.elim
theorem xT {P:Program} {aL:List Nat} {K K':St→Prop} (hk:∀ s,K s→K' s):∀ {l:List aU} {acc:List TE} {s:St},RD P aL K l acc s→RD P aL K' l acc s
 | [],acc,s,h=>⟨h.1,hk s h.2⟩
 | op::l,acc,s,h=>by
   unfold RD at h ⊢
   split at h
   ·exact Oa (fun sv h' p u hh=>xT hk hh) h
   ·exact xT hk h
   ·exact h.elim
theorem oF {P:Program} {n0:Nat}:∀ {ac:AC} {K K':Ex→St→Prop} {s:St},(∀ e s,K e s→K' e s)→W P n0 ac K s→W P n0 ac K' s
 | .skip,K,K',s,h,hw=>h _ _ hw
 | .cv ops,K,K',s,h,hw=>xU (h _) hw
 | .su aL ops,K,K',s,h,hw=>xT (h _) hw
 | .seq a b,K,K',s,h,hw=>oF (ac:=a) (xK (fun s hb=>oF (ac:=b) h hb) h) hw
 | .cond x a b,K,K',s,h,hw=>by
   unfold W vH at hw ⊢
   split at hw
   ·split at hw
    ·rename_i ht;rw [if_pos ht];exact oF (ac:=a) h hw
    ·rename_i ht;rw [if_neg ht];exact oF (ac:=b) h hw
   ·exact hw.elim
 | .block id a,K,K',s,h,hw=>oF (ac:=a) (GK h) hw
 | .loop a,K,K',s,h,hw=>by
   obtain ⟨ι,σ,pr,μ,i0,h0,he,hr⟩:=hw
   exact ⟨ι,σ,pr,μ,i0,h0,he,fun i hi=>oF (ac:=a) (xK (fun s hs=>hs) h) (hr i hi)⟩
 | .exit id,K,K',s,h,hw=>h _ _ hw
 | .ret,K,K',s,h,hw=>h _ _ hw
 | .kN,K,K',s,h,hw=>by obtain ⟨s',h1,h2⟩:=hw;exact ⟨s',h1,h _ _ h2⟩
theorem least {p:Nat→Prop} (h:∃ m,p m):∃ m,p m∧∀ k,p k→m≤k:=by
 obtain ⟨m,hm⟩:=h
 induction m using Nat.strongRecOn with
 | _ m ih=>
   by_cases hl:∃ k,p k∧k<m
   ·obtain ⟨k,hk,hlt⟩:=hl
    exact ih k hlt hk
   ·exact ⟨m,hm,fun k hk=>by
     by_cases hlt:k<m
     ·exact absurd ⟨k,hk,hlt⟩ hl
     ·omega⟩
theorem BM {P:Program} {n0:Nat} {C:Ctx} {K:Ex→St→Prop} {Q:Exit→Act→World→Prop} (hq:∀ e s a w,K e s→eF C n0 s a w→Q e.xM a w) :
 ∀ e s a w,kX (W P n0 .kN K) K e s→eF C n0 s a w→Q e.xM a w
 | .normal,s,a,w,⟨s',h1,h2⟩,R=>hq .normal s' a w h2 (h1 C a w R)
 | .exit id,s,a,w,hk,R=>hq (.exit id) s a w hk R
 | .ret,s,a,w,hk,R=>hq .ret s a w hk R
theorem QX {P:Program} {n0:Nat} {C:Ctx}:∀ (c:Code) (ac:AC) (K:Ex→St→Prop) (Q:Exit→Act→World→Prop) (s:St) (a:Act) (w:World),comp P C.N c=some ac→W P n0 ac K s→eF C n0 s a w→(∀ e s a w,K e s→eF C n0 s a w→Q e.xM a w)→c.wp P Q a w:=by
 intro c
 induction c with
 | skip=>intro ac K Q s a w hc hw R hq;cases hc;exact wp_skip (hq _ _ _ _ hw R)
 | region id ops draw=>
   intro ac K Q s a w hc hw R hq
   unfold comp at hc
   split at hc
   ·rename_i l hl
    cases hc
    obtain ⟨g1,g2⟩:=yw hl
    refine wp_region (EY (C:=C) (n0:=n0) (fun s a w hk R=>hq .normal s a w hk R) l _ s a w (by simpa using g1) (fun j i op hi hj=>?_) hw R)
    obtain ⟨o,ho,ko⟩:=g2 j op hj
    have hlt:j<ops.size:=by
     have:=(List.getElem?_eq_some_iff.1 hj).1
     have e:ops.toList.length=ops.size:=by simp
     omega
    rw [List.getElem?_range hlt] at hi
    cases hi
    exact ⟨o,by simpa using ho,ko⟩
   ·rename_i l hl
    split at hc
    ·rename_i hb
     cases hc
     simp only [Bool.and_eq_true] at hb
     obtain ⟨g1,g2⟩:=yw hl
     exact OJ hb.1 (by simpa using g1) (fun j op hj=>by
      obtain ⟨o,ho,ko⟩:=g2 j op hj
      exact ⟨o,by simpa using ho,ko⟩) hb.2 hw R (fun s a w hk R=>hq .normal s a w hk R) id
    ·cases hc
   ·cases hc
 | seq x y zD zE=>
   intro ac K Q s a w hc hw R hq
   unfold comp at hc
   split at hc
   ·rename_i x' y' hx hy
    cases hc
    refine wp_seq (zD x' _ _ s a w hx hw R (fun e s a w hk R=>?_))
    cases e with
    | normal=>exact zE y' K Q s a w hy hk R hq
    | exit id=>exact hq (.exit id) s a w hk R
    | ret=>exact hq .ret s a w hk R
   ·cases hc
 | cond c x y zD zE=>
   intro ac K Q s a w hc hw R hq
   unfold comp at hc
   split at hc
   ·rename_i q x' y' yX hx hy
    have base:∀ (K:Ex→St→Prop),W P n0 (.cond q x' y') K s→(∀ e s a w,K e s→eF C n0 s a w→Q e.xM a w)→(Code.cond c x y).wp P Q a w:=by
     intro K hw hq
     unfold W vH at hw
     split at hw
     ·rename_i t ht
      obtain ⟨aa,RF⟩:=R.rep
      have hA:=ve RF (xs:=[c]) (ys:=[q]) (by simp [rC,yX])
      cases hA with
      | cons h1 _=>
        rw [ht] at h1
        have hb:=qX h1
        refine wp_cond hb ?_
        cases t with
        | true=>exact zD x' K Q s a w hx (by simpa using hw) R hq
        | false=>exact zE y' K Q s a w hy (by simpa using hw) R hq
     ·exact hw.elim
    split at hc
    ·cases hc
     exact base _ hw (BM hq)
    ·cases hc
     exact base K hw hq
   ·cases hc
 | block id c ih=>
   intro ac K Q s a w hc hw R hq
   unfold comp at hc
   split at hc
   ·rename_i x hx
    cases hc
    have ck:=BM (P:=P) hq
    refine wp_block (ih x _ _ s a w hx hw R (fun e s a w hk R=>?_))
    cases e with
    | normal=>exact ck .normal s a w hk R
    | exit j=>
      have hk':if j=id then (∃ s',cI n0 s s'∧K .normal s') else K (.exit j) s:=hk
      show if j=id then Q .normal a w else Q (.exit j) a w
      by_cases hj:j=id
      ·rw [if_pos hj] at hk' ⊢;exact ck .normal s a w hk' R
      ·rw [if_neg hj] at hk' ⊢;exact hq (.exit j) s a w hk' R
    | ret=>exact hq .ret s a w hk R
   ·cases hc
 | loop c ih=>
   intro ac K Q s a w hc hw R hq
   unfold comp at hc
   split at hc
   ·rename_i x hx
    cases hc
    obtain ⟨ι,σ,pr,μ,i0,h0,he,hr⟩:=hw
    have key:∀ n i,μ i=n→pr i→∀ a w,eF C n0 (σ i) a w→(Code.loop c).wp P Q a w:=by
     classical
     intro n i hn hi a w R
     let I:Act→World→Prop:=fun a w=>∃ i,pr i∧eF C n0 (σ i) a w
     have hex:∀ a w,I a w→∃ m,∃ i,pr i∧eF C n0 (σ i) a w∧μ i=m:=fun a w ⟨i,h1,h2⟩=>⟨μ i,i,h1,h2,rfl⟩
     have Cr:∀ a w,∃ m,I a w→(∃ i,pr i∧eF C n0 (σ i) a w∧μ i=m)∧∀ i,pr i→eF C n0 (σ i) a w→m≤μ i:=fun a w=>by
      by_cases h:I a w
      ·obtain ⟨m,hm,hl⟩:=least (p:=fun m=>∃ i,pr i∧eF C n0 (σ i) a w∧μ i=m) (hex a w h)
       exact ⟨m,fun _=>⟨hm,fun i hi hR=>hl _ ⟨i,hi,hR,rfl⟩⟩⟩
      ·exact ⟨0,fun h'=>absurd h' h⟩
     let M:Act→World→Nat:=fun a w=>(Cr a w).choose
     have hM:∀ a w,I a w→(∃ i,pr i∧eF C n0 (σ i) a w∧μ i=M a w)∧∀ i,pr i→eF C n0 (σ i) a w→M a w≤μ i:=fun a w h=>(Cr a w).choose_spec h
     refine wp_loop I M ⟨i,hi,R⟩ (fun a w hI=>?_)
     obtain ⟨⟨j,hj,hR,Rw⟩,_⟩:=hM a w hI
     refine ih x _ _ (σ j) a w hx (hr j hj) hR (fun e s' a' w' hk R'=>?_)
     cases e with
     | normal=>
       obtain ⟨j',hj',hlt,JC⟩:=hk
       have Cg:=JC C a' w' R'
       have Cf:I a' w':=⟨j',hj',Cg⟩
       refine ⟨Cf,?_⟩
       have:=(hM a' w' Cf).2 j' hj' Cg
       omega
     | exit id=>exact hq (.exit id) s' a' w' hk R'
     | ret=>exact hq .ret s' a' w' hk R'
    exact key _ i0 rfl h0 a w (he C a w R)
   ·cases hc
 | exit id=>intro ac K Q s a w hc hw R hq;cases hc;exact wp_exit (hq _ _ _ _ hw R)
 | ret=>intro ac K Q s a w hc hw R hq;cases hc;exact wp_ret (hq _ _ _ _ hw R)
 | rangeFunc=>intro ac K Q s a w hc;cases hc
 | scope=>intro ac K Q s a w hc;cases hc
 | label=>intro ac K Q s a w hc;cases hc
 | goto=>intro ac K Q s a w hc;cases hc
 | refuse=>intro ac K Q s a w hc;cases hc
end Go.aI

namespace Go.aI
open Go
inductive It where
 | c (a:AC)
 | o (l:List aU)
 | d (aL:List Nat) (acc:List TE) (l:List aU)
 | b (id:Nat)
 | l (m:Nat) (a:AC)
def WL (P:Program) (n0 m:Nat) (a:AC) (K:Ex→St→Prop) (s:St):Prop:=
 ∃ (ι:Type) (σ:ι→St) (pr:ι→Prop) (μ:ι→Nat) (i0:ι),(pr i0∧μ i0≤m)∧cI n0 s (σ i0)∧∀ i,pr i→W P n0 a (kX (fun s'=>∃ i',pr i'∧μ i'<μ i∧cI n0 s' (σ i')) K) (σ i)
theorem Gb {P:Program} {n0 m:Nat} {a:AC} {K:Ex→St→Prop} {s:St} (h:WL P n0 m a K s):W P n0 (.loop a) K s:=by
 obtain ⟨ι,σ,pr,μ,i0,⟨h1,_⟩,h2,h3⟩:=h
 exact ⟨ι,σ,pr,μ,i0,h1,h2,h3⟩
theorem Gc {P:Program} {n0 m:Nat} {a:AC} {K:Ex→St→Prop} {s:St} (h:W P n0 a (kX (WL P n0 m a K) K) s):WL P n0 (m+1) a K s:=by
 let Inv:St→Nat→Prop:=fun s k=>k≤m∧∃ (ι:Type) (σ:ι→St) (pr:ι→Prop) (μ:ι→Nat) (i:ι),pr i∧σ i=s∧μ i=k∧∀ i,pr i→W P n0 a (kX (fun s'=>∃ i',pr i'∧μ i'<μ i∧cI n0 s' (σ i')) K) (σ i)
 refine ⟨Option (St×Nat),fun o=>(o.map (·.1)).getD s,fun o=>∀ q,o=some q→Inv q.1 q.2,fun o=>match o with | some q=>q.2 | none=>m+1,none,⟨fun q hq=>(by cases hq),Nat.le_refl _⟩,fun _ _ _ R=>R,fun o ho=>?_⟩
 cases o with
 | none=>
   refine oF (fun e s' hs=>?_) h
   revert hs
   refine xK (fun s' hs=>?_) (fun _ _ hk=>hk) e s'
   obtain ⟨ι,σ,pr,μ,i0,⟨h1,h2⟩,h3,h4⟩:=hs
   exact ⟨some (σ i0,μ i0),fun q hq=>(by cases hq;exact ⟨h2,ι,σ,pr,μ,i0,h1,rfl,rfl,h4⟩),Nat.lt_succ_of_le h2,h3⟩
 | some q=>
   obtain ⟨hk,ι,σ,pr,μ,i,h1,h2,h3,h4⟩:=ho q rfl
   have:=h4 i h1
   rw [h2] at this
   refine oF (fun e s' hs=>?_) this
   revert hs
   refine xK (fun s' hs=>?_) (fun _ _ hk=>hk) e s'
   obtain ⟨i',g1,g2,g3⟩:=hs
   exact ⟨some (σ i',μ i'),fun q' hq=>(by cases hq;exact ⟨by omega,ι,σ,pr,μ,i',g1,rfl,rfl,h4⟩),(by show μ i'<q.2;omega),g3⟩
def CI (P:Program) (n0:Nat):List It→(Ex→St→Prop)→Ex→St→Prop
 | [],K=>K
 | .c a::k,K=>kX (W P n0 a (CI P n0 k K)) (CI P n0 k K)
 | .o l::k,K=>kX (RW P (CI P n0 k K .normal) l) (CI P n0 k K)
 | .d aL acc l::k,K=>kX (RD P aL (CI P n0 k K .normal) l acc) (CI P n0 k K)
 | .b id::k,K=>vh id (CI P n0 k K)
 | .l m a::k,K=>kX (WL P n0 m a (CI P n0 k K)) (CI P n0 k K)
def G (P:Program) (n0:Nat) (k:List It) (K:Ex→St→Prop) (env:List (Nat×U)) (h:List (Option HB)):Prop:=CI P n0 k K .normal ⟨env,h⟩
def GX (P:Program) (n0:Nat) (id:Nat) (k:List It) (K:Ex→St→Prop) (env:List (Nat×U)) (h:List (Option HB)):Prop:=CI P n0 k K (.exit id) ⟨env,h⟩
def vG (P:Program) (n0:Nat) (a b:AC) (k:List It) (K:Ex→St→Prop) (env:List (Nat×U)) (h:List (Option HB)):U→Prop
 | .rv (.bool t)=>if t=true then G P n0 (.c a::k) K env h else G P n0 (.c b::k) K env h
 | _=>False
def qk (P:Program) (n0:Nat) (f:FuncId) (args:List U) (dst:Option Nat) (r:List aU) (k:List It) (K:Ex→St→Prop) (env:List (Nat×U)) (h:List (Option HB)):Prop:=
 oD P f args h fun sv h'=>G P n0 (.o r::k) K (cD dst sv env) h'
def yl (P:Program) (n0:Nat) (dst:Option Nat) (r:List aU) (k:List It) (K:Ex→St→Prop) (env:List (Nat×U)) (h:List (Option HB)):List U→Prop
 | .fn f caps::args=>qk P n0 f (args++caps) dst r k K env h
 | .bZ f caps::args=>qk P n0 f (caps++args) dst r k K env h
 | _=>False
def wM (P:Program) (n0:Nat) (name:String) (dst:Option Nat) (r:List aU) (k:List It) (K:Ex→St→Prop) (env:List (Nat×U)) (h:List (Option HB)):List U→Prop
 | s::args=>match mA s with
   | some (t,x)=>match mC P t name with
     | some (f,none)=>qk P n0 f (x::args) dst r k K env h
     | some (f,some (n,agg))=>match dQ n agg (ag h) x with
       | some (p,y,_,_)=>p∧qk P n0 f (y::args) dst r k K env h
       | none=>False
     | none=>False
   | none=>False
 | _=>False
def Ah (P:Program) (n0:Nat) (dst:Option Nat) (r:List aU) (k:List It) (K:Ex→St→Prop) (env:List (Nat×U)) (h:List (Option HB)):XR→Prop
 | some (p,sv,u,_)=>p∧G P n0 (.o r::k) K (cD dst sv env) (uS h u)
 | none=>False
def qQ (P:Program) (n0:Nat) (ao:AO) (args:List U) (dst:Option Nat) (r:List aU) (k:List It) (K:Ex→St→Prop) (env:List (Nat×U)) (h:List (Option HB)):Prop:=
 match ao with
 | .call f=>qk P n0 f args dst r k K env h
 | .lZ=>yl P n0 dst r k K env h args
 | .inv name=>wM P n0 name dst r k K env h args
 | ao=>Ah P n0 dst r k K env h (bF ao args (ag h) h.length)
def qt (P:Program) (n0:Nat) (b:Bool) (ao:AO) (xs:List XO) (dst:Option Nat) (r:List aU) (k:List It) (K:Ex→St→Prop) (env:List (Nat×U)) (h:List (Option HB)):U→Prop
 | .rv (.bool t)=>if t=b then qQ P n0 ao (xs.map (eo (lk env))) dst r k K env h else G P n0 (.o r::k) K (cD dst (.aM []) env) h
 | .aM []=>G P n0 (.o r::k) K (cD dst (.aM []) env) h
 | _=>False
def ql (P:Program) (n0:Nat) (aL:List Nat) (acc:List TE) (bV pP:List Nat) (f:FuncId) (args:List U) (dst:Option Nat) (r:List aU) (k:List It) (K:Ex→St→Prop) (env:List (Nat×U)) (h:List (Option HB)):Prop:=
 mS P f args h fun sv h' pre us=>G P n0 (.d aL (acc++[⟨bV,dst,pP++pre,us⟩]) r::k) K (cD dst sv env) h'
def ym (P:Program) (n0:Nat) (aL:List Nat) (acc:List TE) (bV:List Nat) (dst:Option Nat) (r:List aU) (k:List It) (K:Ex→St→Prop) (env:List (Nat×U)) (h:List (Option HB)):List U→Prop
 | .fn f caps::args=>ql P n0 aL acc bV [] f (args++caps) dst r k K env h
 | .bZ f caps::args=>ql P n0 aL acc bV [] f (caps++args) dst r k K env h
 | _=>False
def wN (P:Program) (n0:Nat) (aL:List Nat) (acc:List TE) (bV:List Nat) (name:String) (dst:Option Nat) (r:List aU) (k:List It) (K:Ex→St→Prop) (env:List (Nat×U)) (h:List (Option HB)):List U→Prop
 | s::args=>match mA s with
   | some (t,x)=>match mC P t name with
     | some (f,none)=>ql P n0 aL acc bV [] f (x::args) dst r k K env h
     | some (f,some (n,agg))=>match dQ n agg (ag h) x with
       | some (p,y,_,rd)=>p∧ql P n0 aL acc bV rd f (y::args) dst r k K env h
       | none=>False
     | none=>False
   | none=>False
 | _=>False
def Aj (P:Program) (n0:Nat) (aL:List Nat) (acc:List TE) (bV:List Nat) (dst:Option Nat) (r:List aU) (k:List It) (K:Ex→St→Prop) (env:List (Nat×U)) (h:List (Option HB)):XR→Prop
 | some (p,sv,u,rd)=>p∧G P n0 (.d aL (acc++[⟨bV,dst,rd,AP u⟩]) r::k) K (cD dst sv env) (uS h u)
 | none=>False
def qS (P:Program) (n0:Nat) (aL:List Nat) (acc:List TE) (bV:List Nat) (ao:AO) (args:List U) (dst:Option Nat) (r:List aU) (k:List It) (K:Ex→St→Prop) (env:List (Nat×U)) (h:List (Option HB)):Prop:=
 match ao with
 | .call f=>ql P n0 aL acc bV [] f args dst r k K env h
 | .lZ=>ym P n0 aL acc bV dst r k K env h args
 | .inv name=>wN P n0 aL acc bV name dst r k K env h args
 | ao=>Aj P n0 aL acc bV dst r k K env h (bF ao args (ag h) h.length)
def qu (P:Program) (n0:Nat) (aL:List Nat) (acc:List TE) (bV:List Nat) (b:Bool) (ao:AO) (xs:List XO) (dst:Option Nat) (r:List aU) (k:List It) (K:Ex→St→Prop) (env:List (Nat×U)) (h:List (Option HB)):U→Prop
 | .rv (.bool t)=>if t=b then qS P n0 aL acc bV ao (xs.map (eo (lk env))) dst r k K env h else G P n0 (.d aL (acc++[⟨bV,dst,[],[]⟩]) r::k) K (cD dst (.aM []) env) h
 | .aM []=>G P n0 (.d aL (acc++[⟨bV,dst,[],[]⟩]) r::k) K (cD dst (.aM []) env) h
 | _=>False
section
variable {P:Program} {n0:Nat} {k:List It} {K:Ex→St→Prop} {env:List (Nat×U)} {h:List (Option HB)}
theorem Ip:G P n0 [] K env h=K .normal ⟨env,h⟩:=rfl
theorem IA:G P n0 (.c .skip::k) K env h=G P n0 k K env h:=rfl
theorem Iw {ops:List aU}:G P n0 (.c (.cv ops)::k) K env h=G P n0 (.o ops::k) K env h:=rfl
theorem Ix {aL:List Nat} {ops:List aU}:G P n0 (.c (.su aL ops)::k) K env h=G P n0 (.d aL [] ops::k) K env h:=rfl
theorem Iz {a b:AC}:G P n0 (.c (.seq a b)::k) K env h=G P n0 (.c a :: .c b::k) K env h:=rfl
theorem Ij {id:Nat} {a:AC}:G P n0 (.c (.block id a)::k) K env h=G P n0 (.c a :: .b id::k) K env h:=rfl
theorem Im {id:Nat}:G P n0 (.b id::k) K env h=G P n0 k K env h:=rfl
theorem Io {id:Nat}:G P n0 (.c (.exit id)::k) K env h=GX P n0 id k K env h:=rfl
theorem Ik {x:XO} {a b:AC}:G P n0 (.c (.cond x a b)::k) K env h=vG P n0 a b k K env h (eo (lk env) x):=by
 show vH _ _ _=_
 generalize eo (lk env) x=y
 cases y with
 | rv r=>cases r <;> rfl
 | _=>rfl
theorem qf {P:Program} {n0:Nat} {K:Ex→St→Prop} {s:St}:∀ {k:List It},CI P n0 k K .ret s=K .ret s
 | []=>rfl
 | .c a::k=>qf (k:=k)
 | .o a::k=>qf (k:=k)
 | .d a b c::k=>qf (k:=k)
 | .b a::k=>qf (k:=k)
 | .l a b::k=>qf (k:=k)
theorem Iy:G P n0 (.c .ret::k) K env h=K .ret ⟨env,h⟩:=by
 show CI P n0 k K .ret ⟨env,h⟩=_
 exact qf
theorem IV {id:Nat}:GX P n0 id [] K env h=K (.exit id) ⟨env,h⟩:=rfl
theorem IS {id:Nat} {a:AC}:GX P n0 id (.c a::k) K env h=GX P n0 id k K env h:=rfl
theorem IW {id:Nat} {a:List aU}:GX P n0 id (.o a::k) K env h=GX P n0 id k K env h:=rfl
theorem IU {id m:Nat} {a:AC}:GX P n0 id (.l m a::k) K env h=GX P n0 id k K env h:=rfl
theorem rL {a:AC} (m:Nat) (hg:G P n0 (.l m a::k) K env h):G P n0 (.c (.loop a)::k) K env h:=Gb (P:=P) (n0:=n0) (m:=m) (a:=a) (K:=CI P n0 k K) (s:=⟨env,h⟩) hg
theorem rK {m:Nat} {a:AC} (hg:G P n0 (.c a :: .l m a::k) K env h):G P n0 (.l (m+1) a::k) K env h:=by
 show WL P n0 (m+1) a (CI P n0 k K) ⟨env,h⟩
 exact Gc hg
theorem IQ {id j:Nat}:GX P n0 id (.b j::k) K env h=if id=j then G P n0 k K env h else GX P n0 id k K env h:=rfl
theorem Iq:G P n0 (.o []::k) K env h=G P n0 k K env h:=rfl
theorem Il {aL:List Nat} {acc:List TE}:G P n0 (.d aL acc []::k) K env h=(ni aL 0 acc=true∧G P n0 k K env h):=rfl
theorem OD {dst:Option Nat} {r:List aU} (o:XR):xp h (fun sv h'=>RW P (CI P n0 k K .normal) r ⟨cD dst sv env,h'⟩) o=Ah P n0 dst r k K env h o:=by
 cases o with
 | none=>rfl
 | some q=>obtain ⟨p,sv,u,rd⟩:=q;rfl
theorem Ep {dst:Option Nat} {ao:AO} {args:List U} {r:List aU}:qR P ao args h (fun sv h'=>RW P (CI P n0 k K .normal) r ⟨cD dst sv env,h'⟩)=qQ P n0 ao args dst r k K env h:=by
 cases ao
 case call f=>rfl
 case lZ=>
  show vv _ _ _ _=yl _ _ _ _ _ _ _ _ _
  cases args with
  | nil=>rfl
  | cons x t=>cases x <;> rfl
 case inv name=>
  show ud _ _ _ _ _=wM _ _ _ _ _ _ _ _ _ _
  cases args with
  | nil=>rfl
  | cons x t=>
    simp only [ud,wM]
    cases mA x with
    | none=>rfl
    | some q=>
      obtain ⟨t,y⟩:=q
      simp only
      cases mC P t name with
      | none=>rfl
      | some q=>
        obtain ⟨f,ld⟩:=q
        cases ld with
        | none=>rfl
        | some q=>
          obtain ⟨n,agg⟩:=q
          simp only
          cases dQ n agg (ag h) y with
          | none=>rfl
          | some q=>obtain ⟨p,z,u,rd⟩:=q;rfl
 all_goals first | exact OD _ | rfl
theorem Ir {dst:Option Nat} {ao:AO} {xs:List XO} {r:List aU}:G P n0 (.o (⟨dst,ao,xs,none⟩::r)::k) K env h=qQ P n0 ao (xs.map (eo (lk env))) dst r k K env h:=Ep
theorem Iv {dst:Option Nat} {ao:AO} {xs:List XO} {d:Nat} {b:Bool} {r:List aU}:G P n0 (.o (⟨dst,ao,xs,some (d,b)⟩::r)::k) K env h=qt P n0 b ao xs dst r k K env h (lk env d):=by
 show RW P _ _ _=_
 unfold RW
 simp only [fO]
 generalize lk env d=x
 cases x with
 | rv q=>
   cases q with
   | bool t=>cases t <;> cases b <;> first | exact Ep | rfl
   | _=>rfl
 | aM xs=>cases xs <;> rfl
 | _=>rfl
theorem OB {aL:List Nat} {acc:List TE} {bV:List Nat} {dst:Option Nat} {r:List aU} (o:XR):xo h (fun sv h' pre us=>RD P aL (CI P n0 k K .normal) r (acc++[⟨bV,dst,pre,us⟩]) ⟨cD dst sv env,h'⟩) o=Aj P n0 aL acc bV dst r k K env h o:=by
 cases o with
 | none=>rfl
 | some q=>obtain ⟨p,sv,u,rd⟩:=q;rfl
theorem Ek {aL:List Nat} {acc:List TE} {bV:List Nat} {dst:Option Nat} {ao:AO} {args:List U} {r:List aU}:qP P ao args h (fun sv h' pre us=>RD P aL (CI P n0 k K .normal) r (acc++[⟨bV,dst,pre,us⟩]) ⟨cD dst sv env,h'⟩)=qS P n0 aL acc bV ao args dst r k K env h:=by
 cases ao
 case call f=>rfl
 case lZ=>
  show vu _ _ _ _=ym _ _ _ _ _ _ _ _ _ _ _ _
  cases args with
  | nil=>rfl
  | cons x t=>cases x <;> rfl
 case inv name=>
  show uc _ _ _ _ _=wN _ _ _ _ _ _ _ _ _ _ _ _ _
  cases args with
  | nil=>rfl
  | cons x t=>
    simp only [uc,wN]
    cases mA x with
    | none=>rfl
    | some q=>
      obtain ⟨t,y⟩:=q
      simp only
      cases mC P t name with
      | none=>rfl
      | some q=>
        obtain ⟨f,ld⟩:=q
        cases ld with
        | none=>rfl
        | some q=>
          obtain ⟨n,agg⟩:=q
          simp only
          cases dQ n agg (ag h) y with
          | none=>rfl
          | some q=>obtain ⟨p,z,u,rd⟩:=q;rfl
 all_goals first | exact OB _ | rfl
theorem Is {aL:List Nat} {acc:List TE} {dst:Option Nat} {ao:AO} {xs:List XO} {r:List aU}:G P n0 (.d aL acc (⟨dst,ao,xs,none⟩::r)::k) K env h=qS P n0 aL acc (lQ xs) ao (xs.map (eo (lk env))) dst r k K env h:=Ek
theorem Iu {aL:List Nat} {acc:List TE} {dst:Option Nat} {ao:AO} {xs:List XO} {d:Nat} {b:Bool} {r:List aU}:G P n0 (.d aL acc (⟨dst,ao,xs,some (d,b)⟩::r)::k) K env h=qu P n0 aL acc (d::lQ xs) b ao xs dst r k K env h (lk env d):=by
 show RD P _ _ _ _ _=_
 unfold RD
 simp only [fO]
 generalize lk env d=x
 cases x with
 | rv q=>
   cases q with
   | bool t=>cases t <;> cases b <;> first | exact Ek | rfl
   | _=>rfl
 | aM xs=>cases xs <;> rfl
 | _=>rfl
end
theorem cC {P:Program} {n0:Nat} {f:FuncId} {args:List U} {dst:Option Nat} {r:List aU} {k:List It} {K:Ex→St→Prop} {env:List (Nat×U)} {h:List (Option HB)} {pre us:List (Nat×HB)} {sv:U}
 (hc:aK P f args pre us sv) (hp:aW (ag h) pre) (hu:bk pre h us) (hn:G P n0 (.o r::k) K (cD dst sv env) (jX h us)):qk P n0 f args dst r k K env h:=⟨pre,us,sv,hc,hp,hu,hn⟩
theorem aF {P:Program} {n0:Nat} {f:FuncId} {args:List U} {dst:Option Nat} {r:List aU} {k:List It} {K:Ex→St→Prop} {env:List (Nat×U)} {h:List (Option HB)} {sv:U}
 (hc:aK P f args [] [] sv) (hn:G P n0 (.o r::k) K (cD dst sv env) h):qk P n0 f args dst r k K env h:=⟨[],[],sv,hc,fun q hq=>by simp at hq,trivial,hn⟩
theorem cZ {P:Program} {n0:Nat} {aL:List Nat} {acc:List TE} {bV pP:List Nat} {f:FuncId} {args:List U} {dst:Option Nat} {r:List aU} {k:List It} {K:Ex→St→Prop} {env:List (Nat×U)} {h:List (Option HB)} {pre us:List (Nat×HB)} {sv:U}
 (hc:aK P f args pre us sv) (hp:aW (ag h) pre) (hu:bk pre h us) (hn:G P n0 (.d aL (acc++[⟨bV,dst,pP++pre.map (·.1),us.map (·.1)⟩]) r::k) K (cD dst sv env) (jX h us)):ql P n0 aL acc bV pP f args dst r k K env h:=⟨pre,us,sv,hc,hp,hu,hn⟩
theorem aG {P:Program} {n0:Nat} {aL:List Nat} {acc:List TE} {bV pP:List Nat} {f:FuncId} {args:List U} {dst:Option Nat} {r:List aU} {k:List It} {K:Ex→St→Prop} {env:List (Nat×U)} {h:List (Option HB)} {sv:U}
 (hc:aK P f args [] [] sv) (hn:G P n0 (.d aL (acc++[⟨bV,dst,pP,[]⟩]) r::k) K (cD dst sv env) h):ql P n0 aL acc bV pP f args dst r k K env h:=⟨[],[],sv,hc,fun q hq=>by simp at hq,trivial,by simpa [jX] using hn⟩
theorem cK {P:Program} {n0:Nat} {a:AC} {k:List It} {K:Ex→St→Prop} {env:List (Nat×U)} {h:List (Option HB)} {ι:Type} (en:ι→List (Nat×U)) (hh:ι→List (Option HB)) (pr:ι→Prop) (μ:ι→Nat) (i0:ι)
 (h0:pr i0) (he:cI n0 ⟨env,h⟩ ⟨en i0,hh i0⟩)
 (hr:∀ i,pr i→∀ K':Ex→St→Prop,(∀ i' e' h',pr i'→μ i'<μ i→cI n0 ⟨e',h'⟩ ⟨en i',hh i'⟩→K' .normal ⟨e',h'⟩)→(∀ id e' h',GX P n0 id k K e' h'→K' (.exit id) ⟨e',h'⟩)→(∀ e' h',K .ret ⟨e',h'⟩→K' .ret ⟨e',h'⟩)→G P n0 [.c a] K' (en i) (hh i)) :
 G P n0 (.c (.loop a)::k) K env h:=by
 refine ⟨ι,fun i=>⟨en i,hh i⟩,pr,μ,i0,h0,he,fun i hi=>?_⟩
 refine hr i hi (kX (fun s'=>∃ i',pr i'∧μ i'<μ i∧cI n0 s' ⟨en i',hh i'⟩) (CI P n0 k K)) (fun i' e' h' h1 h2 h3=>⟨i',h1,h2,h3⟩) (fun id e' h' hx=>hx) (fun e' h' hx=>?_)
 show CI P n0 k K .ret _
 rw [qf];exact hx
theorem aA {P:Program} {n0:Nat} {k:List It} {K:Ex→St→Prop} {env:List (Nat×U)} {h:List (Option HB)} (hg:G P n0 k K env h):G P n0 (.c .kN::k) K env h:=⟨⟨env,h⟩,fun _ _ _ R=>R,hg⟩
end Go.aI

namespace Go.aI
open Go
inductive Bk (σ:Nat→Option Nat):U→U→Prop where
 | dead (y:U):Bk σ .dead y
 | rv (r:RV):Bk σ (.rv r) (.rv r)
 | ptr (j id off:Nat) (h:σ j=some id):Bk σ (.ptr j off) (.ptr id off)
 | bE (j id af i off:Nat) (h:σ j=some id):Bk σ (.bE j af i off) (.bE id af i off)
 | row (j id af len:Nat) (h:σ j=some id):Bk σ (.row j af len) (.row id af len)
 | win (j id af off len:Nat) (h:σ j=some id):Bk σ (.win j af off len) (.win id af off len)
 | agg (xs ys:List U) (hl:xs.length=ys.length) (h:∀ (i:Nat) (x y:U),xs[i]?=some x→ys[i]?=some y→Bk σ x y):Bk σ (.agg xs) (.agg ys)
 | aM (xs ys:List U) (hl:xs.length=ys.length) (h:∀ (i:Nat) (x y:U),xs[i]?=some x→ys[i]?=some y→Bk σ x y):Bk σ (.aM xs) (.aM ys)
 | fn (f:FuncId) (xs ys:List U) (hl:xs.length=ys.length) (h:∀ (i:Nat) (x y:U),xs[i]?=some x→ys[i]?=some y→Bk σ x y):Bk σ (.fn f xs) (.fn f ys)
 | bZ (f:FuncId) (xs ys:List U) (hl:xs.length=ys.length) (h:∀ (i:Nat) (x y:U),xs[i]?=some x→ys[i]?=some y→Bk σ x y):Bk σ (.bZ f xs) (.bZ f ys)
 | bC (t:TypeId) (x y:U) (h:Bk σ x y):Bk σ (.bC t x) (.bC t y)
def qe (σ:Nat→Option Nat) (xs ys:List U):Prop:=xs.length=ys.length∧∀ (i:Nat) (x y:U),xs[i]?=some x→ys[i]?=some y→Bk σ x y
inductive kL (σ:Nat→Option Nat):HB→HB→Prop where
 | var (xs ys:List U) (h:qe σ xs ys):kL σ (.var xs) (.var ys)
 | row (e af:Nat) (xs ys:List (List U)) (hl:xs.length=ys.length) (h:∀ (i:Nat) (x y:List U),xs[i]?=some x→ys[i]?=some y→qe σ x y):kL σ (.row e af xs) (.row e af ys)
section entry
variable {w:World} {ok cl:Nat→Prop} {aa aE:Nat→Option Nat} {hp ah:Hp} {σ:Nat→Option Nat}
theorem Rp.back (hro:∀ b,ok b→cl b) (hs:∀ j id,σ j=some id→aE j=aa id∧((hp id).isSome=true→(ah j).isSome=true)∧(∀ cs,ah j=some (.var cs)→∃ cs',hp id=some (.var cs'))∧∀ e af xs,ah j=some (.row e af xs)→∃ xs',hp id=some (.row e af xs')) {x y:U} {v:Value} (hr:Rp w ok aa hp y v) (hb:Bk σ x y):Rp w cl aE ah x v:=by
 induction hb generalizing v with
 | dead y=>exact .dead v
 | rv r=>cases hr with | rv _ _ h=>exact .rv r v (h.mono fun b hb _=>⟨hro b hb,rfl⟩)
 | ptr j id off hj=>
   obtain ⟨g1,g2,g3,g4⟩:=hs j id hj
   cases hr with
   | ptr _ _ _ h1 h0 h=>
     refine .ptr j off v h1 (g2 h0) (fun cs hc=>?_)
     obtain ⟨cs',lC⟩:=g3 cs hc
     rw [g1];exact h cs' lC
 | bE j id af i off hj=>
   obtain ⟨g1,g2,g3,g4⟩:=hs j id hj
   cases hr with
   | bE _ _ _ _ _ h1 h0 hv h=>
     refine .bE j af i off v h1 (g2 h0) (fun e cF xs hx=>?_) (fun e xs hx=>?_)
     ·obtain ⟨xs',hx'⟩:=g4 e cF xs hx;exact hv e cF xs' hx'
     ·obtain ⟨xs',hx'⟩:=g4 e af xs hx;rw [g1];exact h e xs' hx'
 | row j id af len hj=>
   obtain ⟨g1,g2,g3,g4⟩:=hs j id hj
   cases hr with
   | row _ _ _ _ h1 h0 hv h=>
     refine .row j af len v h1 (g2 h0) (fun e cF xs hx=>?_) (fun e xs hx=>?_)
     ·obtain ⟨xs',hx'⟩:=g4 e cF xs hx;exact hv e cF xs' hx'
     ·obtain ⟨xs',hx'⟩:=g4 e af xs hx;rw [g1];exact h e xs' hx'
 | win j id af off len hj=>
   obtain ⟨g1,g2,g3,g4⟩:=hs j id hj
   cases hr with
   | win _ _ _ _ _ h1 h0 hv hr hc=>
     refine .win j af off len v h1 (g2 h0) (fun e cF xs hx=>?_) (fun e xs hx=>?_) (fun cs hx=>?_)
     ·obtain ⟨xs',hx'⟩:=g4 e cF xs hx;exact hv e cF xs' hx'
     ·obtain ⟨xs',hx'⟩:=g4 e af xs hx;rw [g1];exact hr e xs' hx'
     ·obtain ⟨cs',hx'⟩:=g3 cs hx;rw [g1];exact hc cs' hx'
 | agg xs ys hl h ih=>
   cases hr with
   | agg _ vs hvl h1 hy=>
     refine .agg xs vs (by omega) h1 (fun j x hx=>?_)
     have hlt:=(List.getElem?_eq_some_iff.1 hx).1
     have cL:=List.getElem?_eq_getElem (l:=ys) (i:=j) (by omega)
     exact ih j x _ hx cL (hy j _ cL)
 | aM xs ys hl h ih=>
   cases hr with
   | aM _ vs hvl hy=>
     refine .aM xs vs (by omega) (fun j x hx=>?_)
     have hlt:=(List.getElem?_eq_some_iff.1 hx).1
     have cL:=List.getElem?_eq_getElem (l:=ys) (i:=j) (by omega)
     exact ih j x _ hx cL (hy j _ cL)
 | fn f xs ys hl h ih=>
   cases hr with
   | fn _ _ vs hvl hy=>
     refine .fn f xs vs (by omega) (fun j x hx=>?_)
     have hlt:=(List.getElem?_eq_some_iff.1 hx).1
     have cL:=List.getElem?_eq_getElem (l:=ys) (i:=j) (by omega)
     exact ih j x _ hx cL (hy j _ cL)
 | bZ f xs ys hl h ih=>
   cases hr with
   | bZ _ _ vs hvl hy=>
     refine .bZ f xs vs (by omega) (fun j x hx=>?_)
     have hlt:=(List.getElem?_eq_some_iff.1 hx).1
     have cL:=List.getElem?_eq_getElem (l:=ys) (i:=j) (by omega)
     exact ih j x _ hx cL (hy j _ cL)
 | bC t x y h ih=>cases hr with | bC _ _ v0 h0=>exact .bC t x v0 (ih h0)
theorem cS.back (hro:∀ b,ok b→cl b) (hs:∀ j id,σ j=some id→aE j=aa id∧((hp id).isSome=true→(ah j).isSome=true)∧(∀ cs,ah j=some (.var cs)→∃ cs',hp id=some (.var cs'))∧∀ e af xs,ah j=some (.row e af xs)→∃ xs',hp id=some (.row e af xs')) {cur:Array Value} {off:Nat} {xs ys:List U} (h:cS w ok aa hp cur off ys) (hb:qe σ xs ys):cS w cl aE ah cur off xs:=fun j x hx=>by
 obtain ⟨hl,hb⟩:=hb
 have hlt:=(List.getElem?_eq_some_iff.1 hx).1
 have cL:=List.getElem?_eq_getElem (l:=ys) (i:=j) (by omega)
 obtain ⟨v,h1,h2,h3⟩:=h j _ cL
 exact ⟨v,h1,h2,h3.back hro hs (hb j x _ hx cL)⟩
theorem jY.back (hro:∀ b,ok b→cl b) (hs:∀ j id,σ j=some id→aE j=aa id∧((hp id).isSome=true→(ah j).isSome=true)∧(∀ cs,ah j=some (.var cs)→∃ cs',hp id=some (.var cs'))∧∀ e af xs,ah j=some (.row e af xs)→∃ xs',hp id=some (.row e af xs')) {j id:Nat} (hj:σ j=some id) {x y:HB} (h:jY w ok aa hp id y) (hb:kL σ x y):jY w cl aE ah j x:=by
 have g1:=(hs j id hj).1
 rcases h with ⟨h1,e,af,rfl⟩ | ⟨b,cur,t,h1,h2,h3⟩
 ·cases hb with
  | row _ _ xs _ hl _=>
    have:xs=[]:=List.eq_nil_of_length_eq_zero (by simpa using hl)
    subst this
    exact .inl ⟨g1.trans h1,e,af,rfl⟩
 ·refine .inr ⟨b,cur,t,g1.trans h1,h2,?_⟩
  cases hb with
  | var xs ys hb=>exact ⟨by rw [h3.1,hb.1],h3.2.back hro hs hb⟩
  | row e af xs ys hl hb=>
    obtain ⟨a1,a2,a3⟩:=h3
    refine ⟨fun x hx=>?_,by rw [hl];exact a2,fun i x hx=>?_⟩
    ·obtain ⟨i,hi,rfl⟩:=List.mem_iff_getElem.1 hx
     have hy:=List.getElem?_eq_getElem (l:=ys) (i:=i) (by omega)
     rw [(hb i _ _ (List.getElem?_eq_getElem hi) hy).1]
     exact a1 _ (List.getElem_mem _)
    ·have hlt:=(List.getElem?_eq_some_iff.1 hx).1
     have hy:=List.getElem?_eq_getElem (l:=ys) (i:=i) (by omega)
     exact (a3 i _ hy).back hro hs (hb i x _ hx hy)
end entry
inductive Fz (τ:Nat→Option Nat) (h:Hp):U→RV→Prop where
 | rv (r:RV):Fz τ h (.rv r) r
 | ptr (j:Nat) (cs:List U) (rs:List RV) (hj:τ j=none) (hh:h j=some (.var cs)) (hl:cs.length=rs.length) (h1:∀ (i:Nat) (r:RV),rs[i]?=some r→r.one=true) (hf:∀ (i:Nat) (x:U) (r:RV),cs[i]?=some x→rs[i]?=some r→Fz τ h x r):Fz τ h (.ptr j 0) (.rop rs)
 | row (j e af len:Nat) (xs:List (List U)) (rs:List (List RV)) (hj:τ j=none) (hh:h j=some (.row e af xs)) (hl:rs.length=len) (hx:len≤xs.length) (hm:∀ (i:Nat) (x:List U) (r:List RV),xs[i]?=some x→rs[i]?=some r→x.length=r.length)
    (h1:∀ (i:Nat) (r:List RV) (k:Nat) (q:RV),rs[i]?=some r→r[k]?=some q→q.one=true) (hf:∀ (i:Nat) (x:List U) (r:List RV) (k:Nat) (y:U) (q:RV),xs[i]?=some x→rs[i]?=some r→x[k]?=some y→r[k]?=some q→Fz τ h y q):Fz τ h (.row j af len) (.sl e rs)
 | win (j af off e len:Nat) (cs:List U) (rs:List (List RV)) (hj:τ j=none) (hh:h j=some (.var cs)) (hl:rs.length=len) (hx:off+len*e≤cs.length) (hm:∀ r∈rs,r.length=e)
    (h1:∀ (i:Nat) (r:List RV) (k:Nat) (q:RV),rs[i]?=some r→r[k]?=some q→q.one=true) (hf:∀ (i:Nat) (r:List RV) (k:Nat) (y:U) (q:RV),rs[i]?=some r→cs[off+(i*e+k)]?=some y→r[k]?=some q→Fz τ h y q):Fz τ h (.win j af off len) (.sl e rs)
 | agg (cs:List U) (rs:List RV) (hl:cs.length=rs.length) (h1:∀ (i:Nat) (r:RV),rs[i]?=some r→r.one=true) (hf:∀ (i:Nat) (x:U) (r:RV),cs[i]?=some x→rs[i]?=some r→Fz τ h x r):Fz τ h (.agg cs) (.agg rs)
 | fn (f:FuncId) (cs:List U) (rs:List RV) (hl:cs.length=rs.length) (hf:∀ (i:Nat) (x:U) (r:RV),cs[i]?=some x→rs[i]?=some r→Fz τ h x r):Fz τ h (.fn f cs) (.fn f rs)
 | bC (t:TypeId) (x:U) (r:RV) (hf:Fz τ h x r):Fz τ h (.bC t x) (.bC t r)
inductive Rn (τ:Nat→Option Nat) (h:Hp):U→U→Prop where
 | dead (x:U):Rn τ h x .dead
 | fz (x:U) (r:RV) (hf:Fz τ h x r):Rn τ h x (.rv r)
 | ptr (j id off:Nat) (hj:τ j=some id):Rn τ h (.ptr j off) (.ptr id off)
 | bE (j id af i off:Nat) (hj:τ j=some id):Rn τ h (.bE j af i off) (.bE id af i off)
 | row (j id af len:Nat) (hj:τ j=some id):Rn τ h (.row j af len) (.row id af len)
 | win (j id af off len:Nat) (hj:τ j=some id):Rn τ h (.win j af off len) (.win id af off len)
 | agg (xs ys:List U) (hl:xs.length=ys.length) (hf:∀ (i:Nat) (x y:U),xs[i]?=some x→ys[i]?=some y→Rn τ h x y):Rn τ h (.agg xs) (.agg ys)
 | aM (xs ys:List U) (hl:xs.length=ys.length) (hf:∀ (i:Nat) (x y:U),xs[i]?=some x→ys[i]?=some y→Rn τ h x y):Rn τ h (.aM xs) (.aM ys)
 | fn (f:FuncId) (xs ys:List U) (hl:xs.length=ys.length) (hf:∀ (i:Nat) (x y:U),xs[i]?=some x→ys[i]?=some y→Rn τ h x y):Rn τ h (.fn f xs) (.fn f ys)
 | bZ (f:FuncId) (xs ys:List U) (hl:xs.length=ys.length) (hf:∀ (i:Nat) (x y:U),xs[i]?=some x→ys[i]?=some y→Rn τ h x y):Rn τ h (.bZ f xs) (.bZ f ys)
 | bC (t:TypeId) (x y:U) (hf:Rn τ h x y):Rn τ h (.bC t x) (.bC t y)
def qi (τ:Nat→Option Nat) (h:Hp) (xs ys:List U):Prop:=xs.length=ys.length∧∀ (i:Nat) (x y:U),xs[i]?=some x→ys[i]?=some y→Rn τ h x y
inductive mV (τ:Nat→Option Nat) (h:Hp):HB→HB→Prop where
 | var (xs ys:List U) (hf:qi τ h xs ys):mV τ h (.var xs) (.var ys)
 | row (e af:Nat) (xs ys:List (List U)) (hl:xs.length=ys.length) (hf:∀ (i:Nat) (x y:List U),xs[i]?=some x→ys[i]?=some y→qi τ h x y):mV τ h (.row e af xs) (.row e af ys)
section leave
variable {w:World} {ok cl:Nat→Prop} {aa aE:Nat→Option Nat} {hp ah:Hp} {τ:Nat→Option Nat}
theorem Fz.ro (hro:∀ b,cl b→ok b) (hfz:∀ j b,τ j=none→(ah j).isSome=true→aE j=some b→ok b) (hmem:∀ j hb,ah j=some hb→jY w cl aE ah j hb) {x:U} {r:RV} {v:Value} (hr:Rp w cl aE ah x v) (hf:Fz τ ah x r):RO w ok r v:=by
 induction hf generalizing v with
 | rv r=>cases hr with | rv _ _ h=>exact h.mono fun b hb _=>⟨hro b hb,rfl⟩
 | ptr j cs rs hj hh hl ho hf ih=>
   cases hr with
   | ptr _ _ _ h1 h0 h=>
     obtain ⟨b,hb,rfl⟩:=h cs hh
     rcases hmem j _ hh with ⟨h1,_⟩ | ⟨b',cur,t,h1,h2,h3⟩
     ·rw [hb] at h1;cases h1
     ·rw [hb] at h1;cases h1
      have hcell:∀ (i:Nat) (r:RV),rs[i]?=some r→∃ u,w.cell? ((⟨b,0,none⟩:Addr).add i)=some u∧RO w ok r u∧r.one=true:=fun i r hi=>by
       have hlt:=(List.getElem?_eq_some_iff.1 hi).1
       have hx:=List.getElem?_eq_getElem (l:=cs) (i:=i) (by omega)
       obtain ⟨u,a1,a2,a3⟩:=h3.2 i _ hx
       refine ⟨u,?_,ih i _ r hx hi a3,ho i r hi⟩
       rw [add_lit,oL h2];exact a1
      refine .rop rs ⟨b,0,none⟩ (fun i=>(w.cell? ((⟨b,0,none⟩:Addr).add i)).getD undef) (fun i r hi=>?_) (fun i r hi=>?_) (fun i r hi=>?_)
      ·obtain ⟨u,a1,_⟩:=hcell i r hi
       exact ⟨hfz j b hj (by simp [hh]) hb,by rw [a1];rfl⟩
      ·obtain ⟨u,_,_,a3⟩:=hcell i r hi;exact a3
      ·obtain ⟨u,a1,a2,_⟩:=hcell i r hi;rw [a1];exact a2
 | row j e af len xs rs hj hh hl hx hm ho hf ih=>
   cases hr with
   | row _ _ _ _ h1 h0 hv h=>
     rcases h e xs hh with ⟨g1,rfl,g3⟩ | ⟨b,cap,cur,t,g1,rfl,g3,g4,g5,g6⟩
     ·have:rs=[]:=List.eq_nil_of_length_eq_zero (by omega)
      subst this
      exact .sl e [] none 0 (fun _ _=>undef) (fun _=>⟨rfl,rfl⟩) (by simp) (by simp [maxLen]) (by simp) (fun i x j y hx=>by simp at hx) (fun i x j y hx=>by simp at hx) (fun i x j y hx=>by simp at hx)
     ·rcases hmem j _ hh with ⟨h1,_⟩ | ⟨b',cur',t',k1,k2,k3⟩
      ·rw [g1] at h1;cases h1
      ·rw [g1] at k1;cases k1
       rw [g3] at k2;cases k2
       obtain ⟨a1,a2,a3⟩:=k3
       have hlen:∀ (i:Nat) (r:List RV),rs[i]?=some r→∃ x,xs[i]?=some x∧x.length=e∧x.length=r.length:=fun i r hi=>by
        have hlt:=(List.getElem?_eq_some_iff.1 hi).1
        have fm:=List.getElem?_eq_getElem (l:=xs) (i:=i) (by omega)
        exact ⟨_,fm,a1 _ (List.getElem_mem _),hm i _ r fm hi⟩
       have hcell:∀ (i:Nat) (r:List RV) (k:Nat) (q:RV),rs[i]?=some r→r[k]?=some q→∃ u,w.cell? ((⟨b,0,none⟩:Addr).add (i*e+k))=some u∧RO w ok q u∧q.one=true:=fun i r k q hi hk=>by
        obtain ⟨x,fm,pg,RC⟩:=hlen i r hi
        have hlt:=(List.getElem?_eq_some_iff.1 hk).1
        have hy:=List.getElem?_eq_getElem (l:=x) (i:=k) (by omega)
        obtain ⟨u,b1,b2,b3⟩:=a3 i x fm k _ hy
        refine ⟨u,?_,ih i x r k _ q fm hi hy hk b3,ho i r k q hi hk⟩
        rw [add_lit,oL g3,Nat.zero_add];exact b1
       rw [← hl]
       refine .sl e rs (some ⟨b,0,none⟩) cap (fun i k=>(w.cell? ((⟨b,0,none⟩:Addr).add (i*e+k))).getD undef) (fun h=>by cases h) (by omega) g5 (fun r hr=>?_) (fun i r k q hi hk=>?_) (fun i r k q hi hk=>?_) (fun i r k q hi hk=>?_)
       ·obtain ⟨i,hi,rfl⟩:=List.mem_iff_getElem.1 hr
        obtain ⟨x,_,b1,b2⟩:=hlen i _ (List.getElem?_eq_getElem hi)
        omega
       ·obtain ⟨u,b1,_⟩:=hcell i r k q hi hk
        exact ⟨_,rfl,hfz j b hj (by simp [hh]) g1,by rw [b1];rfl⟩
       ·obtain ⟨u,_,_,b3⟩:=hcell i r k q hi hk;exact b3
       ·obtain ⟨u,b1,b2,_⟩:=hcell i r k q hi hk;rw [b1];exact b2
 | win j af off e len cs rs hj hh hl hx hm ho hf ih=>
   cases hr with
   | win _ _ _ _ _ h1 h0 hv hr hc=>
     obtain ⟨ad,cap,rfl,g1,g2,g3,g4⟩:=hc cs hh
     rw [← hl]
     have key:∀ (i:Nat) (r:List RV) (k:Nat) (q:RV),rs[i]?=some r→r[k]?=some q→∃ a u,ad=some a∧ok a.block∧w.cell? (a.add (i*e+k))=some u∧RO w ok q u:=fun i r k q hi hk=>by
      have hlt:=(List.getElem?_eq_some_iff.1 hi).1
      have Ry:=hm r (List.mem_of_getElem? hi)
      have fE:=(List.getElem?_eq_some_iff.1 hk).1
      obtain ⟨b,hb,rfl⟩:=g4 (by omega)
      rcases hmem j _ hh with ⟨h1,_,_,h2⟩ | ⟨b',cur,t,a1,a2,a3⟩
      ·cases h2
      ·rw [hb] at a1;cases a1
       have hik:i*e+k<len*e:=by
        have:(i+1)*e≤len*e:=Nat.mul_le_mul_right _ (by omega)
        rw [Nat.add_mul] at this;omega
       have hy:=List.getElem?_eq_getElem (l:=cs) (i:=off+(i*e+k)) (by omega)
       obtain ⟨u,b1,b2,b3⟩:=a3.2 _ _ hy
       refine ⟨⟨b,off,none⟩,u,rfl,hfz j b hj (by simp [hh]) hb,?_,ih i r k _ q hi hy hk b3⟩
       rw [add_lit,oL a2];simpa using b1
     refine .sl e rs ad cap (fun i k=>match ad with | some a=>(w.cell? (a.add (i*e+k))).getD undef | none=>undef) (fun h=>?_) (by omega) g2 hm (fun i r k q hi hk=>?_) ho (fun i r k q hi hk=>?_)
     ·have:=g3 h;exact ⟨List.eq_nil_of_length_eq_zero (by omega),this⟩
     ·obtain ⟨a,u,rfl,b1,b2,b3⟩:=key i r k q hi hk
      exact ⟨a,rfl,b1,by simp only [b2];rfl⟩
     ·obtain ⟨a,u,rfl,b1,b2,b3⟩:=key i r k q hi hk
      simp only [b2];exact b3
 | agg cs rs hl ho hf ih=>
   cases hr with
   | agg _ vs hvl h1 hy=>
     refine .agg rs vs (by omega) (fun i r hi=>?_) (fun i r hi=>?_)
     ·have hlt:=(List.getElem?_eq_some_iff.1 hi).1
      exact ho i r hi
     ·have hlt:=(List.getElem?_eq_some_iff.1 hi).1
      have hx:=List.getElem?_eq_getElem (l:=cs) (i:=i) (by omega)
      exact ih i _ r hx hi (hy i _ hx)
 | fn f cs rs hl hf ih=>
   cases hr with
   | fn _ _ vs hvl hy=>
     refine .fn f rs vs (by omega) (fun i r hi=>?_)
     have hlt:=(List.getElem?_eq_some_iff.1 hi).1
     have hx:=List.getElem?_eq_getElem (l:=cs) (i:=i) (by omega)
     exact ih i _ r hx hi (hy i _ hx)
 | bC t x r hf ih=>cases hr with | bC _ _ v0 h0=>exact .bC t r v0 (ih h0)
theorem Rp.leave (hro:∀ b,cl b→ok b) (hfz:∀ j b,τ j=none→(ah j).isSome=true→aE j=some b→ok b) (hmem:∀ j hb,ah j=some hb→jY w cl aE ah j hb)
 (hs:∀ j id,τ j=some id→aE j=aa id∧((ah j).isSome=true→(hp id).isSome=true)∧(∀ cs,hp id=some (.var cs)→∃ cs',ah j=some (.var cs'))∧∀ e af xs,hp id=some (.row e af xs)→∃ xs',ah j=some (.row e af xs'))
 {x y:U} {v:Value} (hr:Rp w cl aE ah x v) (hf:Rn τ ah x y):Rp w ok aa hp y v:=by
 induction hf generalizing v with
 | dead x=>exact .dead v
 | fz x r hf=>exact .rv r v (Fz.ro hro hfz hmem hr hf)
 | ptr j id off hj=>
   obtain ⟨g1,g2,g3,g4⟩:=hs j id hj
   cases hr with
   | ptr _ _ _ h1 h0 h=>
     refine .ptr id off v h1 (g2 h0) (fun cs hc=>?_)
     obtain ⟨cs',lC⟩:=g3 cs hc
     rw [← g1];exact h cs' lC
 | bE j id af i off hj=>
   obtain ⟨g1,g2,g3,g4⟩:=hs j id hj
   cases hr with
   | bE _ _ _ _ _ h1 h0 hv h=>
     refine .bE id af i off v h1 (g2 h0) (fun e cF xs hx=>?_) (fun e xs hx=>?_)
     ·obtain ⟨xs',hx'⟩:=g4 e cF xs hx;exact hv e cF xs' hx'
     ·obtain ⟨xs',hx'⟩:=g4 e af xs hx;rw [← g1];exact h e xs' hx'
 | row j id af len hj=>
   obtain ⟨g1,g2,g3,g4⟩:=hs j id hj
   cases hr with
   | row _ _ _ _ h1 h0 hv h=>
     refine .row id af len v h1 (g2 h0) (fun e cF xs hx=>?_) (fun e xs hx=>?_)
     ·obtain ⟨xs',hx'⟩:=g4 e cF xs hx;exact hv e cF xs' hx'
     ·obtain ⟨xs',hx'⟩:=g4 e af xs hx;rw [← g1];exact h e xs' hx'
 | win j id af off len hj=>
   obtain ⟨g1,g2,g3,g4⟩:=hs j id hj
   cases hr with
   | win _ _ _ _ _ h1 h0 hv hr hc=>
     refine .win id af off len v h1 (g2 h0) (fun e cF xs hx=>?_) (fun e xs hx=>?_) (fun cs hx=>?_)
     ·obtain ⟨xs',hx'⟩:=g4 e cF xs hx;exact hv e cF xs' hx'
     ·obtain ⟨xs',hx'⟩:=g4 e af xs hx;rw [← g1];exact hr e xs' hx'
     ·obtain ⟨cs',hx'⟩:=g3 cs hx;rw [← g1];exact hc cs' hx'
 | agg xs ys hl h ih=>
   cases hr with
   | agg _ vs hvl h1 hy=>
     refine .agg ys vs (by omega) h1 (fun j y cL=>?_)
     have hlt:=(List.getElem?_eq_some_iff.1 cL).1
     have hx:=List.getElem?_eq_getElem (l:=xs) (i:=j) (by omega)
     exact ih j _ y hx cL (hy j _ hx)
 | aM xs ys hl h ih=>
   cases hr with
   | aM _ vs hvl hy=>
     refine .aM ys vs (by omega) (fun j y cL=>?_)
     have hlt:=(List.getElem?_eq_some_iff.1 cL).1
     have hx:=List.getElem?_eq_getElem (l:=xs) (i:=j) (by omega)
     exact ih j _ y hx cL (hy j _ hx)
 | fn f xs ys hl h ih=>
   cases hr with
   | fn _ _ vs hvl hy=>
     refine .fn f ys vs (by omega) (fun j y cL=>?_)
     have hlt:=(List.getElem?_eq_some_iff.1 cL).1
     have hx:=List.getElem?_eq_getElem (l:=xs) (i:=j) (by omega)
     exact ih j _ y hx cL (hy j _ hx)
 | bZ f xs ys hl h ih=>
   cases hr with
   | bZ _ _ vs hvl hy=>
     refine .bZ f ys vs (by omega) (fun j y cL=>?_)
     have hlt:=(List.getElem?_eq_some_iff.1 cL).1
     have hx:=List.getElem?_eq_getElem (l:=xs) (i:=j) (by omega)
     exact ih j _ y hx cL (hy j _ hx)
 | bC t x y h ih=>cases hr with | bC _ _ v0 h0=>exact .bC t y v0 (ih h0)
theorem cS.leave (hro:∀ b,cl b→ok b) (hfz:∀ j b,τ j=none→(ah j).isSome=true→aE j=some b→ok b) (hmem:∀ j hb,ah j=some hb→jY w cl aE ah j hb)
 (hs:∀ j id,τ j=some id→aE j=aa id∧((ah j).isSome=true→(hp id).isSome=true)∧(∀ cs,hp id=some (.var cs)→∃ cs',ah j=some (.var cs'))∧∀ e af xs,hp id=some (.row e af xs)→∃ xs',ah j=some (.row e af xs'))
 {cur:Array Value} {off:Nat} {xs ys:List U} (h:cS w cl aE ah cur off xs) (hb:qi τ ah xs ys):cS w ok aa hp cur off ys:=fun j y cL=>by
 obtain ⟨hl,hb⟩:=hb
 have hlt:=(List.getElem?_eq_some_iff.1 cL).1
 have hx:=List.getElem?_eq_getElem (l:=xs) (i:=j) (by omega)
 obtain ⟨v,h1,h2,h3⟩:=h j _ hx
 exact ⟨v,h1,h2,h3.leave hro hfz hmem hs (hb j _ y hx cL)⟩
theorem jY.leave (hro:∀ b,cl b→ok b) (hfz:∀ j b,τ j=none→(ah j).isSome=true→aE j=some b→ok b) (hmem:∀ j hb,ah j=some hb→jY w cl aE ah j hb)
 (hs:∀ j id,τ j=some id→aE j=aa id∧((ah j).isSome=true→(hp id).isSome=true)∧(∀ cs,hp id=some (.var cs)→∃ cs',ah j=some (.var cs'))∧∀ e af xs,hp id=some (.row e af xs)→∃ xs',ah j=some (.row e af xs'))
 {j id:Nat} (hj:τ j=some id) {x y:HB} (h:jY w cl aE ah j x) (hb:mV τ ah x y):jY w ok aa hp id y:=by
 have g1:=(hs j id hj).1
 rcases h with ⟨h1,e,af,rfl⟩ | ⟨b,cur,t,h1,h2,h3⟩
 ·cases hb with
  | row _ _ _ ys hl _=>
    have:ys=[]:=List.eq_nil_of_length_eq_zero (by simpa using hl.symm)
    subst this
    exact .inl ⟨g1.symm.trans h1,e,af,rfl⟩
 ·refine .inr ⟨b,cur,t,g1.symm.trans h1,h2,?_⟩
  cases hb with
  | var xs ys hb=>exact ⟨h3.1.trans hb.1,h3.2.leave hro hfz hmem hs hb⟩
  | row e af xs ys hl hb=>
    obtain ⟨a1,a2,a3⟩:=h3
    refine ⟨fun y hy=>?_,by rw [← hl];exact a2,fun i y hy=>?_⟩
    ·obtain ⟨i,hi,rfl⟩:=List.mem_iff_getElem.1 hy
     have hx:=List.getElem?_eq_getElem (l:=xs) (i:=i) (by omega)
     rw [← (hb i _ _ hx (List.getElem?_eq_getElem hi)).1]
     exact a1 _ (List.getElem_mem _)
    ·have hlt:=(List.getElem?_eq_some_iff.1 hy).1
     have hx:=List.getElem?_eq_getElem (l:=xs) (i:=i) (by omega)
     exact (a3 i _ hx).leave hro hfz hmem hs (hb i _ y hx hy)
end leave
end Go.aI

namespace Go.aI
open Go
inductive RR where
 | t (n:Nat)
 | c (a n:Nat) (agg:Bool)
 deriving DecidableEq
def oN (P:Program):List ResultVar→Option (List RR)
 | []=>some []
 | .tmp t::r=>match oN P r with
   | some l=>some (.t t::l)
   | none=>none
 | .cell a t::r=>match bH P t,bW P t,oN P r with
   | some n,some agg,some l=>some (.c a n agg::l)
   | _,_,_=>none
def bw (en:Nat→U) (hp:Hp):List RR→Option (Prop×List U)
 | []=>some (True,[])
 | .t n::r=>match bw en hp r with
   | some (p,xs)=>some (p,en n::xs)
   | none=>none
 | .c a n agg::r=>match dQ n agg hp (en a),bw en hp r with
   | some (q,x,_,_),some (p,xs)=>some (q∧p,x::xs)
   | _,_=>none
def bN:List U→U
 | [x]=>x
 | xs=>.aM xs
def lK:Nat→List U→List (Nat×U)
 | _,[]=>[]
 | n,x::r=>(n,x)::lK (n+1) r
theorem DM:∀ (xs:List U) (n m:Nat),lk (lK n xs) m=if n≤m then (xs[m - n]?).getD .dead else .dead
 | [],n,m=>by simp [lK,lk]
 | x::r,n,m=>by
   unfold lK lk
   by_cases h:n=m
   ·subst h;simp
   ·rw [if_neg h,DM r (n+1) m]
    by_cases h1:n+1≤m
    ·rw [if_pos h1,if_pos (by omega)]
     rw [show m - n=(m - (n+1))+1 by omega,List.getElem?_cons_succ]
    ·rw [if_neg h1,if_neg (by omega)]
structure Fin (σ:List Nat) (pre us:List (Nat×HB)) (rs:List RR) (sv:U) (env:List (Nat×U)) (h:List (Option HB)) (τ:Nat→Option Nat):Prop where
 inj:∀ i j id,τ i=some id→τ j=some id→i=j
 old:∀ (j id:Nat),σ[j]?=some id→τ j=some id
 new:∀ j id,τ j=some id→σ.length≤j→id∈us.map (·.1)∧∀ q∈pre,q.1≠id
 has:∀ j id,τ j=some id→∃ hb hb',ag h j=some hb∧mV τ (ag h) hb hb'∧∀ hp,aW hp pre→bz hp us id=some hb'
 all:∀ q∈us,∃ j,τ j=some q.1
 res:∃ p xs,bw (lk env) (ag h) rs=some (p,xs)∧p∧Rn τ (ag h) (bN xs) sv
theorem xQ {hp:Hp}:∀ {us:List (Nat×HB)} {id:Nat},id∉us.map (·.1)→bz hp us id=hp id
 | us,id,h=>rj (fun q hq he=>h (List.mem_map.2 ⟨q,hq,he⟩))
def Aq (vs:List Value):Value:=match vs with
 | [v]=>v
 | vs=>.tuple vs.toArray
theorem OQ {w:World} {ok:Nat→Prop} {aa:Nat→Option Nat} {hp:Hp} {xs:List U} {vs:List Value} (hl:vs.length=xs.length) (h:∀ (j:Nat) (x:U),xs[j]?=some x→Rp w ok aa hp x (vs.getD j undef)):Rp w ok aa hp (bN xs) (Aq vs):=by
 match xs,vs with
 | [],[]=>exact .aM [] [] rfl h
 | [x],[v]=>exact h 0 x rfl
 | x::y::r,u::v::s=>exact .aM _ _ hl h
theorem NA {P:Program} {t:TypeId} {v x:Value} {w w':World} (h:(Instr.loadAt t v).run P w = .ok x w'):(do loadVar t (← asAddr v):Sem Value).run P w = .ok x w':=by
 cases v with
 | pointer a=>
   cases a with
   | some a=>exact h
   | none=>simp [Instr.loadAt,Instr.sureAddr,stuck,Result.andThen] at h
 | _=>simp [Instr.loadAt,Instr.sureAddr,stuck,Result.andThen] at h
theorem OZ {P:Program} {C:Ctx} {hp:Hp} {w:World} {aa:Nat→Option Nat} (R:bL C hp w aa) {en:Nat→U} {tmps:Array Value} (he:∀ n,Rp w (aD C aa hp) aa hp (en n) (tmps.getD n undef)) {fn:Func} {rs:List RR} (h:oN P fn.results.toList=some rs) {p:Prop} {xs:List U} (hr:bw en hp rs=some (p,xs)) (ah:p) :
 ∃ vs,(results fn tmps).run P w = .ok (Aq vs) w∧Rp w (aD C aa hp) aa hp (bN xs) (Aq vs):=by
 have key:∀ (l:List ResultVar) (rs:List RR) (p:Prop) (xs:List U),oN P l=some rs→bw en hp rs=some (p,xs)→p→∃ vs,vs.length=xs.length∧(∀ (j:Nat) (x:U),xs[j]?=some x→Rp w (aD C aa hp) aa hp x (vs.getD j undef))∧(l.mapM fun r=>(match r with
  | .tmp t=>pure (tmps.getD t undef)
  | .cell a t=>do loadVar t (← asAddr (tmps.getD a undef)):Sem Value)).run P w = .ok vs w:=by
  intro l
  induction l with
  | nil=>intro rs p xs h hr hp;cases h;cases hr;exact ⟨[],rfl,fun j x hx=>by simp at hx,rfl⟩
  | cons x r ih=>
    intro rs p xs h hr hp
    cases x with
    | tmp t=>
      unfold oN at h
      split at h
      ·rename_i l hl
       cases h
       unfold bw at hr
       split at hr
       ·rename_i p0 cX zu
        cases hr
        obtain ⟨vs,h1,h2,h3⟩:=ih l p cX hl zu hp
        refine ⟨tmps.getD t undef::vs,by simp [h1],fun j x hx=>?_,?_⟩
        ·cases j with
         | zero=>simp at hx;subst hx;exact he t
         | succ j=>exact h2 j x (by simpa using hx)
        ·simp only [List.mapM_cons,Sem.run_bind,Sem.run_pure,h3,Result.andThen]
       ·cases hr
      ·cases h
    | cell a t=>
      unfold oN at h
      split at h
      ·rename_i n agg l hs ha hl
       cases h
       unfold bw at hr
       split at hr
       ·rename_i q x u rd p0 cX hE zu
        cases hr
        obtain ⟨vs,h1,h2,h3⟩:=ih l p0 cX hl zu hp.2
        obtain ⟨_,y,hy1,Kv⟩:=zU R hs ha (he a) hE hp.1
        refine ⟨y::vs,by simp [h1],fun j x hx=>?_,?_⟩
        ·cases j with
         | zero=>simp at hx;subst hx;exact Kv
         | succ j=>exact h2 j x (by simpa using hx)
        ·have:=NA hy1
         rw [List.mapM_cons,Sem.run_bind]
         refine (congrArg (fun r=>Result.andThen r _) this).trans ?_
         simp only [Result.andThen,Sem.run_bind,h3,Sem.run_pure]
       ·cases hr
      ·cases h
 obtain ⟨vs,h1,h2,h3⟩:=key _ _ _ _ h hr ah
 have hm:(fn.results.mapM fun r=>(match r with
  | .tmp t=>pure (tmps.getD t undef)
  | .cell a t=>do loadVar t (← asAddr (tmps.getD a undef)):Sem Value)).run P w = .ok vs.toArray w:=by
  rw [Array.mapM_eq_mapM_toList,Sem.run_map,h3]
  rfl
 refine ⟨vs,?_,OQ h1 h2⟩
 unfold results
 rw [Sem.run_bind]
 refine (congrArg (fun r=>Result.andThen r _) hm).trans ?_
 show (pure _:Sem Value).run P w=_
 rw [Sem.run_pure]
 match vs with
 | []=>rfl
 | [t]=>rfl
 | t::u::r=>rfl
section
variable {P:Program} {C:Ctx} {hp:Hp} {w:World} {aa:Nat→Option Nat}
def inner (C:Ctx) (aa:Nat→Option Nat) (hp:Hp) (w:World) (N:Nat) (σ:List Nat) (hs0:List (Option HB)):Ctx:=
 ⟨w,aD C aa hp,fun b=>∃ (j:Nat) (id:Nat),σ[j]?=some id∧aa id=some b,N,fun j=>(σ[j]?).bind aa,ag hs0⟩
theorem oW {hs:List (Option HB)} {j:Nat} {hb:HB}:ag hs j=some hb↔hs[j]?=some (some hb):=by
 unfold ag
 cases h:hs[j]? with
 | none=>simp
 | some x=>simp
theorem HF (R:bL C hp w aa) {N:Nat} {σ:List Nat} {hs0:List (Option HB)} {pre:List (Nat×HB)} (hpre:aW hp pre) (hl:hs0.length=σ.length) (hinj:∀ (i j id:Nat),σ[i]?=some id→σ[j]?=some id→i=j)
 (mw:∀ (j id:Nat),σ[j]?=some id→∃ hb hb',hs0[j]?=some (some hb)∧(id,hb')∈pre∧kL (fun j=>σ[j]?) hb hb') :
 bL (inner C aa hp w N σ hs0) (ag hs0) w (fun j=>(σ[j]?).bind aa)∧(∀ b,aD C aa hp b→aD (inner C aa hp w N σ hs0) (fun j=>(σ[j]?).bind aa) (ag hs0) b)∧
 (∀ {x y:U} {v:Value},Rp w (aD C aa hp) aa hp y v→Bk (fun j=>σ[j]?) x y→Rp w (aD (inner C aa hp w N σ hs0) (fun j=>(σ[j]?).bind aa) (ag hs0)) (fun j=>(σ[j]?).bind aa) (ag hs0) x v):=by
 have at_:∀ j hb,ag hs0 j=some hb→∃ id hb',σ[j]?=some id∧hp id=some hb'∧kL (fun j=>σ[j]?) hb hb':=fun j hb h=>by
  rw [oW] at h
  have hlt:=(List.getElem?_eq_some_iff.1 h).1
  have hid:=List.getElem?_eq_getElem (l:=σ) (i:=j) (by omega)
  obtain ⟨hb0,hb',h1,h2,h3⟩:=mw j _ hid
  rw [h] at h1;cases h1
  exact ⟨_,hb',hid,hpre _ h2,h3⟩
 have hro:∀ b,aD C aa hp b→aD (inner C aa hp w N σ hs0) (fun j=>(σ[j]?).bind aa) (ag hs0) b:=fun b hb=>by
  refine ⟨.inl hb,fun j hj=>?_⟩
  obtain ⟨x,hx⟩:=Option.isSome_iff_exists.1 hj
  obtain ⟨id,hb',h1,h2,h3⟩:=at_ j x hx
  simp only [h1,Option.bind_some]
  exact hb.2 id (by simp [h2])
 have hs:∀ (j id:Nat),σ[j]?=some id→(σ[j]?).bind aa=aa id∧((hp id).isSome=true→(ag hs0 j).isSome=true)∧(∀ cs,ag hs0 j=some (.var cs)→∃ cs',hp id=some (.var cs'))∧∀ e af xs,ag hs0 j=some (.row e af xs)→∃ xs',hp id=some (.row e af xs'):=fun j id h=>by
  obtain ⟨hb0,hb',h1,h2,h3⟩:=mw j id h
  refine ⟨by rw [h];rfl,fun _=>by rw [oW.2 h1];rfl,fun cs hc=>?_,fun e af xs hc=>?_⟩
  ·rw [oW.2 h1] at hc;cases hc
   cases h3 with
   | var _ ys _=>exact ⟨ys,hpre _ h2⟩
  ·rw [oW.2 h1] at hc;cases hc
   cases h3 with
   | row _ _ _ ys _ _=>exact ⟨ys,hpre _ h2⟩
 refine ⟨⟨fun j hb h=>?_,fun i j b h1 h2 h3 h4=>?_,fun j b h1 h2=>?_,⟨rfl,rfl,rfl,Nat.le_refl _,fun b _ _=>rfl⟩,fun j hb hb0 h1 h2=>?_⟩,hro,fun hr hb=>hr.back hro hs hb⟩
 ·obtain ⟨id,hb',h1,h2,h3⟩:=at_ j hb h
  exact (R.heap id hb' h2).back hro hs h1 h3
 ·obtain ⟨x,hx⟩:=Option.isSome_iff_exists.1 h1
  obtain ⟨y,hy⟩:=Option.isSome_iff_exists.1 h2
  obtain ⟨id,_,a1,a2,_⟩:=at_ i x hx
  obtain ⟨id',_,b1,b2,_⟩:=at_ j y hy
  simp only [a1,b1,Option.bind_some] at h3 h4
  obtain rfl:=R.inj id id' b (by simp [a2]) (by simp [b2]) h3 h4
  exact hinj i j id a1 b1
 ·obtain ⟨x,hx⟩:=Option.isSome_iff_exists.1 h1
  obtain ⟨id,_,a1,a2,_⟩:=at_ j x hx
  simp only [a1,Option.bind_some] at h2
  exact ⟨.inl ⟨h1,by simp only [inner,a1,Option.bind_some];exact h2,j,id,a1,h2⟩,(R.own id b (by simp [a2]) h2).2⟩
 ·have nZ:ag hs0 j=some hb0:=h2
  rw [h1] at nZ;cases nZ
  exact eD.refl _ _ _
theorem MY (R:bL C hp w aa) {N:Nat} {σ:List Nat} {hs0:List (Option HB)} {pre us:List (Nat×HB)} (hpre:aW hp pre) (hnew:qh C hp pre us)
 (mw:∀ (j id:Nat),σ[j]?=some id→∃ hb hb',hs0[j]?=some (some hb)∧(id,hb')∈pre∧kL (fun j=>σ[j]?) hb hb')
 {w':World} {aE:Nat→Option Nat} {h:List (Option HB)} (R':bL (inner C aa hp w N σ hs0) (ag h) w' aE) {rs:List RR} {sv:U} {env:List (Nat×U)} {τ:Nat→Option Nat} (F:Fin σ pre us rs sv env h τ) :
 ∃ cP,Step C hp (bz hp us) w w' aa cP∧∀ (x y:U) (v:Value),Rp w' (aD (inner C aa hp w N σ hs0) aE (ag h)) aE (ag h) x v→Rn τ (ag h) x y→Rp w' (aD C cP (bz hp us)) cP (bz hp us) y v:=by
 classical
 let cP:Nat→Option Nat:=fun id=>if h:∃ j,τ j=some id then aE h.choose else aa id
 have rT:∀ j id,τ j=some id→cP id=aE j:=fun j id hj=>by
  have hex:∃ j,τ j=some id:=⟨j,hj⟩
  show (if h:∃ j,τ j=some id then aE h.choose else aa id)=_
  rw [dif_pos hex,F.inj _ _ _ hex.choose_spec hj]
 have rN:∀ id,(¬ ∃ j,τ j=some id)→cP id=aa id:=fun id hj=>by
  show (if h:∃ j,τ j=some id then aE h.choose else aa id)=_
  rw [dif_neg hj]
 have hT:∀ j id,τ j=some id→∃ hb hb',ag h j=some hb∧mV τ (ag h) hb hb'∧bz hp us id=some hb':=fun j id hj=>by
  obtain ⟨hb,hb',h1,h2,h3⟩:=F.has j id hj
  exact ⟨hb,hb',h1,h2,h3 hp hpre⟩
 have hN:∀ id,(¬ ∃ j,τ j=some id)→bz hp us id=hp id:=fun id hj=>rj (fun q hq he=>hj (by rw [← he];exact F.all q hq))
 have hold:∀ j id,τ j=some id→(hp id).isSome=true→σ[j]?=some id:=fun j id hj hs=>by
  by_cases hlt:j<σ.length
  ·have hid:=List.getElem?_eq_getElem hlt
   have:=F.old j _ hid
   rw [hj] at this;cases this
   exact hid
  ·obtain ⟨hu,hq⟩:=F.new j id hj (by omega)
   obtain ⟨q,gh,eW⟩:=List.mem_map.1 hu
   rcases hnew q gh with ⟨hb,hm⟩ | ⟨hn,_⟩
   ·exact absurd eW (hq (q.1,hb) hm)
   ·rw [eW] at hn;rw [hn] at hs;cases hs
 have hnone:∀ j id,τ j=some id→hp id=none→C.h0 id=none:=fun j id hj hn=>by
  by_cases hlt:j<σ.length
  ·have hid:=List.getElem?_eq_getElem hlt
   have:=F.old j _ hid
   rw [hj] at this;cases this
   obtain ⟨hb,hb',_,h2,_⟩:=mw j _ hid
   rw [hpre _ h2] at hn;cases hn
  ·obtain ⟨hu,hq⟩:=F.new j id hj (by omega)
   obtain ⟨q,gh,eW⟩:=List.mem_map.1 hu
   rcases hnew q gh with ⟨hb,hm⟩ | ⟨_,hn⟩
   ·exact absurd eW (hq (q.1,hb) hm)
   ·rw [← eW];exact hn
 have hsz:w.heap.size≤w'.heap.size:=R'.fr.size
 have dD:∀ b,b<w.heap.size→(∀ j id,σ[j]?=some id→aa id≠some b)→w'.heap[b]?=w.heap[b]?:=fun b hb hn=>R'.fr.block b hb (fun ⟨j,id,h1,h2⟩=>hn j id h1 h2)
 have hin:∀ (j id:Nat),σ[j]?=some id→(hp id).isSome=true:=fun j id hj=>by
  obtain ⟨hb,hb',_,h2,_⟩:=mw j id hj
  rw [hpre _ h2];rfl
 have tN:∀ j id,τ j=some id→(ag h j).isSome=true:=fun j id hj=>by
  obtain ⟨hb,_,h1,_⟩:=hT j id hj
  rw [h1];rfl
 have xk:∀ j id b,τ j=some id→aE j=some b→((σ[j]?=some id∧aa id=some b)∨w.heap.size≤b)∧b<w'.heap.size:=fun j id b hj hb=>by
  obtain ⟨h1,h2⟩:=R'.own j b (tN j id hj) hb
  refine ⟨?_,h2⟩
  rcases h1 with ⟨a1,a2,_⟩ | a
  ·left
   have qj:(σ[j]?).bind aa=some b:=a2
   cases hid:σ[j]? with
   | none=>rw [hid] at qj;cases qj
   | some id'=>
     rw [hid] at qj
     have:=F.old j id' hid
     rw [hj] at this;cases this
     exact ⟨rfl,qj⟩
  ·exact .inr a
 have uE:∀ b,aD (inner C aa hp w N σ hs0) aE (ag h) b→aD C cP (bz hp us) b:=fun b hb=>by
  obtain ⟨h1,h2⟩:=hb
  have hb0:C.uD b∨C.w0.heap.size≤b:=by
   rcases h1 with a | a
   ·exact a.1
   ·exact .inr (Nat.le_trans R.fr.size a)
  refine ⟨hb0,fun id hid he=>?_⟩
  by_cases hr:∃ j,τ j=some id
  ·obtain ⟨j,hj⟩:=hr
   rw [rT j id hj] at he
   exact h2 j (tN j id hj) he
  ·rw [hN id hr] at hid
   rw [rN id hr] at he
   rcases h1 with a | a
   ·exact a.2 id hid he
   ·have:=(R.own id b hid he).2
    have a':w.heap.size≤b:=a
    omega
 have uF:∀ j b,τ j=none→(ag h j).isSome=true→aE j=some b→aD C cP (bz hp us) b:=fun j b hj hs hb=>by
  have hbw:w.heap.size≤b:=by
   rcases (R'.own j b hs hb).1 with ⟨a1,a2,_⟩ | a
   ·have qj:(σ[j]?).bind aa=some b:=a2
    cases hid:σ[j]? with
    | none=>rw [hid] at qj;cases qj
    | some id'=>rw [F.old j id' hid] at hj;cases hj
   ·exact a
  refine ⟨.inr (Nat.le_trans R.fr.size hbw),fun id hid he=>?_⟩
  by_cases hr:∃ j,τ j=some id
  ·obtain ⟨i,hi⟩:=hr
   rw [rT i id hi] at he
   have:=R'.inj i j b (tN i id hi) hs he hb
   subst this
   rw [hi] at hj;cases hj
  ·rw [hN id hr] at hid
   rw [rN id hr] at he
   have:=(R.own id b hid he).2
   omega
 have hs:∀ j id,τ j=some id→aE j=cP id∧((ag h j).isSome=true→(bz hp us id).isSome=true)∧(∀ cs,bz hp us id=some (.var cs)→∃ cs',ag h j=some (.var cs'))∧∀ e af xs,bz hp us id=some (.row e af xs)→∃ xs',ag h j=some (.row e af xs'):=fun j id hj=>by
  obtain ⟨hb,hb',h1,h2,h3⟩:=hT j id hj
  refine ⟨(rT j id hj).symm,fun _=>by rw [h3];rfl,fun cs hc=>?_,fun e af xs hc=>?_⟩
  ·rw [h3] at hc;cases hc
   cases h2 with
   | var xs _ _=>exact ⟨xs,h1⟩
  ·rw [h3] at hc;cases hc
   cases h2 with
   | row _ _ xs _ _ _=>exact ⟨xs,h1⟩
 have qO:∀ b,aD C aa hp b→b<w.heap.size→aD C cP (bz hp us) b∧w'.heap[b]?=w.heap[b]?:=fun b hb hlt=>by
  refine ⟨⟨hb.1,fun id hid he=>?_⟩,dD b hlt (fun j id hj he=>hb.2 id (hin j id hj) he)⟩
  by_cases hr:∃ j,τ j=some id
  ·obtain ⟨j,hj⟩:=hr
   rw [rT j id hj] at he
   rcases (xk j id b hj he).1 with ⟨a1,a2⟩ | a
   ·exact hb.2 id (hin j id a1) a2
   ·omega
  ·rw [hN id hr] at hid
   rw [rN id hr] at he
   exact hb.2 id hid he
 have BO:∀ id hb,hp id=some hb→∃ hb',bz hp us id=some hb'∧eD w w' (aa id) (cP id) hb hb':=fun id hb hq=>by
  by_cases hr:∃ j,τ j=some id
  ·obtain ⟨j,hj⟩:=hr
   obtain ⟨wk,hb',h1,h2,h3⟩:=hT j id hj
   refine ⟨hb',h3,?_⟩
   have hid:=hold j id hj (by rw [hq];rfl)
   obtain ⟨hb0,Rs,g1,g2,g3⟩:=mw j id hid
   have:=hpre _ g2
   rw [hq] at this;cases this
   have ev:=R'.eS j wk hb0 h1 (oW.2 g1)
   have ev':eD w w' (aa id) (aE j) hb0 wk:=by
    have e:(inner C aa hp w N σ hs0).As j=aa id:=by show (σ[j]?).bind aa=_;rw [hid];rfl
    rw [e] at ev;exact ev
   rw [rT j id hj]
   cases g3 with
   | var xs ys hb=>
     cases h2 with
     | var sR Rb hf=>exact ev'
     | row=>exact ev'.elim
   | row e af xs ys hl hb=>
     cases h2 with
     | var=>exact ev'.elim
     | row e2 xR sR Rb wC hf=>exact ev'
  ·refine ⟨hb,by rw [hN id hr];exact hq,?_⟩
   rw [rN id hr]
   cases hb with
   | var cs=>rfl
   | row e af xs=>
     refine ⟨Nat.le_refl _,fun _=>⟨rfl,rfl,fun b hb cur t hc=>⟨cur,t,?_,rfl⟩⟩⟩
     rw [dD b ((R.own id b (by rw [hq];rfl) hb).2) (fun j id' hj he=>?_)];exact hc
     obtain rfl:=R.inj id id' b (by rw [hq];rfl) (hin j id' hj) hb he
     exact hr ⟨j,F.old j id hj⟩
 have E:ek w w' (aD C aa hp) (aD C cP (bz hp us)) aa cP hp (bz hp us):=ek.of qO BO
 refine ⟨cP,⟨⟨fun id hb hq=>?_,fun i j b h1 h2 h3 h4=>?_,fun id b h1 h2=>?_,⟨R'.fr.os.trans R.fr.os,R'.fr.tape.trans R.fr.tape,R'.fr.output.trans R.fr.output,Nat.le_trans R.fr.size hsz,fun b h1 h2=>?_⟩,fun id hb hb0 h1 h2=>?_⟩,E⟩,fun x y v hr hf=>hr.leave uE uF (fun j hb hj=>R'.heap j hb hj) hs hf⟩
 ·by_cases hr:∃ j,τ j=some id
  ·obtain ⟨j,hj⟩:=hr
   obtain ⟨wk,hb',h1,h2,h3⟩:=hT j id hj
   rw [hq] at h3;cases h3
   exact (R'.heap j wk h1).leave uE uF (fun j hb hj=>R'.heap j hb hj) hs hj h2
  ·rw [hN id hr] at hq
   rcases R.heap id hb hq with ⟨a1,a2⟩ | ⟨b,cur,t,a1,a2,a3⟩
   ·exact .inl ⟨(rN id hr).trans a1,a2⟩
   ·refine .inr ⟨b,cur,t,(rN id hr).trans a1,?_,a3.mono E⟩
    rw [dD b ((R.own id b (by rw [hq];rfl) a1).2) (fun j id' hj he=>?_)];exact a2
    obtain rfl:=R.inj id id' b (by rw [hq];rfl) (hin j id' hj) a1 he
    exact hr ⟨j,F.old j id hj⟩
 ·by_cases hi:∃ k,τ k=some i <;> by_cases hj:∃ k,τ k=some j
  ·obtain ⟨k,hk⟩:=hi
   obtain ⟨l,hl⟩:=hj
   rw [rT k i hk] at h3
   rw [rT l j hl] at h4
   have:=R'.inj k l b (tN k i hk) (tN l j hl) h3 h4
   subst this
   rw [hk] at hl;cases hl;rfl
  ·obtain ⟨k,hk⟩:=hi
   rw [rT k i hk] at h3
   rw [rN j hj] at h4
   rw [hN j hj] at h2
   rcases (xk k i b hk h3).1 with ⟨a1,a2⟩ | a
   ·exact R.inj i j b (hin k i a1) h2 a2 h4
   ·have:=(R.own j b h2 h4).2;omega
  ·obtain ⟨k,hk⟩:=hj
   rw [rT k j hk] at h4
   rw [rN i hi] at h3
   rw [hN i hi] at h1
   rcases (xk k j b hk h4).1 with ⟨a1,a2⟩ | a
   ·exact R.inj i j b h1 (hin k j a1) h3 a2
   ·have:=(R.own i b h1 h3).2;omega
  ·rw [rN i hi] at h3;rw [hN i hi] at h1
   rw [rN j hj] at h4;rw [hN j hj] at h2
   exact R.inj i j b h1 h2 h3 h4
 ·by_cases hr:∃ j,τ j=some id
  ·obtain ⟨j,hj⟩:=hr
   rw [rT j id hj] at h2
   obtain ⟨a,a'⟩:=xk j id b hj h2
   refine ⟨?_,a'⟩
   rcases a with ⟨a1,a2⟩ | a
   ·exact (R.own id b (hin j id a1) a2).1
   ·exact .inr (Nat.le_trans R.fr.size a)
  ·rw [hN id hr] at h1
   rw [rN id hr] at h2
   obtain ⟨a,a'⟩:=R.own id b h1 h2
   exact ⟨a,by omega⟩
 ·rw [dD b (by have:=R.fr.size;omega) (fun j id hj he=>?_)]
  ·exact R.fr.block b h1 h2
  ·rcases (R.own id b (hin j id hj) he).1 with a | a
   ·exact h2 a.2.2
   ·omega
 ·by_cases hq:∃ mh,hp id=some mh
  ·obtain ⟨mh,hq⟩:=hq
   obtain ⟨hb',a1,a2⟩:=BO id mh hq
   rw [h1] at a1;cases a1
   exact (R.eS id mh hb0 hq h2).trans a2
  ·have hn:hp id=none:=by cases eW:hp id with
    | none=>rfl
    | some x=>exact absurd ⟨x,eW⟩ hq
   by_cases hr:∃ j,τ j=some id
   ·obtain ⟨j,hj⟩:=hr
    rw [hnone j id hj hn] at h2;cases h2
   ·rw [hN id hr,hn] at h1;cases h1
end
structure aV (P:Program) (f:FuncId) (N:Nat) (ac:AC) (rs:List RR):Prop where
 call:tc P f=true
 ex:∃ fn c,P.funcs[f]?=some fn∧fn.body=some c∧fn.ntmps=N∧comp P N c=some ac∧oN P fn.results.toList=some rs
def vW (P:Program) (f:FuncId) (N:Nat) (rs:List RR):Option AC:=match P.funcs[f]? with
 | some fn=>if tc P f && fn.ntmps == N then match fn.body,oN P fn.results.toList with
   | some c,some rs'=>if rs'=rs then comp P N c else none
   | _,_=>none
   else none
 | none=>none
theorem BZ {P:Program} {f:FuncId} {N:Nat} {ac:AC} {rs:List RR} (h:vW P f N rs=some ac):aV P f N ac rs:=by
 unfold vW at h
 split at h
 ·rename_i fn hf
  split at h
  ·rename_i hc
   simp only [Bool.and_eq_true,beq_iff_eq] at hc
   split at h
   ·rename_i c rs' hb hr
    split at h
    ·rename_i he;subst he
     exact ⟨hc.1,fn,c,hf,hb,hc.2,h,hr⟩
    ·cases h
   ·cases h
  ·cases h
 ·cases h
theorem vt {P:Program} {f:FuncId} {N:Nat} {ac:AC} {rs:List RR} (H:aV P f N ac rs) {args:List U} {pre us:List (Nat×HB)} {sv:U} (σ:List Nat) (hs0:List (Option HB)) (eG:List U)
 (hargs:args.length≤N) (hA:qe (fun j=>σ[j]?) eG args) (hl:hs0.length=σ.length) (hinj:∀ (i j id:Nat),σ[i]?=some id→σ[j]?=some id→i=j)
 (mw:∀ (j id:Nat),σ[j]?=some id→∃ hb hb',hs0[j]?=some (some hb)∧(id,hb')∈pre∧kL (fun j=>σ[j]?) hb hb')
 (hrun:∀ K:Ex→St→Prop,(∀ env h env' h' τ,cI σ.length ⟨env,h⟩ ⟨env',h'⟩→Fin σ pre us rs sv env' h' τ→K .normal ⟨env,h⟩∧K .ret ⟨env,h⟩)→G P σ.length [.c ac] K (lK 0 eG) hs0):aK P f args pre us sv:=by
 obtain ⟨Ju,fn,c,hf,hb,hN,hc,hr⟩:=H
 subst hN
 refine ⟨Ju,fun C hp w aa vs hpre hnew R hvl hvs=>?_⟩
 obtain ⟨R0,hro,Jt⟩:=HF R (N:=fn.ntmps) hpre hl hinj mw
 refine calls_of_wp hf hb ?_
 have hG:=hrun (fun e s=>(∀ id,e≠.exit id)∧∃ s' τ,cI σ.length s s'∧Fin σ pre us rs sv s'.env s'.h τ) (fun env h env' h' τ hE hF=>⟨⟨by simp,⟨env',h'⟩,τ,hE,hF⟩,⟨by simp,⟨env',h'⟩,τ,hE,hF⟩⟩)
 have R1:eF (inner C aa hp w fn.ntmps σ hs0) σ.length ⟨lK 0 eG,hs0⟩ { tmps:=vs.toArray++Array.replicate (fn.ntmps - vs.toArray.size) undef,defers:=[] } w:=by
  refine ⟨⟨_,R0,fun n=>?_,?_,rfl⟩,by rw [← hl];exact Nat.le_refl _,fun id hid=>?_⟩
  ·show Rp _ _ _ _ (lk (lK 0 eG) n) _
   rw [DM,if_pos (Nat.zero_le _),Nat.sub_zero]
   cases hx:eG[n]? with
   | none=>exact .dead _
   | some x=>
     have hlt:=(List.getElem?_eq_some_iff.1 hx).1
     have hy:=List.getElem?_eq_getElem (l:=args) (i:=n) (by have:=hA.1;omega)
     have hv:=Jt (hvs n _ hy) (hA.2 n x _ hx hy)
     have:(vs.toArray++Array.replicate (fn.ntmps - vs.toArray.size) undef).getD n undef=vs.getD n undef:=by
      have hn:n<vs.length:=by have:=hA.1;omega
      simp [Array.getD_eq_getD_getElem?,List.getD_eq_getElem?_getD,Array.getElem?_append,hn]
     rw [this];exact hv
  ·show (vs.toArray++Array.replicate (fn.ntmps - vs.toArray.size) undef).size=fn.ntmps
   simp;omega
  ·show ag hs0 id=none
   unfold ag
   rw [List.getElem?_eq_none (by omega)]
 refine QX c ac _ _ _ _ _ hc hG R1 (fun e s a w' hk RS=>?_)
 obtain ⟨hne,s',τ,hE,F⟩:=hk
 obtain ⟨⟨aE,RF⟩,_,_⟩:=hE _ _ _ RS
 obtain ⟨cP,hS,hL⟩:=MY R hpre hnew mw RF.mem F
 obtain ⟨p,xs,r1,r2,r3⟩:=F.res
 obtain ⟨vs,v1,v2⟩:=OZ RF.mem RF.env hr r1 r2
 have hres:=hL _ _ _ v2 r3
 cases e with
 | normal=>exact ⟨RF.defers,_,v1,_,cP,rfl,hS,hres⟩
 | exit id=>exact absurd rfl (hne id)
 | ret=>exact ⟨RF.defers,_,v1,_,cP,rfl,hS,hres⟩
end Go.aI

namespace Go.aI
open Go
theorem BJ {n0:Nat} {env env':List (Nat×U)} {h h':List (Option HB)} (τ:Nat→Option Nat) (hn:n0≤h'.length)
 (hid:∀ j i,τ j=some i→i=j) (hkeep:∀ j,τ j=none→n0≤j)
 (hh:∀ j,(∃ hb hb',τ j=some j∧ag h j=some hb∧ag h' j=some hb'∧mV τ (ag h) hb hb')∨(ag h' j=none∧(τ j=none∨ag h j=none)))
 (he:∀ n,Rn τ (ag h) (lk env n) (lk env' n)):cI n0 ⟨env,h⟩ ⟨env',h'⟩:=by
 intro C a w R
 obtain ⟨⟨aa,RF⟩,_,h0⟩:=R
 have hsub:∀ j hb',ag h' j=some hb'→τ j=some j∧∃ hb,ag h j=some hb∧mV τ (ag h) hb hb':=fun j hb' hj=>by
  rcases hh j with ⟨hb,hb2,a1,a2,a3,a4⟩ | ⟨a1,_⟩
  ·rw [hj] at a3;cases a3;exact ⟨a1,hb,a2,a4⟩
  ·rw [hj] at a1;cases a1
 have hsome:∀ j,(ag h' j).isSome=true→(ag h j).isSome=true:=fun j hj=>by
  obtain ⟨hb',hb2⟩:=Option.isSome_iff_exists.1 hj
  obtain ⟨_,hb,h1,_⟩:=hsub j hb' hb2
  rw [h1];rfl
 have M:=RF.mem
 have uE:∀ b,aD C aa (ag h) b→aD C aa (ag h') b:=fun b hb=>⟨hb.1,fun id hid=>hb.2 id (hsome id hid)⟩
 have uF:∀ j b,τ j=none→(ag h j).isSome=true→aa j=some b→aD C aa (ag h') b:=fun j b hj hs hb=>by
  refine ⟨?_,fun id hid he=>?_⟩
  ·rcases (M.own j b hs hb).1 with ⟨a1,_⟩ | a
   ·rw [h0 j (hkeep j hj)] at a1;cases a1
   ·exact .inr a
  ·have:=M.inj id j b (hsome id hid) hs he hb
   subst this
   obtain ⟨hb',hb2⟩:=Option.isSome_iff_exists.1 hid
   obtain ⟨h1,_⟩:=hsub id hb' hb2
   rw [h1] at hj;cases hj
 have hs:∀ j i,τ j=some i→aa j=aa i∧((ag h j).isSome=true→(ag h' i).isSome=true)∧(∀ cs,ag h' i=some (.var cs)→∃ cs',ag h j=some (.var cs'))∧∀ e af xs,ag h' i=some (.row e af xs)→∃ xs',ag h j=some (.row e af xs'):=fun j i hj=>by
  obtain rfl:=hid j i hj
  refine ⟨rfl,fun hi=>?_,fun cs hc=>?_,fun e af xs hc=>?_⟩
  ·rcases hh i with ⟨hb,hb2,a1,a2,a3,a4⟩ | ⟨_,a1 | a1⟩
   ·rw [a3];rfl
   ·rw [a1] at hj;cases hj
   ·rw [a1] at hi;cases hi
  ·obtain ⟨_,hb,h1,h2⟩:=hsub i _ hc
   cases h2 with
   | var xs _ _=>exact ⟨xs,h1⟩
  ·obtain ⟨_,hb,h1,h2⟩:=hsub i _ hc
   cases h2 with
   | row _ _ xs _ _ _=>exact ⟨xs,h1⟩
 refine ⟨⟨aa,⟨⟨fun j hb' hj=>?_,fun i j b h1 h2=>M.inj i j b (hsome i h1) (hsome j h2),fun j b h1 h2=>M.own j b (hsome j h1) h2,M.fr,fun j hb' hb0 h1 h2=>?_⟩,fun n=>(RF.env n).leave uE uF (fun j hb hj=>M.heap j hb hj) hs (he n),RF.size,RF.defers⟩⟩,hn,h0⟩
 ·obtain ⟨a1,hb,a2,a3⟩:=hsub j hb' hj
  exact (M.heap j hb a2).leave uE uF (fun j hb hj=>M.heap j hb hj) hs a1 a3
 ·obtain ⟨a1,hb,a2,a3⟩:=hsub j hb' h1
  have ev:=M.eS j hb hb0 a2 h2
  cases a3 with
  | var xs ys _=>cases hb0 <;> exact ev
  | row e af xs ys _ _=>cases hb0 <;> exact ev
theorem wU {P:U→U→Prop} (hd:∀ x,P x .dead) {env:List (Nat×U)}:∀ {env':List (Nat×U)},(∀ p∈env',P (lk env p.1) p.2)→∀ n,P (lk env n) (lk env' n)
 | [],_,n=>hd _
 | (m,v)::r,h,n=>by
   show P (lk env n) (if m=n then v else lk r n)
   by_cases he:m=n
   ·rw [if_pos he,← he];exact h (m,v) (by simp)
   ·rw [if_neg he];exact wU hd (fun p hp=>h p (List.mem_cons_of_mem _ hp)) n
theorem dr (n0:Nat) (s:St):cI n0 s s:=fun _ _ _ R=>R
theorem cI.trans {n0:Nat} {s s1 s2:St} (h:cI n0 s s1) (k:cI n0 s1 s2):cI n0 s s2:=fun C a w R=>k C a w (h C a w R)
theorem bp {n0:Nat} {env env':List (Nat×U)} {h:List (Option HB)} (he:∀ p∈env',p.2 = .dead∨lk env p.1=p.2):cI n0 ⟨env,h⟩ ⟨env',h⟩:=by
 intro C a w R
 obtain ⟨⟨aa,RF⟩,h1,h0⟩:=R
 refine ⟨⟨aa,RF.mem,fun n=>?_,RF.size,RF.defers⟩,h1,h0⟩
 have:=wU (P:=fun x y=>y = .dead∨x=y) (fun x=>.inl rfl) he n
 rcases this with h | h
 ·show Rp _ _ _ _ (lk env' n) _
  rw [h];exact .dead _
 ·show Rp _ _ _ _ (lk env' n) _
  rw [← h];exact RF.env n
inductive eE:RV→Prop where
 | int (k:IntKind) (n:Int):eE (.int k n)
 | bool (b:Bool):eE (.bool b)
 | str (s:ByteArray):eE (.str s)
 | gi:eE .gi
 | bO:eE .bO
 | lN:eE .lN
 | mI:eE .mI
 | bC (t:TypeId) (r:RV) (h:eE r):eE (.bC t r)
 | agg (rs:List RV) (h:∀ (j:Nat) (r:RV),rs[j]?=some r→eE r):eE (.agg rs)
 | fn (f:FuncId) (rs:List RV) (h:∀ (j:Nat) (r:RV),rs[j]?=some r→eE r):eE (.fn f rs)
theorem RO.flat {w w':World} {ok cl:Nat→Prop} {r:RV} {v:Value} (hr:RO w ok r v) (hf:eE r):RO w' cl r v:=by
 induction hf generalizing v with
 | int k n=>cases hr;exact .int k n
 | bool b=>cases hr;exact .bool b
 | str s=>cases hr;exact .str s
 | gi=>cases hr;exact .gi
 | bO=>cases hr;exact .bO
 | lN=>cases hr;exact .lN
 | mI=>cases hr;exact .mI
 | bC t r h ih=>cases hr with | bC _ _ v h=>exact .bC t r v (ih h)
 | agg rs h ih=>cases hr with | agg _ vs hl h1 hy=>exact .agg rs vs hl h1 (fun j y hj=>ih j y hj (hy j y hj))
 | fn f rs h ih=>cases hr with | fn _ _ vs hl hy=>exact .fn f rs vs hl (fun j y hj=>ih j y hj (hy j y hj))
inductive dJ:U→Prop where
 | dead:dJ .dead
 | rv (r:RV) (h:eE r):dJ (.rv r)
 | ptr (id off:Nat):dJ (.ptr id off)
 | bE (id af i off:Nat):dJ (.bE id af i off)
 | row (id af len:Nat):dJ (.row id af len)
 | win (id af off len:Nat):dJ (.win id af off len)
 | agg (cs:List U) (h:∀ (j:Nat) (y:U),cs[j]?=some y→dJ y):dJ (.agg cs)
 | aM (cs:List U) (h:∀ (j:Nat) (y:U),cs[j]?=some y→dJ y):dJ (.aM cs)
 | fn (f:FuncId) (cs:List U) (h:∀ (j:Nat) (y:U),cs[j]?=some y→dJ y):dJ (.fn f cs)
 | bC (t:TypeId) (x:U) (h:dJ x):dJ (.bC t x)
inductive mT:HB→Prop where
 | var (cs:List U) (h:∀ (j:Nat) (y:U),cs[j]?=some y→dJ y):mT (.var cs)
 | row (e af:Nat) (xs:List (List U)) (h:∀ (i:Nat) (x:List U) (j:Nat) (y:U),xs[i]?=some x→x[j]?=some y→dJ y):mT (.row e af xs)
section
variable {w:World} {ok cl:Nat→Prop} {aa aE:Nat→Option Nat} {hp ah:Hp}
theorem Rp.flat (hs:∀ j,(hp j).isSome=true→ah j=hp j∧aE j=aa j) {s:U} {v:Value} (hr:Rp w ok aa hp s v) (hf:dJ s):Rp w cl aE ah s v:=by
 induction hf generalizing v with
 | dead=>exact .dead v
 | rv r h=>cases hr with | rv _ _ hr=>exact .rv r v (hr.flat h)
 | ptr id off=>cases hr with | ptr _ _ _ h1 h0 h=>obtain ⟨a,b⟩:=hs id h0;exact .ptr id off v h1 (by rw [a];exact h0) (by rw [a,b];exact h)
 | bE id af i off=>cases hr with | bE _ _ _ _ _ h1 h0 hv h=>obtain ⟨a,b⟩:=hs id h0;exact .bE id af i off v h1 (by rw [a];exact h0) (by rw [a];exact hv) (by rw [a,b];exact h)
 | row id af len=>cases hr with | row _ _ _ _ h1 h0 hv h=>obtain ⟨a,b⟩:=hs id h0;exact .row id af len v h1 (by rw [a];exact h0) (by rw [a];exact hv) (by rw [a,b];exact h)
 | win id af off len=>cases hr with | win _ _ _ _ _ h1 h0 hv hr hc=>obtain ⟨a,b⟩:=hs id h0;exact .win id af off len v h1 (by rw [a];exact h0) (by rw [a];exact hv) (by rw [a,b];exact hr) (by rw [a,b];exact hc)
 | agg cs h ih=>cases hr with | agg _ vs hl h1 hy=>exact .agg cs vs hl h1 (fun j y hj=>ih j y hj (hy j y hj))
 | aM cs h ih=>cases hr with | aM _ vs hl hy=>exact .aM cs vs hl (fun j y hj=>ih j y hj (hy j y hj))
 | fn f cs h ih=>cases hr with | fn _ _ vs hl hy=>exact .fn f cs vs hl (fun j y hj=>ih j y hj (hy j y hj))
 | bC t x h ih=>cases hr with | bC _ _ v0 h0=>exact .bC t x v0 (ih h0)
theorem cS.flat (hs:∀ j,(hp j).isSome=true→ah j=hp j∧aE j=aa j) {cur:Array Value} {off:Nat} {cs:List U} (h:cS w ok aa hp cur off cs) (hf:∀ (j:Nat) (y:U),cs[j]?=some y→dJ y):cS w cl aE ah cur off cs:=fun j y hy=>by
 obtain ⟨v,h1,h2,h3⟩:=h j y hy
 exact ⟨v,h1,h2,h3.flat hs (hf j y hy)⟩
theorem jY.flat (hs:∀ j,(hp j).isSome=true→ah j=hp j∧aE j=aa j) {id:Nat} {hb:HB} (hid:(hp id).isSome=true) (h:jY w ok aa hp id hb) (hf:mT hb):jY w cl aE ah id hb:=by
 have hr:=(hs id hid).2
 rcases h with ⟨h1,h2⟩ | ⟨b,cur,t,h1,h2,h3⟩
 ·exact .inl ⟨hr.trans h1,h2⟩
 ·refine .inr ⟨b,cur,t,hr.trans h1,h2,?_⟩
  cases hf with
  | var cs hf=>exact ⟨h3.1,h3.2.flat hs hf⟩
  | row e af xs hf=>exact ⟨h3.1,h3.2.1,fun i x hx=>(h3.2.2 i x hx).flat hs (fun j y hy=>hf i x j y hx hy)⟩
end
theorem lT {us:List (Nat×HB)} {id:Nat}:(bz (fun _=>none) us id).isSome=true↔id∈us.map (·.1):=by
 have gen:∀ (us:List (Nat×HB)) (hp:Hp),(bz hp us id).isSome=true↔(hp id).isSome=true∨id∈us.map (·.1):=by
  intro us
  induction us with
  | nil=>intro hp;simp [bz]
  | cons q r ih=>
    intro hp
    obtain ⟨i,hb⟩:=q
    rw [bz,ih]
    by_cases h:id=i
    ·subst h;simp
    ·rw [cE _ _ h];simp [h]
 rw [gen];simp
theorem FO {us:List (Nat×HB)} {id:Nat} {hb:HB}:∀ {hp:Hp},bz hp us id=some hb→hp id=some hb∨(id,hb)∈us:=by
 induction us with
 | nil=>intro hp h;exact .inl h
 | cons q r ih=>
   intro hp h
   obtain ⟨i,hb0⟩:=q
   rcases ih h with h | h
   ·by_cases he:id=i
    ·subst he;rw [bR] at h;cases h;exact .inr (by simp)
    ·rw [cE _ _ he] at h;exact .inl h
   ·exact .inr (by simp [h])
theorem GS {P:Program} {f:FuncId} {rs:List RV} {args:List U} {pre us:List (Nat×HB)} {sv:U} (H:aK P f (rs.map .rv) [] us sv) (hl:args.length=rs.length)
 (hz:∀ hp,aW hp pre→∀ (j:Nat) (y:U) (r:RV),args[j]?=some y→rs[j]?=some r→Fz (fun _=>none) hp y r) (hfl:dJ sv) (fl:∀ q∈us,mT q.2∧∀ p∈pre,p.1≠q.1):aK P f args pre us sv:=by
 refine ⟨H.1,fun C hp w aa vs hpre hnew R hvl hvs=>?_⟩
 let C2:Ctx:=⟨w,fun b=>aD C aa hp b∨∃ id,(hp id).isSome=true∧aa id=some b,fun _=>False,C.N,fun _=>none,fun _=>none⟩
 have qD:∀ b,C2.uD b→aD C2 (fun _=>none) (fun _=>none) b:=fun b hb=>⟨.inl hb,fun id hid=>by simp at hid⟩
 have R2:bL C2 (fun _=>none) w (fun _=>none):=⟨fun id hb h=>(by cases h),fun i j b h=>(by simp at h),fun i b h=>(by simp at h),⟨rfl,rfl,rfl,Nat.le_refl _,fun b _ _=>rfl⟩,fun id hb hb0 h=>(by cases h)⟩
 have oh:∀ id,id∈us.map (·.1)→hp id=none∧C.h0 id=none:=fun id hid=>by
  obtain ⟨q,hq,rfl⟩:=List.mem_map.1 hid
  rcases hnew q hq with ⟨hb,hm⟩ | h
  ·exact absurd rfl ((fl q hq).2 (q.1,hb) hm)
  ·exact h
 refine (H.2 C2 (fun _=>none) w (fun _=>none) vs (fun q hq=>by simp at hq) (fun q hq=>.inr ⟨rfl,rfl⟩) R2 (by simp [hvl,hl]) (fun j s hj=>?_)).mono ?_
 ·rw [List.getElem?_map] at hj
  cases hr:rs[j]? with
  | none=>simp [hr] at hj
  | some r=>
    simp [hr] at hj
    subst hj
    have hlt:=(List.getElem?_eq_some_iff.1 hr).1
    have hy:=List.getElem?_eq_getElem (l:=args) (i:=j) (by omega)
    refine .rv _ _ (Fz.ro (τ:=fun _=>none) (fun b hb=>qD b (.inl hb)) (fun i b _ hi hb=>qD b (.inr ⟨i,hi,hb⟩)) (fun i hb hi=>R.heap i hb hi) (hvs j _ hy) (hz hp hpre j _ r hy hr))
 ·rintro e w' ⟨v,aE,rfl,S,hR⟩
  have R':=S.mem
  have dD:∀ b,b<w.heap.size→w'.heap[b]?=w.heap[b]?:=fun b hb=>R'.fr.block b hb (fun h=>h)
  have hsz:w.heap.size≤w'.heap.size:=R'.fr.size
  have om:∀ id b,id∈us.map (·.1)→aE id=some b→w.heap.size≤b∧b<w'.heap.size:=fun id b hid hb=>by
   obtain ⟨h1,h2⟩:=R'.own id b (lT.2 hid) hb
   rcases h1 with ⟨a,_⟩ | a
   ·cases a
   ·exact ⟨a,h2⟩
  let cP:Nat→Option Nat:=fun id=>if id∈us.map (·.1) then aE id else aa id
  have rT:∀ id,id∈us.map (·.1)→cP id=aE id:=fun id h=>if_pos h
  have rN:∀ id,id∉us.map (·.1)→cP id=aa id:=fun id h=>if_neg h
  have hN:∀ id,id∉us.map (·.1)→bz hp us id=hp id:=fun id h=>xQ h
  have hT:∀ id,id∈us.map (·.1)→bz hp us id=bz (fun _=>none) us id:=fun id h=>uT h
  have hs:∀ j,(bz (fun _=>none) us j).isSome=true→bz hp us j=bz (fun _=>none) us j∧cP j=aE j:=fun j hj=>⟨hT j (lT.1 hj),rT j (lT.1 hj)⟩
  have qO:∀ b,aD C aa hp b→b<w.heap.size→aD C cP (bz hp us) b∧w'.heap[b]?=w.heap[b]?:=fun b hb hlt=>by
   refine ⟨⟨hb.1,fun id hid he=>?_⟩,dD b hlt⟩
   by_cases hm:id∈us.map (·.1)
   ·rw [rT id hm] at he
    have:=(om id b hm he).1;omega
   ·rw [hN id hm] at hid
    rw [rN id hm] at he
    exact hb.2 id hid he
  have E:ek w w' (aD C aa hp) (aD C cP (bz hp us)) aa cP hp (bz hp us):=ek.of qO (fun id hb hq=>by
   have hm:id∉us.map (·.1):=fun hm=>by rw [(oh id hm).1] at hq;cases hq
   refine ⟨hb,by rw [hN id hm];exact hq,?_⟩
   rw [rN id hm]
   cases hb with
   | var cs=>rfl
   | row e af xs=>exact ⟨Nat.le_refl _,fun _=>⟨rfl,rfl,fun b hb cur t hc=>⟨cur,t,by rw [dD b (R.own id b (by rw [hq];rfl) hb).2];exact hc,rfl⟩⟩⟩)
  refine ⟨v,cP,rfl,⟨⟨fun id hb hq=>?_,fun i j b h1 h2 h3 h4=>?_,fun id b h1 h2=>?_,⟨R'.fr.os.trans R.fr.os,R'.fr.tape.trans R.fr.tape,R'.fr.output.trans R.fr.output,Nat.le_trans R.fr.size hsz,fun b h1 h2=>?_⟩,fun id hb hb0 h1 h2=>?_⟩,E⟩,hR.flat hs hfl⟩
  ·by_cases hm:id∈us.map (·.1)
   ·rw [hT id hm] at hq
    have zh:mT hb:=by
     rcases FO hq with h | h
     ·cases h
     ·exact (fl _ h).1
    exact (R'.heap id hb hq).flat hs (lT.2 hm) zh
   ·rw [hN id hm] at hq
    rcases R.heap id hb hq with ⟨a1,a2⟩ | ⟨b,cur,t,a1,a2,a3⟩
    ·exact .inl ⟨(rN id hm).trans a1,a2⟩
    ·refine .inr ⟨b,cur,t,(rN id hm).trans a1,?_,a3.mono E⟩
     rw [dD b (R.own id b (by rw [hq];rfl) a1).2];exact a2
  ·by_cases hi:i∈us.map (·.1) <;> by_cases hj:j∈us.map (·.1)
   ·rw [rT i hi] at h3;rw [rT j hj] at h4
    exact R'.inj i j b (lT.2 hi) (lT.2 hj) h3 h4
   ·rw [rT i hi] at h3;rw [rN j hj] at h4;rw [hN j hj] at h2
    have h5:=om i b hi h3;have h6:=R.own j b h2 h4;omega
   ·rw [rN i hi] at h3;rw [rT j hj] at h4;rw [hN i hi] at h1
    have h5:=om j b hj h4;have h6:=R.own i b h1 h3;omega
   ·rw [rN i hi] at h3;rw [rN j hj] at h4;rw [hN i hi] at h1;rw [hN j hj] at h2
    exact R.inj i j b h1 h2 h3 h4
  ·by_cases hm:id∈us.map (·.1)
   ·rw [rT id hm] at h2
    obtain ⟨a1,a2⟩:=om id b hm h2
    exact ⟨.inr (Nat.le_trans R.fr.size a1),a2⟩
   ·rw [hN id hm] at h1;rw [rN id hm] at h2
    obtain ⟨a1,a2⟩:=R.own id b h1 h2
    exact ⟨a1,by omega⟩
  ·rw [dD b (by have:=R.fr.size;omega)];exact R.fr.block b h1 h2
  ·by_cases hm:id∈us.map (·.1)
   ·rw [(oh id hm).2] at h2;cases h2
   ·rw [hN id hm] at h1
    have ev:=R.eS id hb hb0 h1 h2
    obtain ⟨hb',g1,g2⟩:∃ hb',bz hp us id=some hb'∧eD w w' (aa id) (cP id) hb hb':=by
     refine ⟨hb,by rw [hN id hm];exact h1,?_⟩
     rw [rN id hm]
     cases hb with
     | var cs=>rfl
     | row e af xs=>exact ⟨Nat.le_refl _,fun _=>⟨rfl,rfl,fun b hb cur t hc=>⟨cur,t,by rw [dD b (R.own id b (by rw [h1];rfl) hb).2];exact hc,rfl⟩⟩⟩
    rw [hN id hm,h1] at g1;cases g1
    exact ev.trans g2
end Go.aI

namespace Go.aI
open Go
def aR (τ:Nat→Option Nat) (h:Hp):List U→List U→Prop
 | [],[]=>True
 | x::xs,y::ys=>Rn τ h x y∧aR τ h xs ys
 | _,_=>False
theorem sx {τ:Nat→Option Nat} {h:Hp}:∀ {xs ys:List U},aR τ h xs ys↔qi τ h xs ys
 | [],[]=>⟨fun _=>⟨rfl,fun i x y hx=>by simp at hx⟩,fun _=>trivial⟩
 | [],_::_=>⟨fun h=>h.elim,fun h=>by simp [qi] at h⟩
 | _::_,[]=>⟨fun h=>h.elim,fun h=>by simp [qi] at h⟩
 | x::xs,y::ys=>by
   unfold aR
   rw [sx (xs:=xs) (ys:=ys)]
   constructor
   ·rintro ⟨h1,h2,h3⟩
    refine ⟨by simp [h2],fun i a b ha hb=>?_⟩
    cases i with
    | zero=>simp at ha hb;subst ha;subst hb;exact h1
    | succ i=>exact h3 i a b (by simpa using ha) (by simpa using hb)
   ·rintro ⟨h2,h3⟩
    exact ⟨h3 0 x y rfl rfl,by simpa using h2,fun i a b ha hb=>h3 (i+1) a b (by simpa using ha) (by simpa using hb)⟩
section
variable {τ:Nat→Option Nat} {h:Hp}
theorem aS {r r':RV}:Rn τ h (.rv r) (.rv r')↔r=r':=⟨fun hr=>by cases hr with | fz _ _ hf=>cases hf;rfl,fun e=>by subst e;exact .fz _ _ (.rv _)⟩
theorem ew {x:U}:Rn τ h x .dead↔True:=⟨fun _=>trivial,fun _=>.dead _⟩
theorem dI {i j o o':Nat}:Rn τ h (.ptr i o) (.ptr j o')↔τ i=some j∧o=o':=⟨fun hr=>by cases hr with | ptr _ _ _ hj=>exact ⟨hj,rfl⟩,fun ⟨e,e'⟩=>by subst e';exact .ptr _ _ _ e⟩
theorem dg {i j v v' l l':Nat}:Rn τ h (.row i v l) (.row j v' l')↔τ i=some j∧v=v'∧l=l':=⟨fun hr=>by cases hr with | row _ _ _ _ hj=>exact ⟨hj,rfl,rfl⟩,fun ⟨e,e',e2⟩=>by subst e';subst e2;exact .row _ _ _ _ e⟩
theorem aY {xs ys:List U}:Rn τ h (.agg xs) (.agg ys)↔aR τ h xs ys:=by rw [sx];exact ⟨fun hr=>by cases hr with | agg _ _ hl hf=>exact ⟨hl,hf⟩,fun ⟨e,e'⟩=>.agg _ _ e e'⟩
theorem bQ {xs ys:List U}:Rn τ h (.aM xs) (.aM ys)↔aR τ h xs ys:=by rw [sx];exact ⟨fun hr=>by cases hr with | aM _ _ hl hf=>exact ⟨hl,hf⟩,fun ⟨e,e'⟩=>.aM _ _ e e'⟩
theorem OO {f f':FuncId} {xs ys:List U}:Rn τ h (.bZ f xs) (.bZ f' ys)↔f=f'∧aR τ h xs ys:=by rw [sx];exact ⟨fun hr=>by cases hr with | bZ _ _ _ hl hf=>exact ⟨rfl,hl,hf⟩,fun ⟨e,e',e2⟩=>by subst e;exact .bZ _ _ _ e' e2⟩
theorem ey {t t':TypeId} {x y:U}:Rn τ h (.bC t x) (.bC t' y)↔t=t'∧Rn τ h x y:=⟨fun hr=>by cases hr with | bC _ _ _ hf=>exact ⟨rfl,hf⟩,fun ⟨e,e'⟩=>by subst e;exact .bC _ _ _ e'⟩
end
def bD (τ:Nat→Option Nat) (h:Hp) (sv:U):Option (Prop×List U)→Prop
 | some (p,xs)=>p∧Rn τ h (bN xs) sv
 | none=>False
theorem GR {P:Program} {f:FuncId} {N:Nat} {ac:AC} {rs:List RR} (H:aV P f N ac rs) (fY:List RV) (sv:U) (hN:fY.length≤N)
 (hrun:∀ K:Ex→St→Prop,(∀ env h,bD (fun _=>none) (ag h) sv (bw (lk env) (ag h) rs)→K .normal ⟨env,h⟩∧K .ret ⟨env,h⟩)→G P 0 [.c ac] K (lK 0 (fY.map .rv)) []):aK P f (fY.map .rv) [] [] sv:=by
 refine vt H [] [] (fY.map .rv) (by simpa using hN) ⟨rfl,fun i x y hx hy=>?_⟩ rfl (by simp) (by simp) (fun K hK=>hrun K (fun env h hr=>?_))
 ·rw [hx] at hy;cases hy
  rw [List.getElem?_map] at hx
  cases hr:fY[i]? with
  | none=>simp [hr] at hx
  | some r=>simp [hr] at hx;subst hx;exact .rv r
 ·unfold bD at hr
  split at hr
  ·rename_i p xs hres
   exact hK env h env h (fun _=>none) (dr _ _) ⟨by simp,by simp,by simp,by simp,by simp,p,xs,hres,hr.1,hr.2⟩
  ·exact hr.elim
theorem wrap_i64 {n:Int} (h1 : -9223372036854775808≤n) (h2:n<9223372036854775808):IntKind.i64.wrap n=n:=by
 unfold IntKind.wrap
 simp only [IntKind.signed,IntKind.bits]
 by_cases h:(9223372036854775808:Int)≤n % 18446744073709551616 <;> simp [h] <;> omega
end Go.aI

namespace Go.aI
open Go
def tC (P:Program) (rec:TypeId→Bool):Nat→List Field→Option Nat
 | off,[]=>some off
 | off,f::r=>if f.offset=off && rec f.type then tC P rec (off+P.cellsOf f.type) r else none
def mc (P:Program):Nat→TypeId→Bool
 | 0,_=>false
 | n+1,t=>match P.underlying t with
   | some .bool | some (.int _) | some .string=>P.cellsOf t == 1
   | some (.slice e)=>P.cellsOf t == 1 && mc P n e
   | some (.struct fs)=>tC P (mc P n) 0 fs.toList == some (P.cellsOf t)
   | some (.array m e)=>mc P n e && P.cellsOf t == m*P.cellsOf e
   | _=>false
def sH (P:Program) (rec:TypeId→List RV→Prop):List Field→List RV→Prop
 | [],rs=>rs=[]
 | f::r,rs=>∃ a b,rs=a++b∧rec f.type a∧sH P rec r b
def fK (P:Program):Nat→TypeId→List RV→Prop
 | 0,_,_=>False
 | n+1,t,rs=>match P.underlying t with
   | some .bool=>∃ b,rs=[.bool b]
   | some (.int k)=>∃ i,rs=[.int k i]∧(Lit.int k i).wf=true
   | some .string=>∃ s,rs=[.str s]∧s.size≤maxLen
   | some (.slice e)=>∃ xs,rs=[.sl (P.cellsOf e) xs]∧xs.length≤maxLen∧∀ x∈xs,fK P n e x
   | some (.struct fs)=>sH P (fK P n) fs.toList rs
   | some (.array m e)=>∃ xs:List (List RV),rs=xs.flatten∧xs.length=m∧∀ x∈xs,fK P n e x
   | _=>False
def jZ (w:World) (ok:Nat→Prop) (vs:List Value) (rs:List RV):Prop:=vs.length=rs.length∧∀ (j:Nat) (r:RV),rs[j]?=some r→r.one=true∧RO w ok r (vs.getD j undef)
theorem jZ.append {w:World} {ok:Nat→Prop} {vs us:List Value} {rs qs:List RV} (h:jZ w ok vs rs) (k:jZ w ok us qs):jZ w ok (vs++us) (rs++qs):=by
 refine ⟨by simp [h.1,k.1],fun j r hj=>?_⟩
 by_cases hlt:j<rs.length
 ·rw [List.getElem?_append_left hlt] at hj
  have:=h.2 j r hj
  rw [List.getD_eq_getElem?_getD,List.getElem?_append_left (by rw [h.1];exact hlt),← List.getD_eq_getElem?_getD]
  exact this
 ·rw [List.getElem?_append_right (by omega)] at hj
  have:=k.2 _ r hj
  rw [List.getD_eq_getElem?_getD,List.getElem?_append_right (by rw [h.1];omega),h.1,← List.getD_eq_getElem?_getD]
  exact this
theorem jZ.one {w:World} {ok:Nat→Prop} {v:Value} {r:RV} (h:RO w ok r v) (h1:r.one=true):jZ w ok [v] [r]:=
 ⟨rfl,fun j q hj=>by
  cases j with
  | zero=>simp at hj;subst hj;exact ⟨h1,h⟩
  | succ j=>simp at hj⟩
section
variable {P:Program} {H:Type} {enc:TypeId×Value→H} {w:World} {base:Nat} {spare:Nat→Bool} {held:Bool}
theorem FM (ok:Nat→Prop) {n m:Nat} (IH:∀ t,mc P n t=true→∀ cs x,DataW.trod enc P w base spare held m t cs=some x→∃ rs,fK P n t rs∧jZ w ok cs rs∧cs.length=P.cellsOf t) :
 ∀ (fs:List Field) (off tot:Nat) (cs:List Value),tC P (mc P n) off fs=some tot→cs.length=tot→(∀ f∈fs,∃ x,DataW.trod enc P w base spare held m f.type ((cs.drop f.offset).take (P.cellsOf f.type))=some x)→
 ∃ rs,sH P (fK P n) fs rs∧jZ w ok (cs.drop off) rs
 | [],off,tot,cs,h,hl,_=>by
   simp only [tC,Option.some.injEq] at h
   subst h
   refine ⟨[],rfl,?_⟩
   rw [List.drop_of_length_le (by omega)]
   exact ⟨rfl,fun j r hj=>by simp at hj⟩
 | f::fs,off,tot,cs,h,hl,hx=>by
   unfold tC at h
   split at h
   ·rename_i hf
    simp only [Bool.and_eq_true,decide_eq_true_eq] at hf
    obtain ⟨x,hx0⟩:=hx f (by simp)
    obtain ⟨a,yR,vZ,yS⟩:=IH f.type hf.2 _ _ hx0
    obtain ⟨b,hb1,hb2⟩:=FM ok IH fs (off+P.cellsOf f.type) tot cs h hl (fun g hg=>hx g (by simp [hg]))
    refine ⟨a++b,⟨a,b,rfl,yR,hb1⟩,?_⟩
    rw [hf.1] at vZ
    have:cs.drop off=(cs.drop off).take (P.cellsOf f.type)++cs.drop (off+P.cellsOf f.type):=by
     rw [← List.drop_drop,List.take_append_drop]
    rw [this]
    exact vZ.append hb2
   ·cases h
theorem FL (ok:Nat→Prop) {n m:Nat} {e:TypeId} (IH:∀ cs x,DataW.trod enc P w base spare held m e cs=some x→∃ rs,fK P n e rs∧jZ w ok cs rs∧cs.length=P.cellsOf e) :
 ∀ (k i:Nat) (cs:List Value),cs.length=(i+k)*P.cellsOf e→(∀ j,i≤j→j<i+k→∃ x,DataW.trod enc P w base spare held m e ((cs.drop (j*P.cellsOf e)).take (P.cellsOf e))=some x)→
 ∃ xs:List (List RV),xs.length=k∧(∀ x∈xs,fK P n e x)∧jZ w ok (cs.drop (i*P.cellsOf e)) xs.flatten
 | 0,i,cs,hl,_=>by
   refine ⟨[],rfl,by simp,?_⟩
   rw [List.drop_of_length_le (by simp at hl;omega)]
   exact ⟨rfl,fun j r hj=>by simp at hj⟩
 | k+1,i,cs,hl,hx=>by
   obtain ⟨x,hx0⟩:=hx i (Nat.le_refl _) (by omega)
   obtain ⟨a,yR,vZ,yS⟩:=IH _ _ hx0
   obtain ⟨xs,h1,h2,h3⟩:=FL ok IH k (i+1) cs (by rw [hl];congr 1;omega) (fun j h1 h2=>hx j (by omega) (by omega))
   refine ⟨a::xs,by simp [h1],fun x hx=>?_,?_⟩
   ·rcases List.mem_cons.1 hx with rfl | hx
    ·exact yR
    ·exact h2 x hx
   ·have:cs.drop (i*P.cellsOf e)=(cs.drop (i*P.cellsOf e)).take (P.cellsOf e)++cs.drop ((i+1)*P.cellsOf e):=by
     rw [Nat.add_mul,Nat.one_mul,← List.drop_drop,List.take_append_drop]
    rw [this,List.flatten_cons]
    exact vZ.append h3
theorem Hg {a:Addr} {n:Nat} {cs:List Value} (h:w.cells? base a n=some cs):cs.length=n∧∀ j,j<n→w.cell? (a.add j)=some (cs.getD j undef):=by
 unfold World.cells? at h
 split at h
 ·obtain ⟨h1,h2⟩:=mapM_some_get _ _ _ h
  refine ⟨by simpa using h1,fun j hj=>?_⟩
  have hr:(List.range n)[j]?=some j:=List.getElem?_range hj
  obtain ⟨h3,h4⟩:=h2 j j hr
  have hlt:j<cs.length:=by rw [h1];simpa using hj
  rw [List.getD_eq_getElem?_getD,List.getElem?_eq_getElem hlt,Option.getD_some,← h3,List.getElem?_eq_getElem hlt]
 ·cases h
theorem typed (ok:Nat→Prop) (hok:∀ b,b<w.heap.size→ok b):∀ (n:Nat) (t:TypeId),mc P n t=true→∀ (fuel:Nat) (cs:List Value) (x:DataW H×List MemPlace),DataW.trod enc P w base spare held fuel t cs=some x→∃ rs,fK P n t rs∧jZ w ok cs rs∧cs.length=P.cellsOf t
 | 0,t,h,_,_,_,_=>by cases h
 | n+1,t,h,fuel,cs,x,hx=>by
   unfold mc at h
   unfold fK
   split at h
   ·rename_i hu
    obtain ⟨b,rfl,_⟩:=DataW.trod_bool hu hx
    try simp only [hu]
    exact ⟨[.bool b],⟨b,rfl⟩,.one (.bool b) rfl,by simp at h;simp [h]⟩
   ·rename_i k hu
    obtain ⟨i,rfl,_,hw⟩:=DataW.trod_int hu hx
    try simp only [hu]
    exact ⟨[.int k i],⟨i,rfl,hw⟩,.one (.int k i) rfl,by simp at h;simp [h]⟩
   ·rename_i hu
    obtain ⟨s,rfl,_,hs⟩:=DataW.trod_string hu hx
    try simp only [hu]
    exact ⟨[.str s],⟨s,rfl,hs⟩,.one (.str s) rfl,by simp at h;simp [h]⟩
   ·rename_i e hu
    simp only [Bool.and_eq_true,beq_iff_eq] at h
    try simp only [hu]
    rcases DataW.trod_slice hu hx with ⟨rfl,_⟩ | ⟨a,len,cap,elems,rest,m,rfl,rfl,_,hb,hl,hm,hel,hcell,_,_⟩
    ·refine ⟨[.sl (P.cellsOf e) []],⟨[],rfl,by simp,by simp⟩,.one ?_ rfl,by simpa using h.1.symm⟩
     exact .sl _ [] none 0 (fun _ _=>undef) (fun _=>⟨rfl,rfl⟩) (by simp) (by simp [maxLen]) (by simp) (fun i x j y hx=>by simp at hx) (fun i x j y hx=>by simp at hx) (fun i x j y hx=>by simp at hx)
    ·have key:∀ i,i<len→∃ (ci:List Value) (r:List RV),fK P n e r∧jZ w ok ci r∧ci.length=P.cellsOf e∧∀ j,j<P.cellsOf e→w.cell? ((a.add (i*P.cellsOf e)).add j)=some (ci.getD j undef):=fun i hi=>by
      have h1:=hcell i hi
      rw [List.getElem?_eq_getElem (by omega)] at h1
      simp only [Option.bind_eq_some_iff] at h1
      obtain ⟨ci,h2,h3⟩:=h1
      obtain ⟨r,g1,g2,g3⟩:=typed ok hok n e h.2 m ci _ h3
      exact ⟨ci,r,g1,g2,g3,(Hg h2).2⟩
     classical
     let cf:Nat→List Value:=fun i=>if h:i<len then (key i h).choose else []
     let rf:Nat→List RV:=fun i=>if h:i<len then (key i h).choose_spec.choose else []
     have hf:∀ i,i<len→fK P n e (rf i)∧jZ w ok (cf i) (rf i)∧(cf i).length=P.cellsOf e∧∀ j,j<P.cellsOf e→w.cell? ((a.add (i*P.cellsOf e)).add j)=some ((cf i).getD j undef):=fun i hi=>by
      have h1:cf i=(key i hi).choose:=dif_pos hi
      have h2:rf i=(key i hi).choose_spec.choose:=dif_pos hi
      rw [h1,h2]
      exact (key i hi).choose_spec.choose_spec
     have hlen:((List.range len).map rf).length=len:=by simp
     have ag:∀ (i:Nat) (x:List RV),((List.range len).map rf)[i]?=some x→i<len∧x=rf i:=fun i x hi=>by
      rw [List.getElem?_map] at hi
      cases hr:(List.range len)[i]? with
      | none=>simp [hr] at hi
      | some j=>
        have hlt:=(List.getElem?_eq_some_iff.1 hr).1
        simp at hlt
        rw [List.getElem?_range hlt] at hr
        cases hr
        rw [List.getElem?_range hlt] at hi
        simp at hi
        exact ⟨hlt,hi.symm⟩
     refine ⟨[.sl (P.cellsOf e) ((List.range len).map rf)],⟨_,rfl,by rw [hlen];omega,fun x hx=>?_⟩,.one ?_ rfl,by simpa using h.1.symm⟩
     ·obtain ⟨i,hi,rfl⟩:=List.mem_map.1 hx
      exact (hf i (by simpa using hi)).1
     ·have hcs:∀ (i:Nat) (x:List RV) (j:Nat) (y:RV),((List.range len).map rf)[i]?=some x→x[j]?=some y→i<len∧(rf i)[j]?=some y∧w.cell? (a.add (i*P.cellsOf e+j))=some ((cf i).getD j undef):=fun i x j y hi hj=>by
       obtain ⟨h1,rfl⟩:=ag i x hi
       obtain ⟨_,g2,g3,g4⟩:=hf i h1
       have hlt:=(List.getElem?_eq_some_iff.1 hj).1
       have:=g4 j (by rw [← g3,g2.1];exact hlt)
       rw [uW] at this
       exact ⟨h1,hj,this⟩
      have:=RO.sl (w:=w) (ok:=ok) (P.cellsOf e) ((List.range len).map rf) (some a) cap (fun i j=>(cf i).getD j undef) (fun h=>by cases h) (by rw [hlen];exact hl) hm (fun x hx=>by
       obtain ⟨i,hi,rfl⟩:=List.mem_map.1 hx
       obtain ⟨_,g2,g3,_⟩:=hf i (by simpa using hi)
       rw [← g2.1,g3]) (fun i x j y hi hj=>by
       obtain ⟨_,_,h3⟩:=hcs i x j y hi hj
       exact ⟨a,rfl,hok _ (by have:=World.block_lt_of_cell? w _ h3;rwa [uX] at this),h3⟩) (fun i x j y hi hj=>by
       obtain ⟨h1,h2,_⟩:=hcs i x j y hi hj
       exact ((hf i h1).2.1.2 j y h2).1) (fun i x j y hi hj=>by
       obtain ⟨h1,h2,_⟩:=hcs i x j y hi hj
       exact ((hf i h1).2.1.2 j y h2).2)
      rw [hlen] at this
      exact this
   ·rename_i fs hu
    simp only [beq_iff_eq] at h
    try simp only [hu]
    obtain ⟨xs,m,rfl,_,hl,zC,hf⟩:=DataW.trod_struct hu hx
    obtain ⟨rs,g1,g2⟩:=FM (enc:=enc) (m:=m) ok (fun t ht cs x hx=>typed ok hok n t ht m cs x hx) fs.toList 0 (P.cellsOf t) cs h hl (fun f JD=>by
     obtain ⟨i,hi,he⟩:=List.mem_iff_getElem.1 JD
     have hi':i<fs.size:=by simpa using hi
     have og:fs[i]?=some f:=by rw [Array.getElem?_eq_getElem hi'];simp at he;rw [he]
     have:=hf i f og
     rw [List.getElem?_eq_getElem (by omega)] at this
     exact ⟨_,this⟩)
    exact ⟨rs,g1,by simpa using g2,hl⟩
   ·rename_i k e hu
    simp only [Bool.and_eq_true,beq_iff_eq] at h
    try simp only [hu]
    obtain ⟨xs,m,rfl,_,hl,zC,hf⟩:=DataW.trod_array hu hx
    obtain ⟨ys,g1,g2,g3⟩:=FL (enc:=enc) (m:=m) ok (fun cs x hx=>typed ok hok n e h.1 m cs x hx) k 0 cs (by rw [hl,h.2];congr 1;omega) (fun j _ hj=>by
     have:=hf j (by omega)
     rw [List.getElem?_eq_getElem (by omega)] at this
     exact ⟨_,this⟩)
    exact ⟨ys.flatten,⟨ys,rfl,g1,g2⟩,by simpa using g3,hl⟩
   ·cases h
end
def mZ (P:Program) (t:TypeId) (rs:List RV):U:=match bW P t with
 | some true=>.agg (rs.map .rv)
 | _=>.rv (rs.headD .gi)
theorem Oj {P:Program} {H:Type} {enc:TypeId×Value→H} {w:World} {r:Reach} {b0 n:Nat} {t:TypeId} {v:Value} {d:DataW H} {ps:List MemPlace} (hf:mc P n t=true) (hval:Value.okWide P w r b0 t v) (hd:DataW.Trod enc P w 0 (fun _=>true) true t v d ps) (C:Ctx) (aa:Nat→Option Nat) :
 ∃ rs,fK P n t rs∧∀ (ok:Nat→Prop) (aa:Nat→Option Nat) (hp:Hp),(∀ b,b<w.heap.size→ok b)→Rp w ok aa hp (mZ P t rs) v:=by
 obtain ⟨fuel,hx⟩:=hd
 obtain ⟨rs,h1,h2,h3⟩:=typed (enc:=enc) (fun b=>b<w.heap.size) (fun b hb=>hb) n t hf fuel _ _ hx
 refine ⟨rs,h1,fun ok aa hp hok=>?_⟩
 have nZ:jZ w ok v.cells.toList rs:=⟨h2.1,fun j q hj=>⟨(h2.2 j q hj).1,(h2.2 j q hj).2.mono fun b hb _=>⟨hok b hb,rfl⟩⟩⟩
 unfold mZ
 cases hu:P.underlying t with
 | none=>cases n <;> simp [mc,hu] at hf
 | some kd=>
   have scalar:(bW P t=some false)→v.cells = #[v]→Rp w ok aa hp (.rv (rs.headD .gi)) v:=fun _ hc=>by
    have hl:=nZ.1
    rw [hc] at hl nZ
    obtain ⟨q,rfl⟩:=List.length_eq_one_iff.1 hl.symm
    exact .rv _ _ (nZ.2 0 q rfl).2
   have Gi:(∃ cs,v = .agg cs)→Rp w ok aa hp (.agg (rs.map .rv)) v:=fun ⟨cs,hv⟩=>by
    subst hv
    have hl:=nZ.1
    have:Rp w ok aa hp (.agg (rs.map .rv)) (.agg cs.toList.toArray):=by
     refine .agg _ _ (by simpa [Value.cells] using hl) (fun j u hj=>?_) (fun j y hj=>?_)
     ·have hlt:=(List.getElem?_eq_some_iff.1 hj).1
      have hr:=List.getElem?_eq_getElem (l:=rs) (i:=j) (by simp [Value.cells] at hl;simp at hlt;omega)
      have:=nZ.2 j _ hr
      have hu:(Value.cells (.agg cs)).toList.getD j undef=u:=by rw [List.getD_eq_getElem?_getD];show (cs.toList[j]?).getD undef=u;rw [hj];rfl
      rw [hu] at this
      exact this.2.uG this.1
     ·rw [List.getElem?_map] at hj
      cases hr:rs[j]? with
      | none=>simp [hr] at hj
      | some q=>simp [hr] at hj;subst hj;exact .rv _ _ (nZ.2 j q hr).2
    simpa using this
   have Jw:(∀ cs,v≠.agg cs)→v.cells = #[v]:=fun h=>by cases v <;> first | rfl | exact absurd rfl (h _)
   cases n with
   | zero=>cases hf
   | succ n=>
     unfold mc at hf
     unfold Value.okWide at hval
     cases kd <;> simp only [hu] at hf hval <;> first
      | (cases hf;done)
      | (have ha:bW P t=some true:=by simp [bW,hu]
         simp only [ha]
         obtain ⟨cs,hv,_⟩:=hval
         exact Gi ⟨cs,hv⟩)
      | (have ha:bW P t=some false:=by simp [bW,hu]
         simp only [ha]
         refine scalar ha (Jw (fun cs hv=>?_))
         subst hv
         simp [Cell.okWide,hu,Cell.ok] at hval)
theorem MV {P:Program} {f:FuncId} {ss:List U} (h:aK P f ss [] [] (.rv (.bool true))) {w:World} {vs:List Value} (hl:vs.length=ss.length)
 (ha:∀ (j:Nat) (s:U),ss[j]?=some s→∀ (ok:Nat→Prop) (aa:Nat→Option Nat) (hp:Hp),(∀ b,b<w.heap.size→ok b)→Rp w ok aa hp s (vs.getD j undef)) :
 Calls P f vs.toArray w fun e w'=>e = .returned (.bool true)∧RowKit.Below w.heap.size w w':=by
 let C:Ctx:=⟨w,fun _=>True,fun _=>False,0,fun _=>none,fun _=>none⟩
 have R:bL C (fun _=>none) w (fun _=>none):=⟨fun id hb h=>(by cases h),fun i j b h=>(by simp at h),fun i b h=>(by simp at h),⟨rfl,rfl,rfl,Nat.le_refl _,fun b _ _=>rfl⟩,fun id hb hb0 h=>(by cases h)⟩
 refine (h.2 C (fun _=>none) w (fun _=>none) vs (fun q hq=>by simp at hq) (fun q hq=>by simp at hq) R hl (fun j s hj=>ha j s hj _ _ _ (fun b hb=>⟨.inl trivial,fun id hid=>by simp at hid⟩))).mono ?_
 rintro e w' ⟨v,aE,rfl,S,hR⟩
 refine ⟨by rw [qX hR],S.mem.fr.os,S.mem.fr.tape,S.mem.fr.output,S.mem.fr.size,fun k hk=>S.mem.fr.block k hk (fun h=>h)⟩
end Go.aI

namespace Go.aI
open Go
def aH (xs:List (List RV)):List (List U):=xs.map (List.map U.rv)
section
variable {xs ys:List (List RV)}
theorem Ay:xs.map (List.map U.rv)=aH xs:=rfl
theorem ay:(aH xs).length=xs.length:=by simp [aH]
theorem Pf {i:Nat}:((aH xs)[i]?).getD []=((xs[i]?).getD []).map U.rv:=by
 unfold aH
 rw [List.getElem?_map]
 cases xs[i]? <;> rfl
theorem Pg {n:Nat}:(aH xs).take n=aH (xs.take n):=by simp [aH]
theorem EW:aH xs++aH ys=aH (xs++ys):=by simp [aH]
theorem map_inj {α β:Type} {f:α→β} (hf:∀ x y,f x=f y→x=y):∀ {a b:List α},a.map f=b.map f→a=b
 | [],[],_=>rfl
 | [],_::_,h=>by simp at h
 | _::_,[],h=>by simp at h
 | x::a,y::b,h=>by
   simp only [List.map_cons,List.cons.injEq] at h
   rw [hf x y h.1,map_inj hf h.2]
theorem lR:aH xs=aH ys↔xs=ys:=by
 constructor
 ·intro h
  exact map_inj (fun a b h=>map_inj (fun x y h=>by cases h;rfl) h) h
 ·rintro rfl;rfl
end
def xV (τ:Nat→Option Nat) (h:Hp) (xs ys:List (List U)):Prop:=xs.length=ys.length∧∀ (i:Nat) (x y:List U),xs[i]?=some x→ys[i]?=some y→qi τ h x y
theorem dH {τ:Nat→Option Nat} {h:Hp} {xs ys:List (List RV)}:xV τ h (aH xs) (aH ys)↔xs=ys:=by
 constructor
 ·rintro ⟨hl,hr⟩
  refine List.ext_getElem? (fun i=>?_)
  rw [ay,ay] at hl
  by_cases hi:i<xs.length
  ·have h1:=List.getElem?_eq_getElem hi
   have h2:=List.getElem?_eq_getElem (l:=ys) (i:=i) (by omega)
   have:=hr i (xs[i].map U.rv) ((ys[i]'(by omega)).map U.rv) (by simp [aH,h1]) (by simp [aH,h2])
   rw [h1,h2]
   obtain ⟨k1,k2⟩:=this
   simp at k1
   congr 1
   refine List.ext_getElem? (fun j=>?_)
   by_cases hj:j<(xs[i]).length
   ·have g1:=List.getElem?_eq_getElem hj
    have g2:=List.getElem?_eq_getElem (l:=ys[i]'(by omega)) (i:=j) (by omega)
    have:=k2 j _ _ (by rw [List.getElem?_map,g1];rfl) (by rw [List.getElem?_map,g2];rfl)
    rw [g1,g2,aS.1 this]
   ·rw [List.getElem?_eq_none (by omega),List.getElem?_eq_none (by omega)]
  ·rw [List.getElem?_eq_none (by omega),List.getElem?_eq_none (by omega)]
 ·rintro rfl
  refine ⟨rfl,fun i x y hx hy=>?_⟩
  rw [hx] at hy;cases hy
  refine ⟨rfl,fun j a b ha hb=>?_⟩
  rw [ha] at hb;cases hb
  unfold aH at hx
  rw [List.getElem?_map] at hx
  cases hq:xs[i]? with
  | none=>simp [hq] at hx
  | some q=>
    simp [hq] at hx
    subst hx
    rw [List.getElem?_map] at ha
    cases hr:q[j]? with
    | none=>simp [hr] at ha
    | some r=>simp [hr] at ha;subst ha;exact aS.2 rfl
def cO (τ:Nat→Option Nat) (h:Hp):Option HB→Option HB→Prop
 | some (.var xs),some (.var ys)=>aR τ h xs ys
 | some (.row e v xs),some (.row e' v' ys)=>e=e'∧v=v'∧xV τ h xs ys
 | _,_=>False
theorem cO.get {τ:Nat→Option Nat} {h:Hp} {x y:Option HB} (hr:cO τ h x y):∃ a b,x=some a∧y=some b∧mV τ h a b:=by
 unfold cO at hr
 split at hr
 ·exact ⟨_,_,rfl,rfl,.var _ _ (sx.1 hr)⟩
 ·obtain ⟨rfl,rfl,h1,h2⟩:=hr
  exact ⟨_,_,rfl,rfl,.row _ _ _ _ h1 h2⟩
 ·exact hr.elim
def cW:List (Nat×HB)→Nat→Option HB
 | [],_=>none
 | (i,hb)::r,id=>if id=i then some hb else cW r id
def cQ:Option HB→List (Nat×HB)→Nat→Option HB
 | b,[],_=>b
 | b,(i,hb)::r,id=>cQ (if id=i then some hb else b) r id
theorem FN {id:Nat}:∀ {us:List (Nat×HB)} {hp:Hp},bz hp us id=cQ (hp id) us id
 | [],hp=>rfl
 | (i,hb)::r,hp=>by
   rw [bz,FN,cQ]
   unfold up
   rfl
theorem BT {id:Nat} {hb:HB}:∀ {us:List (Nat×HB)} {a:Option HB},cQ none us id=some hb→cQ a us id=some hb
 | [],a,h=>by cases h
 | (i,hb0)::r,a,h=>by
   unfold cQ at h ⊢
   by_cases hi:id=i
   ·rw [if_pos hi] at h ⊢;exact h
   ·rw [if_neg hi] at h ⊢;exact BT h
theorem DN {id:Nat} {hb:HB}:∀ {pre:List (Nat×HB)},cW pre id=some hb→(id,hb)∈pre
 | [],h=>by cases h
 | (i,hb0)::r,h=>by
   unfold cW at h
   split at h
   ·rename_i hi;cases h;subst hi;simp
   ·exact List.mem_cons_of_mem _ (DN h)
theorem HL {pre us:List (Nat×HB)} {id:Nat} {hb:HB} (h:cQ (cW pre id) us id=some hb) (hp:Hp) (hpre:aW hp pre):bz hp us id=some hb:=by
 rw [FN]
 cases hl:cW pre id with
 | none=>rw [hl] at h;exact BT h
 | some b=>
   rw [hl] at h
   rw [hpre (id,b) (DN hl)];exact h
def dx (τ:Nat→Option Nat) (h:Hp) (pre us:List (Nat×HB)):Nat→List (Option Nat)→Prop
 | _,[]=>True
 | j,none::r=>dx τ h pre us (j+1) r
 | j,some id::r=>cO τ h (h j) (cQ (cW pre id) us id)∧dx τ h pre us (j+1) r
theorem Dv {τ:Nat→Option Nat} {h:Hp} {pre us:List (Nat×HB)}:∀ {l:List (Option Nat)} {j:Nat},dx τ h pre us j l→∀ (i id:Nat),l[i]?=some (some id)→cO τ h (h (j+i)) (cQ (cW pre id) us id)
 | [],j,_,i,id,hi=>by simp at hi
 | x::r,j,hk,i,id,hi=>by
   cases i with
   | zero=>
     simp at hi
     subst hi
     exact hk.1
   | succ i=>
     have hk':dx τ h pre us (j+1) r:=by cases x with | none=>exact hk | some q=>exact hk.2
     have:=Dv hk' i id (by simpa using hi)
     rwa [show j+1+i=j+(i+1) by omega] at this
def dh (rm:List (Option Nat)) (j:Nat):Option Nat:=(rm[j]?).getD none
def bM:List (Option Nat)→Prop
 | []=>True
 | none::r=>bM r
 | some x::r=>some x∉r∧bM r
theorem xe:∀ {l:List (Option Nat)},bM l→∀ (i j id:Nat),l[i]?=some (some id)→l[j]?=some (some id)→i=j
 | [],_,i,j,id,h,_=>by simp at h
 | x::r,hn,i,j,id,h1,h2=>by
   have hn':bM r:=by cases x with | none=>exact hn | some q=>exact hn.2
   cases i with
   | zero=>
     simp at h1
     subst h1
     cases j with
     | zero=>rfl
     | succ j=>exact absurd (List.mem_of_getElem? (by simpa using h2)) hn.1
   | succ i=>
     cases j with
     | zero=>
       simp at h2
       subst h2
       exact absurd (List.mem_of_getElem? (by simpa using h1)) hn.1
     | succ j=>rw [xe hn' i j id (by simpa using h1) (by simpa using h2)]
def newL (pre us:List (Nat×HB)):List (Option Nat)→Prop
 | []=>True
 | none::r=>newL pre us r
 | some id::r=>id∈us.map (·.1)∧id∉pre.map (·.1)∧newL pre us r
theorem Ef {pre us:List (Nat×HB)}:∀ {l:List (Option Nat)},newL pre us l→∀ (i id:Nat),l[i]?=some (some id)→id∈us.map (·.1)∧id∉pre.map (·.1)
 | [],_,i,id,h=>by simp at h
 | x::r,hn,i,id,h=>by
   have hn':newL pre us r:=by cases x with | none=>exact hn | some q=>exact hn.2.2
   cases i with
   | zero=>simp at h;subst h;exact ⟨hn.1,hn.2.1⟩
   | succ i=>exact Ef hn' i id (by simpa using h)
def dK (rm:List (Option Nat)):List (Nat×HB)→Prop
 | []=>True
 | (i,_)::r=>some i∈rm∧dK rm r
theorem AV {rm:List (Option Nat)}:∀ {us:List (Nat×HB)},dK rm us→∀ q∈us,some q.1∈rm
 | [],_,q,h=>by simp at h
 | (i,hb)::r,hu,q,h=>by
   rcases List.mem_cons.1 h with rfl | h
   ·exact hu.1
   ·exact AV hu.2 q h
def dG (σ:List Nat) (pre us:List (Nat×HB)) (rs:List RR) (sv:U) (env:List (Nat×U)) (h:List (Option HB)) (fL:List (Option Nat)):Prop:=
 bM (σ.map some++fL)∧newL pre us fL∧dK (σ.map some++fL) us∧dx (dh (σ.map some++fL)) (ag h) pre us 0 (σ.map some++fL)∧bD (dh (σ.map some++fL)) (ag h) sv (bw (lk env) (ag h) rs)
theorem BU {σ:List Nat} {pre us:List (Nat×HB)} {rs:List RR} {sv:U} {env:List (Nat×U)} {h:List (Option HB)} {fL:List (Option Nat)} (hr:dG σ pre us rs sv env h fL):Fin σ pre us rs sv env h (dh (σ.map some++fL)):=by
 obtain ⟨h1,h2,h3,h4,h5⟩:=hr
 have nA:∀ j id,dh (σ.map some++fL) j=some id→(σ.map some++fL)[j]?=some (some id):=fun j id hj=>by
  unfold dh at hj
  cases hq:(σ.map some++fL)[j]? with
  | none=>rw [hq] at hj;cases hj
  | some x=>rw [hq] at hj;simp at hj;rw [hj]
 refine ⟨fun i j id hi hj=>xe h1 i j id (nA i id hi) (nA j id hj),fun j id hj=>?_,fun j id hj hl=>?_,fun j id hj=>?_,fun q hq=>?_,?_⟩
 ·unfold dh
  rw [List.getElem?_append_left (by have:=(List.getElem?_eq_some_iff.1 hj).1;simpa using this),List.getElem?_map,hj];rfl
 ·have:=nA j id hj
  rw [List.getElem?_append_right (by simpa using hl)] at this
  obtain ⟨g1,g2⟩:=Ef h2 _ id this
  exact ⟨g1,fun q hq he=>g2 (List.mem_map.2 ⟨q,hq,he⟩)⟩
 ·have:=Dv h4 j id (nA j id hj)
  rw [Nat.zero_add] at this
  obtain ⟨a,b,g1,g2,g3⟩:=this.get
  exact ⟨a,b,g1,g3,fun hp hpre=>HL g2 hp hpre⟩
 ·obtain ⟨j,hj,he⟩:=List.mem_iff_getElem.1 (AV h3 q hq)
  refine ⟨j,?_⟩
  unfold dh
  rw [List.getElem?_eq_getElem hj,he];rfl
 ·unfold bD at h5
  split at h5
  ·rename_i p xs hres;exact ⟨p,xs,hres,h5.1,h5.2⟩
  ·exact h5.elim
def aP (σ:Nat→Option Nat):List U→List U→Prop
 | [],[]=>True
 | x::xs,y::ys=>Bk σ x y∧aP σ xs ys
 | _,_=>False
theorem gn {σ:Nat→Option Nat}:∀ {xs ys:List U},aP σ xs ys↔qe σ xs ys
 | [],[]=>⟨fun _=>⟨rfl,fun i x y hx=>by simp at hx⟩,fun _=>trivial⟩
 | [],_::_=>⟨fun h=>h.elim,fun h=>by simp [qe] at h⟩
 | _::_,[]=>⟨fun h=>h.elim,fun h=>by simp [qe] at h⟩
 | x::xs,y::ys=>by
   unfold aP
   rw [gn (xs:=xs) (ys:=ys)]
   constructor
   ·rintro ⟨h1,h2,h3⟩
    refine ⟨by simp [h2],fun i a b ha hb=>?_⟩
    cases i with
    | zero=>simp at ha hb;subst ha;subst hb;exact h1
    | succ i=>exact h3 i a b (by simpa using ha) (by simpa using hb)
   ·rintro ⟨h2,h3⟩
    exact ⟨h3 0 x y rfl rfl,by simpa using h2,fun i a b ha hb=>h3 (i+1) a b (by simpa using ha) (by simpa using hb)⟩
section
variable {σ:Nat→Option Nat}
theorem bg {r r':RV}:Bk σ (.rv r) (.rv r')↔r=r':=⟨fun hr=>by cases hr;rfl,fun e=>by subst e;exact .rv _⟩
theorem lW {x:U}:Bk σ .dead x↔True:=⟨fun _=>trivial,fun _=>.dead _⟩
theorem gp {i j o o':Nat}:Bk σ (.ptr i o) (.ptr j o')↔σ i=some j∧o=o':=⟨fun hr=>by cases hr with | ptr _ _ _ hj=>exact ⟨hj,rfl⟩,fun ⟨e,e'⟩=>by subst e';exact .ptr _ _ _ e⟩
theorem fZ {i j v v' l l':Nat}:Bk σ (.row i v l) (.row j v' l')↔σ i=some j∧v=v'∧l=l':=⟨fun hr=>by cases hr with | row _ _ _ _ hj=>exact ⟨hj,rfl,rfl⟩,fun ⟨e,e',e2⟩=>by subst e';subst e2;exact .row _ _ _ _ e⟩
theorem bh {xs ys:List U}:Bk σ (.agg xs) (.agg ys)↔aP σ xs ys:=by rw [gn];exact ⟨fun hr=>by cases hr with | agg _ _ hl hf=>exact ⟨hl,hf⟩,fun ⟨e,e'⟩=>.agg _ _ e e'⟩
theorem lY {xs ys:List U}:Bk σ (.aM xs) (.aM ys)↔aP σ xs ys:=by rw [gn];exact ⟨fun hr=>by cases hr with | aM _ _ hl hf=>exact ⟨hl,hf⟩,fun ⟨e,e'⟩=>.aM _ _ e e'⟩
theorem bn {f f':FuncId} {xs ys:List U}:Bk σ (.fn f xs) (.fn f' ys)↔f=f'∧aP σ xs ys:=by rw [gn];exact ⟨fun hr=>by cases hr with | fn _ _ _ hl hf=>exact ⟨rfl,hl,hf⟩,fun ⟨e,e',e2⟩=>by subst e;exact .fn _ _ _ e' e2⟩
theorem Bc {f f':FuncId} {xs ys:List U}:Bk σ (.bZ f xs) (.bZ f' ys)↔f=f'∧aP σ xs ys:=by rw [gn];exact ⟨fun hr=>by cases hr with | bZ _ _ _ hl hf=>exact ⟨rfl,hl,hf⟩,fun ⟨e,e',e2⟩=>by subst e;exact .bZ _ _ _ e' e2⟩
theorem lX {t t':TypeId} {x y:U}:Bk σ (.bC t x) (.bC t' y)↔t=t'∧Bk σ x y:=⟨fun hr=>by cases hr with | bC _ _ _ hf=>exact ⟨rfl,hf⟩,fun ⟨e,e'⟩=>by subst e;exact .bC _ _ _ e'⟩
theorem bu {rs:List RV}:aP σ (rs.map .rv) (rs.map .rv)↔True:=⟨fun _=>trivial,fun _=>gn.2 ⟨rfl,fun i x y hx hy=>by
 rw [hx] at hy;cases hy
 rw [List.getElem?_map] at hx
 cases hr:rs[i]? with
 | none=>simp [hr] at hx
 | some r=>simp [hr] at hx;subst hx;exact .rv r⟩⟩
end
theorem cR {τ:Nat→Option Nat} {h:Hp} {rs qs:List RV}:aR τ h (rs.map .rv) (qs.map .rv)↔rs=qs:=by
 induction rs generalizing qs with
 | nil=>cases qs <;> simp [aR]
 | cons r rs ih=>cases qs with
   | nil=>simp [aR]
   | cons q qs=>simp [aR,aS,ih]
def dn (σ:Nat→Option Nat):List HB→List HB→Prop
 | [],[]=>True
 | .var xs::r,.var ys::q=>aP σ xs ys∧dn σ r q
 | .row e v xs::r,.row e' v' ys::q=>e=e'∧v=v'∧(xs=ys∧∃ zs,xs=aH zs)∧dn σ r q
 | _,_=>False
theorem dn.get {σ:Nat→Option Nat}:∀ {a b:List HB},dn σ a b→a.length=b.length∧∀ (j:Nat) (x y:HB),a[j]?=some x→b[j]?=some y→kL σ x y
 | [],[],_=>⟨rfl,fun j x y hx=>by simp at hx⟩
 | .var xs::r,.var ys::q,h=>by
   obtain ⟨g1,g2⟩:=dn.get h.2
   refine ⟨by simp [g1],fun j x y hx hy=>?_⟩
   cases j with
   | zero=>simp at hx hy;subst hx;subst hy;exact .var _ _ (gn.1 h.1)
   | succ j=>exact g2 j x y (by simpa using hx) (by simpa using hy)
 | .row e v xs::r,.row e' v' ys::q,h=>by
   obtain ⟨rfl,rfl,⟨rfl,zs,rfl⟩,h4⟩:=h
   obtain ⟨g1,g2⟩:=dn.get h4
   refine ⟨by simp [g1],fun j x y hx hy=>?_⟩
   cases j with
   | zero=>
     simp at hx hy;subst hx;subst hy
     refine .row _ _ _ _ rfl (fun i x y hx hy=>?_)
     rw [hx] at hy;cases hy
     unfold aH at hx
     rw [List.getElem?_map] at hx
     cases hq:zs[i]? with
     | none=>simp [hq] at hx
     | some z=>simp [hq] at hx;subst hx;exact gn.1 (bu.2 trivial)
   | succ j=>exact g2 j x y (by simpa using hx) (by simpa using hy)
 | [],_::_,h=>h.elim
 | .var _::_,[],h=>h.elim
 | .row .. :: _,[],h=>h.elim
 | .var _::_,.row .. :: _,h=>h.elim
 | .row .. :: _,.var _::_,h=>h.elim
theorem lp {P:Program} {f:FuncId} {N:Nat} {ac:AC} {rs:List RR} (H:aV P f N ac rs) (σ:List Nat) (lB kj:List HB) (eG args:List U) (us:List (Nat×HB)) (sv:U) (hN:args.length≤N) (hA:aP (fun j=>σ[j]?) eG args) (hl:lB.length=σ.length) (oY:bM (σ.map some)) (hB:dn (fun j=>σ[j]?) lB kj)
 (hrun:∀ K:Ex→St→Prop,(∀ env h env' h' fL,cI σ.length ⟨env,h⟩ ⟨env',h'⟩→dG σ (σ.zip kj) us rs sv env' h' fL→K .normal ⟨env,h⟩∧K .ret ⟨env,h⟩)→G P σ.length [.c ac] K (lK 0 eG) (lB.map some)):aK P f args (σ.zip kj) us sv:=by
 obtain ⟨g1,g2⟩:=hB.get
 refine vt H σ (lB.map some) eG hN (gn.1 hA) (by simpa using hl) (fun i j id h1 h2=>xe oY i j id (by simp [h1]) (by simp [h2])) (fun j id hj=>?_) (fun K hK=>hrun K (fun env h env' h' fL hE hr=>hK env h env' h' _ hE (BU hr)))
 have hlt:=(List.getElem?_eq_some_iff.1 hj).1
 have h1:=List.getElem?_eq_getElem (l:=lB) (i:=j) (by omega)
 have h2:=List.getElem?_eq_getElem (l:=kj) (i:=j) (by omega)
 refine ⟨_,_,by rw [List.getElem?_map,h1];rfl,?_,g2 j _ _ h1 h2⟩
 have hz:(σ.zip kj)[j]?=some (id,kj[j]'(by omega)):=by
  rw [List.getElem?_zip_eq_some];exact ⟨hj,h2⟩
 exact List.mem_of_getElem? hz
theorem dZ {x:Option HB} {r:List (Option HB)}:ag (x::r) 0=x:=rfl
theorem dY {x:Option HB} {r:List (Option HB)} {n:Nat}:ag (x::r) (n+1)=ag r n:=rfl
theorem IT {P:Program} {n0:Nat} {k:List It} {K:Ex→St→Prop} {env:List (Nat×U)} {h:List (Option HB)} {id:Nat} {a:List Nat} {b:List TE} {c:List aU}:GX P n0 id (.d a b c::k) K env h=GX P n0 id k K env h:=rfl
theorem Qx {α:Type} {o:Nat} {x l:List α}:splice l o x=l.take o++x++l.drop (o+x.length):=rfl
def rq (τ:Nat→Option Nat) (h:Hp):List U→List RV→Prop
 | [],[]=>True
 | x::xs,r::rs=>Fz τ h x r∧rq τ h xs rs
 | _,_=>False
theorem rq.get {τ:Nat→Option Nat} {h:Hp}:∀ {xs:List U} {rs:List RV},rq τ h xs rs→xs.length=rs.length∧∀ (j:Nat) (x:U) (r:RV),xs[j]?=some x→rs[j]?=some r→Fz τ h x r
 | [],[],_=>⟨rfl,fun j x r hx=>by simp at hx⟩
 | x::xs,r::rs,hf=>by
   obtain ⟨g1,g2⟩:=rq.get hf.2
   refine ⟨by simp [g1],fun j y q hy hq=>?_⟩
   cases j with
   | zero=>simp at hy hq;subst hy;subst hq;exact hf.1
   | succ j=>exact g2 j y q (by simpa using hy) (by simpa using hq)
 | [],_::_,h=>h.elim
 | _::_,[],h=>h.elim
theorem qq {τ:Nat→Option Nat} {h:Hp} {j e af len:Nat} {xs:List (List RV)} (hj:h j=some (.row e af (aH xs))) (gw:τ j=none) (hl:len≤xs.length) (h1:∀ x∈xs,∀ r∈x,r.one=true):Fz τ h (.row j af len) (.sl e (xs.take len)):=by
 have at_:∀ (i:Nat) (x:List U) (r:List RV),(aH xs)[i]?=some x→(xs.take len)[i]?=some r→x=r.map .rv∧r∈xs:=fun i x r hx hr=>by
  have h1:=List.mem_of_mem_take (List.mem_of_getElem? hr)
  have hlt:=(List.getElem?_eq_some_iff.1 hr).1
  rw [List.getElem?_take,if_pos (by simp at hlt;omega)] at hr
  unfold aH at hx
  rw [List.getElem?_map,hr] at hx
  simp at hx
  exact ⟨hx.symm,h1⟩
 refine .row j e af len (aH xs) (xs.take len) gw hj (by simp;omega) (by rw [ay];exact hl) (fun i x r hx hr=>?_) (fun i r k q hr hq=>?_) (fun i x r k y q hx hr hy hq=>?_)
 ·rw [(at_ i x r hx hr).1];simp
 ·exact h1 r (List.mem_of_mem_take (List.mem_of_getElem? hr)) q (List.mem_of_getElem? hq)
 ·rw [(at_ i x r hx hr).1,List.getElem?_map,hq] at hy
  simp at hy
  subst hy
  exact .rv q
theorem vr {P:Program} {f:FuncId} {rs:List RV} {args:List U} {pre us:List (Nat×HB)} {sv:U} (H:aK P f (rs.map .rv) [] us sv)
 (hz:∀ hp,aW hp pre→rq (fun _=>none) hp args rs) (hl:args.length=rs.length) (hfl:dJ sv) (fl:∀ q∈us,mT q.2∧∀ p∈pre,p.1≠q.1):aK P f args pre us sv:=
 GS H hl (fun hp hpre j y r hy hr=>(hz hp hpre).get.2 j y r hy hr) hfl fl
theorem bL.Cc {C:Ctx} {hp:Hp} {w:World} {aa:Nat→Option Nat} (R:bL C hp w aa) {i0 m o:Nat} {cs:List U} (e:Nat) (hi:hp i0=some (.var cs)) (ho:cs[o]?=some (.rv .bO)) (hm:hp m=none) (hm0:C.h0 m=none) :
 ∃ aE,Step C hp (up (up hp m (some (.row e 0 []))) i0 (some (.var (cs.set o (.row m 0 0))))) w w aa aE:=by
 have S:=R.ghost m e 0 (.inl ⟨hm,hm0⟩)
 have hne:i0≠m:=fun h=>by subst h;rw [hm] at hi;cases hi
 have hi':(up hp m (some (.row e 0 []))) i0=some (.var cs):=by rw [cE _ _ hne];exact hi
 rcases S.mem.heap i0 _ hi' with ⟨_,e',af,hc⟩ | ⟨b,cur,t,h1,h2,h3⟩
 ·cases hc
 ·have S2:=S.mem.replace i0 (.var (cs.set o (.row m 0 0))) b cur t rfl rfl rfl (Nat.le_refl _) h2 (fun k _ _=>rfl) (.inl ⟨by rw [hi'];rfl,h1⟩) (fun hb hq=>by rw [hi'] at hq;cases hq;exact h1.symm) (fun hq=>by rw [hi'] at hq;cases hq) ⟨by rw [List.length_set];exact h3.1,fun j y hy=>by
   rw [List.getElem?_set] at hy
   split at hy
   ·rename_i hj
    subst hj
    split at hy
    ·cases hy
     obtain ⟨v,v1,v2,v3⟩:=h3.2 _ _ ho
     refine ⟨v,v1,v2,?_⟩
     cases v3 with
     | rv _ _ hr=>
       cases hr
       exact .row _ _ _ _ rfl (by rw [bR];rfl) (fun e cF xs hx=>by rw [bR] at hx;cases hx;exact Nat.le_refl _) (fun e xs hx=>.inl ⟨bR _ _ _,rfl,rfl⟩)
    ·cases hy
   ·exact h3.2 j y hy⟩
  exact ⟨_,S.trans S2 (Nat.le_refl _)⟩
theorem GU {P:Program} {f:FuncId} {args:List U} {pre us:List (Nat×HB)} {sv:U} {i0 m e o:Nat} {cs:List U} (ho:cs[o]?=some (.rv .bO)) (hm:∀ q∈pre,q.1≠m∧q.1≠i0) (hne:m≠i0) (h1:i0∈us.map (·.1)) (h2:m∈us.map (·.1))
 (H:aK P f args ((i0,.var (cs.set o (.row m 0 0)))::(m,.row e 0 [])::pre) us sv):aK P f args ((i0,.var cs)::pre) us sv:=by
 refine ⟨H.1,fun C hp w aa vs hpre hnew R hvl hvs=>?_⟩
 have hi:hp i0=some (.var cs):=hpre (i0,.var cs) (by simp)
 obtain ⟨hmn,hm0⟩:hp m=none∧C.h0 m=none:=by
  obtain ⟨q,hq,rfl⟩:=List.mem_map.1 h2
  rcases hnew q hq with ⟨hb,hmem⟩ | h
  ·rcases List.mem_cons.1 hmem with he | hmem
   ·cases he;exact absurd rfl hne
   ·exact absurd rfl (hm _ hmem).1
  ·exact h
 obtain ⟨xz,S⟩:=R.Cc e hi ho hmn hm0
 have hE:∀ id,id≠m→id≠i0→(up (up hp m (some (.row e 0 []))) i0 (some (.var (cs.set o (.row m 0 0))))) id=hp id:=fun id a b=>by rw [cE _ _ b,cE _ _ a]
 have Ko:bz (up (up hp m (some (.row e 0 []))) i0 (some (.var (cs.set o (.row m 0 0))))) us=bz hp us:=by
  funext id
  by_cases hid:id∈us.map (·.1)
  ·exact uT hid
  ·rw [xQ hid,xQ hid,hE id (fun h=>hid (h▸h2)) (fun h=>hid (h▸h1))]
 refine (H.2 C _ w xz vs (fun q hq=>?_) (fun q hq=>?_) S.mem hvl (fun j s hj=>(hvs j s hj).mono S.eS)).mono ?_
 ·rcases List.mem_cons.1 hq with rfl | hq
  ·exact bR _ _ _
  ·rcases List.mem_cons.1 hq with rfl | hq
   ·show (up (up hp m _) i0 _) m=_
    rw [cE _ _ hne,bR]
   ·rw [hE _ (hm q hq).1 (hm q hq).2];exact hpre q (by simp [hq])
 ·rcases hnew q hq with ⟨hb,hmem⟩ | ⟨a,b⟩
  ·rcases List.mem_cons.1 hmem with he | hmem
   ·exact .inl ⟨_,by rw [(Prod.mk.inj he).1];exact .head _⟩
   ·exact .inl ⟨hb,by simp [hmem]⟩
  ·by_cases CJ:q.1=m
   ·exact .inl ⟨.row e 0 [],by rw [CJ];simp⟩
   ·refine .inr ⟨?_,b⟩
    rw [hE _ CJ (fun h=>by rw [h,hi] at a;cases a)];exact a
 ·rintro e' w' ⟨v,aE,rfl,S2,hR⟩
  rw [Ko] at S2 hR
  exact ⟨v,aE,rfl,S.trans S2 (Nat.le_refl _),hR⟩
theorem GO:(true != true)=false:=rfl
theorem GN:(true != false)=true:=rfl
theorem GM:(false != true)=true:=rfl
theorem GL:(false != false)=false:=rfl
end Go.aI

namespace Go.aI
open Go
def dA (k j:Nat):Option Nat:=if j<k then some j else none
def oq (τ:Nat→Option Nat) (h:Hp):Nat→List (Option HB)→Prop
 | _,[]=>True
 | _,none::_=>False
 | j,some hb::r=>cO τ h (h j) (some hb)∧oq τ h (j+1) r
theorem Dp {τ:Nat→Option Nat} {h:Hp}:∀ {l:List (Option HB)} {j:Nat},oq τ h j l→∀ i,i<l.length→∃ hb hb',l[i]?=some (some hb')∧h (j+i)=some hb∧mV τ h hb hb'
 | [],j,_,i,hi=>by simp at hi
 | none::_,j,hk,i,hi=>hk.elim
 | some x::r,j,hk,i,hi=>by
   cases i with
   | zero=>
     obtain ⟨a,b,g1,g2,g3⟩:=hk.1.get
     cases g2
     exact ⟨a,x,rfl,g1,g3⟩
   | succ i=>
     obtain ⟨a,b,g1,g2,g3⟩:=Dp hk.2 i (by simpa using hi)
     exact ⟨a,b,by simpa using g1,by rwa [show j+(i+1)=j+1+i by omega],g3⟩
theorem rH {n0:Nat} {env env':List (Nat×U)} {h:List (Option HB)} (h':List (Option HB)) (hn:n0≤h'.length) (hk:oq (dA h'.length) (ag h) 0 h')
 (he:∀ p∈env',Rn (dA h'.length) (ag h) (lk env p.1) p.2):cI n0 ⟨env,h⟩ ⟨env',h'⟩:=by
 refine BJ (dA h'.length) hn (fun j i hj=>?_) (fun j hj=>?_) (fun j=>?_) (wU (fun x=>.dead x) he)
 ·unfold dA at hj;split at hj <;> cases hj;rfl
 ·unfold dA at hj;split at hj
  ·cases hj
  ·omega
 ·by_cases hj:j<h'.length
  ·obtain ⟨hb,hb',g1,g2,g3⟩:=Dp hk j hj
   rw [Nat.zero_add] at g2
   exact .inl ⟨hb,hb',by simp [dA,hj],g2,oW.2 g1,g3⟩
  ·refine .inr ⟨?_,.inl (by simp [dA,hj])⟩
   unfold ag
   rw [List.getElem?_eq_none (by omega)]
theorem Au {τ:Nat→Option Nat} {h:Hp} {j e af len:Nat} {xs:List (List RV)} (hj:h j=some (.row e af (aH xs))) (gw:τ j=none) (hl:len=xs.length) (h1:∀ x∈xs,∀ r∈x,r.one=true):Rn τ h (.row j af len) (.rv (.sl e xs)):=by
 have:=qq (τ:=τ) hj gw (len:=len) (by omega) h1
 rw [hl,List.take_length] at this
 rw [hl];exact .fz _ _ this
theorem RO.Pj {w:World} {ok:Nat→Prop} {e:Nat} {v:Value} (h:RO w ok (.sl e []) v):RO w ok .bO v∨RO w ok .kD v:=by
 cases h with
 | sl _ _ a cap c h0 hc hm he hr h1 hy=>
   cases a with
   | none=>have:=(h0 rfl).2;subst this;exact .inl .bO
   | some a=>exact .inr (.kD a cap hm)
theorem Bl {P:Program} {f:FuncId} {e:Nat} {fY bs:List U} {pre us:List (Nat×HB)} {sv:U} (h1:aK P f (fY ++ .rv .bO::bs) pre us sv) (h2:aK P f (fY ++ .rv .kD::bs) pre us sv):aK P f (fY ++ .rv (.sl e [])::bs) pre us sv:=by
 refine ⟨h1.1,fun C hp w aa vs hpre hnew R hvl hvs=>?_⟩
 have hj:=hvs fY.length (.rv (.sl e [])) (by simp)
 have key:∀ r:RV,RO w (aD C aa hp) r (vs.getD fY.length undef)→∀ (j:Nat) (s:U),(fY ++ .rv r::bs)[j]?=some s→Rp w (aD C aa hp) aa hp s (vs.getD j undef):=fun r hr j s hs=>by
  by_cases he:j=fY.length
  ·subst he
   simp at hs
   subst hs
   exact .rv _ _ hr
  ·refine hvs j s ?_
   by_cases hlt:j<fY.length
   ·rw [List.getElem?_append_left hlt] at hs ⊢;exact hs
   ·rw [List.getElem?_append_right (by omega)] at hs ⊢
    obtain ⟨k,hk⟩:∃ k,j - fY.length=k+1:=⟨j - fY.length - 1,by omega⟩
    rw [hk,List.getElem?_cons_succ] at hs ⊢
    exact hs
 cases hj with
 | rv _ _ hr=>
   rcases RO.Pj hr with hr | hr
   ·exact h1.2 C hp w aa vs hpre hnew R (by simpa using hvl) (key _ hr)
   ·exact h2.2 C hp w aa vs hpre hnew R (by simpa using hvl) (key _ hr)
end Go.aI

namespace Go.aI
open Go
section
variable {P:Program} {n0:Nat} {k:List It} {K:Ex→St→Prop} {env:List (Nat×U)} {h:List (Option HB)}
theorem GZ {a b:AC}:vG P n0 a b k K env h (.rv (.bool true))=G P n0 (.c a::k) K env h:=rfl
theorem GY {a b:AC}:vG P n0 a b k K env h (.rv (.bool false))=G P n0 (.c b::k) K env h:=rfl
theorem ai {a b:AC} {t:Bool} (h1:t=true→G P n0 (.c a::k) K env h) (h2:t=false→G P n0 (.c b::k) K env h):vG P n0 a b k K env h (.rv (.bool t)):=by
 cases t
 ·exact h2 rfl
 ·exact h1 rfl
section
variable {ao:AO} {xs:List XO} {dst:Option Nat} {r:List aU} {aL:List Nat} {acc:List TE} {bV:List Nat}
theorem IE:qt P n0 true ao xs dst r k K env h (.rv (.bool true))=qQ P n0 ao (xs.map (eo (lk env))) dst r k K env h:=rfl
theorem ID:qt P n0 true ao xs dst r k K env h (.rv (.bool false))=G P n0 (.o r::k) K (cD dst (.aM []) env) h:=rfl
theorem IC:qt P n0 false ao xs dst r k K env h (.rv (.bool true))=G P n0 (.o r::k) K (cD dst (.aM []) env) h:=rfl
theorem IB:qt P n0 false ao xs dst r k K env h (.rv (.bool false))=qQ P n0 ao (xs.map (eo (lk env))) dst r k K env h:=rfl
theorem IF {b:Bool}:qt P n0 b ao xs dst r k K env h (.aM [])=G P n0 (.o r::k) K (cD dst (.aM []) env) h:=rfl
theorem IL {b:Bool}:qu P n0 aL acc bV b ao xs dst r k K env h (.aM [])=G P n0 (.d aL (acc++[⟨bV,dst,[],[]⟩]) r::k) K (cD dst (.aM []) env) h:=rfl
theorem aB {b t:Bool} (h1:t=b→qQ P n0 ao (xs.map (eo (lk env))) dst r k K env h) (h2:t = !b→G P n0 (.o r::k) K (cD dst (.aM []) env) h):qt P n0 b ao xs dst r k K env h (.rv (.bool t)):=by
 cases t <;> cases b <;> first | exact h1 rfl | exact h2 rfl
theorem IK:qu P n0 aL acc bV true ao xs dst r k K env h (.rv (.bool true))=qS P n0 aL acc bV ao (xs.map (eo (lk env))) dst r k K env h:=rfl
theorem IJ:qu P n0 aL acc bV true ao xs dst r k K env h (.rv (.bool false))=G P n0 (.d aL (acc++[⟨bV,dst,[],[]⟩]) r::k) K (cD dst (.aM []) env) h:=rfl
theorem II:qu P n0 aL acc bV false ao xs dst r k K env h (.rv (.bool true))=G P n0 (.d aL (acc++[⟨bV,dst,[],[]⟩]) r::k) K (cD dst (.aM []) env) h:=rfl
theorem IG:qu P n0 aL acc bV false ao xs dst r k K env h (.rv (.bool false))=qS P n0 aL acc bV ao (xs.map (eo (lk env))) dst r k K env h:=rfl
theorem aC {b t:Bool} (h1:t=b→qS P n0 aL acc bV ao (xs.map (eo (lk env))) dst r k K env h) (h2:t = !b→G P n0 (.d aL (acc++[⟨bV,dst,[],[]⟩]) r::k) K (cD dst (.aM []) env) h):qu P n0 aL acc bV b ao xs dst r k K env h (.rv (.bool t)):=by
 cases t <;> cases b <;> first | exact h1 rfl | exact h2 rfl
end
end
theorem Oy {x y:U}:uI [.rv (.bool true),x,y]=some (True,x,none,[]):=rfl
theorem Ox {x y:U}:uI [.rv (.bool false),x,y]=some (True,y,none,[]):=rfl
theorem cj {x y:Int}:(x == y)=decide (x=y):=rfl
theorem FW {m:Int} (h1:0≤m) (h2:m≤4611686018427387904):IntKind.i64.wrap (0 - m) = -m:=by rw [wrap_i64 (by omega) (by omega)];omega
theorem vq {P:Program} {f:FuncId} {N:Nat} {ac:AC} {rs:List RR} (H:aV P f N ac rs) (σ:List Nat) (lB kj:List HB) (eG args:List U) (us:List (Nat×HB)) (sv:U) (hN:args.length≤N) (hA:aP (fun j=>σ[j]?) eG args) (hl:lB.length=σ.length) (oY:bM (σ.map some)) (g1:lB.length=kj.length)
 (g2:∀ (j:Nat) (x y:HB),lB[j]?=some x→kj[j]?=some y→kL (fun j=>σ[j]?) x y)
 (hrun:∀ K:Ex→St→Prop,(∀ env h env' h' fL,cI σ.length ⟨env,h⟩ ⟨env',h'⟩→dG σ (σ.zip kj) us rs sv env' h' fL→K .normal ⟨env,h⟩∧K .ret ⟨env,h⟩)→G P σ.length [.c ac] K (lK 0 eG) (lB.map some)):aK P f args (σ.zip kj) us sv:=by
 refine vt H σ (lB.map some) eG hN (gn.1 hA) (by simpa using hl) (fun i j id h1 h2=>xe oY i j id (by simp [h1]) (by simp [h2])) (fun j id hj=>?_) (fun K hK=>hrun K (fun env h env' h' fL hE hr=>hK env h env' h' _ hE (BU hr)))
 have hlt:=(List.getElem?_eq_some_iff.1 hj).1
 have h1:=List.getElem?_eq_getElem (l:=lB) (i:=j) (by omega)
 have h2:=List.getElem?_eq_getElem (l:=kj) (i:=j) (by omega)
 refine ⟨_,_,by rw [List.getElem?_map,h1];rfl,?_,g2 j _ _ h1 h2⟩
 have hz:(σ.zip kj)[j]?=some (id,kj[j]'(by omega)):=by
  rw [List.getElem?_zip_eq_some];exact ⟨hj,h2⟩
 exact List.mem_of_getElem? hz
theorem GW {P:Program} {f:FuncId} {args:List U} {pre pre' us:List (Nat×HB)} {sv:U} (h:aK P f args pre us sv) (hp:∀ q,q∈pre↔q∈pre'):aK P f args pre' us sv:=
 ⟨h.1,fun C fk w aa vs a b c d e=>h.2 C fk w aa vs (fun q hq=>a q ((hp q).1 hq)) (fun q hq=>(b q hq).imp (fun ⟨hb,hm⟩=>⟨hb,(hp _).2 hm⟩) id) c d e⟩
def de (i:Nat) (os:List Nat):List (List U):=os.map fun o=>[.ptr i o]
theorem EA {i:Nat} {os:List Nat}:(de i os).length=os.length:=by simp [de]
theorem xC {τ:Nat→Option Nat} {h:Hp} {i j:Nat} {os:List Nat} (gw:τ i=some j):xV τ h (de i os) (de j os):=by
 refine ⟨by simp [de],fun k x y hx hy=>?_⟩
 unfold de at hx hy
 rw [List.getElem?_map] at hx hy
 cases hk:os[k]? with
 | none=>simp [hk] at hx
 | some o=>
   simp [hk] at hx hy
   subst hx;subst hy
   exact sx.1 ⟨.ptr _ _ _ gw,trivial⟩
theorem GI {σ:Nat→Option Nat} {i j e v:Nat} {os:List Nat} (mw:σ i=some j):kL σ (.row e v (de i os)) (.row e v (de j os)):=by
 refine .row _ _ _ _ (by simp [de]) (fun k x y hx hy=>?_)
 unfold de at hx hy
 rw [List.getElem?_map] at hx hy
 cases hk:os[k]? with
 | none=>simp [hk] at hx
 | some o=>
   simp [hk] at hx hy
   subst hx;subst hy
   exact gn.1 ⟨.ptr _ _ _ mw,trivial⟩
theorem Be {σ:Nat→Option Nat} {rs:List RV}:kL σ (.var (rs.map .rv)) (.var (rs.map .rv)):=.var _ _ (gn.1 (bu.2 trivial))
theorem ya {σ:Nat→Option Nat} {xs ys:List U} (h:aP σ xs ys):kL σ (.var xs) (.var ys):=.var _ _ (gn.1 h)
theorem Bd {σ:Nat→Option Nat} {e v:Nat} {xs:List (List RV)}:kL σ (.row e v (aH xs)) (.row e v (aH xs)):=by
 refine .row _ _ _ _ rfl (fun i x y hx hy=>?_)
 rw [hx] at hy;cases hy
 unfold aH at hx
 rw [List.getElem?_map] at hx
 cases hq:xs[i]? with
 | none=>simp [hq] at hx
 | some z=>simp [hq] at hx;subst hx;exact gn.1 (bu.2 trivial)
theorem Gj {p:Nat→HB→HB→Prop} {a a' b b' c c':HB} (h0:p 0 a a') (h1:p 1 b b') (h2:p 2 c c'):∀ (j:Nat) (x y:HB),[a,b,c][j]?=some x→[a',b',c'][j]?=some y→p j x y:=by
 intro j x y hx hy
 match j with
 | 0=>simp at hx hy;subst hx;subst hy;exact h0
 | 1=>simp at hx hy;subst hx;subst hy;exact h1
 | 2=>simp at hx hy;subst hx;subst hy;exact h2
 | j+3=>simp at hx
theorem AT {p:Nat→HB→HB→Prop} {a a' b b':HB} (h0:p 0 a a') (h1:p 1 b b'):∀ (j:Nat) (x y:HB),[a,b][j]?=some x→[a',b'][j]?=some y→p j x y:=by
 intro j x y hx hy
 match j with
 | 0=>simp at hx hy;subst hx;subst hy;exact h0
 | 1=>simp at hx hy;subst hx;subst hy;exact h1
 | j+2=>simp at hx
theorem bG {P:Program} {f:FuncId} {N:Nat} {ac:AC} {rs:List RR} (H:aV P f N ac rs) (args:List U) (sv:U) (hN:args.length≤N) (hA:aP (fun j=>([]:List Nat)[j]?) args args)
 (hrun:∀ K:Ex→St→Prop,(∀ env h,bD (fun _=>none) (ag h) sv (bw (lk env) (ag h) rs)→K .normal ⟨env,h⟩∧K .ret ⟨env,h⟩)→G P 0 [.c ac] K (lK 0 args) []):aK P f args [] [] sv:=by
 refine vt H [] [] args hN (gn.1 hA) rfl (by simp) (by simp) (fun K hK=>hrun K (fun env h hr=>?_))
 unfold bD at hr
 split at hr
 ·rename_i p xs hres
  exact hK env h env h (fun _=>none) (dr _ _) ⟨by simp,by simp,by simp,by simp,by simp,p,xs,hres,hr.1,hr.2⟩
 ·exact hr.elim
theorem bP {τ:Nat→Option Nat} {h:Hp} {env:List (Nat×U)} {n:Nat} {r:RV} (hl:lk env n = .rv r):bD τ h (.rv r) (bw (lk env) h [.t n]):=by
 simp [bw,bD,bN,hl,aS]
theorem kC {τ:Nat→Option Nat} {h:Hp} {env:List (Nat×U)} {n m:Nat} {r q:RV} (hl:lk env n = .rv r) (hm:lk env m = .rv q):bD τ h (.aM [.rv r,.rv q]) (bw (lk env) h [.t n,.t m]):=by
 simp [bw,bD,bN,hl,hm,aS,bQ,aR]
theorem yN {τ:Nat→Option Nat} {h:Hp}:∀ (bs:List RV),rq τ h (bs.map .rv) bs
 | []=>trivial
 | b::bs=>⟨.rv b,yN bs⟩
theorem DD {P:Program} {f:FuncId} {e id v n:Nat} {xs:List (List RV)} {bs:List RV} {r:RV} (H:aK P f (.rv (.sl e xs)::bs.map .rv) [] [] (.rv r)) (hf:eE r) (hn:n=xs.length) (h1:∀ x∈xs,∀ r∈x,r.one=true) :
 aK P f (.row id v n::bs.map .rv) [(id,.row e v (aH xs))] [] (.rv r):=by
 refine vr (rs:=.sl e xs::bs) H (fun hp hpre=>⟨?_,?_⟩) (by simp) (.rv _ hf) (by simp)
 ·have:=qq (h:=hp) (τ:=fun _=>none) (j:=id) (e:=e) (af:=v) (len:=n) (xs:=xs) (hpre _ (.head _)) rfl (by omega) h1
  rwa [hn,List.take_length,← hn] at this
 ·exact yN bs
theorem Nf {P:Program} {f:FuncId} {e id v n:Nat} {xs:List (List RV)} {bs:List RV} {rs:List RV} (H:aK P f (.rv (.sl e xs)::bs.map .rv) [] [] (.aM (rs.map .rv))) (hf:∀ r∈rs,eE r) (hn:n=xs.length) (h1:∀ x∈xs,∀ r∈x,r.one=true) :
 aK P f (.row id v n::bs.map .rv) [(id,.row e v (aH xs))] [] (.aM (rs.map .rv)):=by
 refine vr (rs:=.sl e xs::bs) H (fun hp hpre=>⟨?_,?_⟩) (by simp) (.aM _ (fun j y hy=>?_)) (by simp)
 ·have:=qq (h:=hp) (τ:=fun _=>none) (j:=id) (e:=e) (af:=v) (len:=n) (xs:=xs) (hpre _ (.head _)) rfl (by omega) h1
  rwa [hn,List.take_length,← hn] at this
 ·exact yN bs
 ·rw [List.getElem?_map] at hy
  cases hr:rs[j]? with
  | none=>simp [hr] at hy
  | some r=>simp [hr] at hy;subst hy;exact .rv _ (hf r (List.mem_of_getElem? hr))
end Go.aI

namespace Go.aI
open Go
theorem qo {n0:Nat} {env:List (Nat×U)} {h:List (Option HB)} (n e v:Nat) (hn:lk env n = .rv .bO):cI n0 ⟨env,h⟩ ⟨(n,.row h.length v 0)::env,h++[some (.row e v [])]⟩:=by
 intro C a w R
 obtain ⟨⟨aa,RF⟩,h1,h0⟩:=R
 have hnone:ag h h.length=none:=by unfold ag;rw [List.getElem?_eq_none (Nat.le_refl _)]
 have tE:C.h0 h.length=none:=h0 _ h1
 have S:=RF.mem.ghost h.length e v (.inl ⟨hnone,tE⟩)
 have fX:=RF.step S
 have hh:ag (h++[some (.row e v [])])=up (ag h) h.length (some (.row e v [])):=by
  have:=wq (h:=h) (q:=(h.length,.row e v [])) (Nat.le_refl _)
  rw [← this]
  unfold aZ;rw [if_pos rfl]
 have hv:=RF.env n
 rw [hn] at hv
 refine ⟨⟨up aa h.length none,?_,fun m=>?_,fX.size,fX.defers⟩,?_,h0⟩
 ·show bL C (ag (h++[some (.row e v [])])) w (up aa h.length none)
  rw [hh];exact fX.mem
 ·show Rp w (aD C (up aa h.length none) (ag (h++[some (.row e v [])]))) (up aa h.length none) (ag (h++[some (.row e v [])])) (lk ((n,.row h.length v 0)::env) m) _
  rw [hh,uy]
  by_cases hm:m=n
  ·subst hm
   rw [bR]
   cases hv with
   | rv _ _ hr=>
     generalize a.tmps.getD m undef=v at hr
     cases hr
     refine .row _ _ _ _ rfl (by rw [bR];rfl) (fun e cF xs hx=>by rw [bR] at hx;cases hx;exact Nat.le_refl _) (fun e xs hx=>.inl ⟨bR _ _ _,rfl,rfl⟩)
  ·rw [cE _ _ hm];exact fX.env m
 ·show n0≤(h++[some (HB.row e v [])]).length
  have Ja:n0≤h.length:=h1
  simp;omega
theorem bL.IM {C:Ctx} {hp:Hp} {w:World} {aa:Nat→Option Nat} (R:bL C hp w aa) {i0 m k v:Nat} {xs:List (List U)} (e:Nat) (hi:hp i0=some (.row 1 v xs)) (ho:xs[k]?=some [.rv .bO]) (hm:hp m=none) (hm0:C.h0 m=none) :
 ∃ aE,Step C hp (up (up hp m (some (.row e 0 []))) i0 (some (.row 1 v (xs.set k [.row m 0 0])))) w w aa aE:=by
 have S:=R.ghost m e 0 (.inl ⟨hm,hm0⟩)
 have hne:i0≠m:=fun h=>by subst h;rw [hm] at hi;cases hi
 have hi':(up hp m (some (.row e 0 []))) i0=some (.row 1 v xs):=by rw [cE _ _ hne];exact hi
 rcases S.mem.heap i0 _ hi' with ⟨_,e',af,hc⟩ | ⟨b,cur,t,h1,h2,h3⟩
 ·cases hc;simp at ho
 ·have S2:=S.mem.replace i0 (.row 1 v (xs.set k [.row m 0 0])) b cur t rfl rfl rfl (Nat.le_refl _) h2 (fun k _ _=>rfl) (.inl ⟨by rw [hi'];rfl,h1⟩) (fun hb hq=>by
   rw [hi'] at hq;cases hq
   exact ⟨Nat.le_refl _,fun _=>⟨rfl,h1.symm,fun b' _ cur t hc=>⟨cur,t,hc,rfl⟩⟩⟩) (fun hq=>by rw [hi'] at hq;cases hq) ⟨fun x hx=>by
   rcases List.mem_or_eq_of_mem_set hx with h | h
   ·exact h3.1 x h
   ·rw [h];rfl,by rw [List.length_set];exact h3.2.1,fun i x hx=>by
   rw [List.getElem?_set] at hx
   split at hx
   ·rename_i hik
    subst hik
    split at hx
    ·cases hx
     intro j y hy
     cases j with
     | succ j=>simp at hy
     | zero=>
       simp at hy
       subst hy
       obtain ⟨u,v1,v2,v3⟩:=h3.2.2 _ _ ho 0 _ rfl
       refine ⟨u,v1,v2,?_⟩
       cases v3 with
       | rv _ _ hr=>
         cases hr
         exact .row _ _ _ _ rfl (by rw [bR];rfl) (fun e cF xs hx=>by rw [bR] at hx;cases hx;exact Nat.le_refl _) (fun e xs hx=>.inl ⟨bR _ _ _,rfl,rfl⟩)
    ·cases hx
   ·exact h3.2.2 i x hx⟩
  exact ⟨_,S.trans S2 (Nat.le_refl _)⟩
def dW (n:Nat) (e:Nat):List (Option HB):=List.replicate n (some (.row e 0 []))
def dB (b n k:Nat):List (List U):=(List.range n).map fun p=>if p<k then [.row (b+p) 0 0] else [.rv .bO]
theorem HE {n0:Nat} {env:List (Nat×U)} {h:List (Option HB)} {r v n e k:Nat} (hr:h[r]?=some (some (.row 1 v (dB h.length n k)))) (hk:k<n) :
 cI n0 ⟨env,h++dW k e⟩ ⟨env,(h.set r (some (.row 1 v (dB h.length n (k+1)))))++dW (k+1) e⟩:=by
 intro C a w R
 obtain ⟨⟨aa,RF⟩,h1,h0⟩:=R
 have hrl:r<h.length:=(List.getElem?_eq_some_iff.1 hr).1
 have hlen:(h++dW k e).length=h.length+k:=by simp [dW]
 have hnone:ag (h++dW k e) (h.length+k)=none:=by unfold ag;rw [List.getElem?_eq_none (by rw [hlen];exact Nat.le_refl _)]
 have tE:C.h0 (h.length+k)=none:=h0 _ (by have:n0≤(h++dW k e).length:=h1;omega)
 have hi:ag (h++dW k e) r=some (.row 1 v (dB h.length n k)):=by
  unfold ag;rw [List.getElem?_append_left hrl,hr]
 have ho:(dB h.length n k)[k]?=some [.rv .bO]:=by simp [dB,hk]
 have M:bL C (ag (h++dW k e)) w aa:=RF.mem
 obtain ⟨aE,S⟩:=M.IM e hi ho hnone tE
 have qG:(dB h.length n k).set k [.row (h.length+k) 0 0]=dB h.length n (k+1):=by
  refine List.ext_getElem (by simp [dB]) (fun i a1 a2=>?_)
  simp only [List.getElem_set,dB,List.getElem_map,List.getElem_range]
  by_cases hik:k=i
  ·subst hik;simp
  ·rw [if_neg hik]
   by_cases hlt:i<k
   ·rw [if_pos hlt,if_pos (by omega)]
   ·rw [if_neg hlt,if_neg (by omega)]
 have hh:ag ((h.set r (some (.row 1 v (dB h.length n (k+1)))))++dW (k+1) e)=up (up (ag (h++dW k e)) (h.length+k) (some (.row e 0 []))) r (some (.row 1 v ((dB h.length n k).set k [.row (h.length+k) 0 0]))):=by
  rw [qG]
  funext j
  unfold ag up
  by_cases hj:j=r
  ·subst hj
   rw [if_pos rfl,List.getElem?_append_left (by simpa using hrl),List.getElem?_set]
   simp [hrl]
  ·rw [if_neg hj]
   by_cases wA:j=h.length+k
   ·subst wA
    rw [if_pos rfl,List.getElem?_append_right (by simp)]
    simp [dW]
   ·rw [if_neg wA]
    dsimp only
    by_cases hjl:j<h.length
    ·rw [List.getElem?_append_left (by simpa using hjl),List.getElem?_append_left hjl,List.getElem?_set_ne (Ne.symm hj)]
    ·rw [List.getElem?_append_right (by simp;omega),List.getElem?_append_right (by omega)]
     simp only [List.length_set,dW,List.getElem?_replicate]
     by_cases Cx:j - h.length<k
     ·rw [if_pos (by omega),if_pos Cx]
     ·rw [if_neg (by omega),if_neg Cx]
 have fX:=RF.step S
 refine ⟨⟨aE,?_,fun m=>?_,fX.size,fX.defers⟩,?_,h0⟩
 ·show bL C (ag _) w aE
  rw [hh];exact fX.mem
 ·show Rp w (aD C aE (ag _)) aE (ag _) _ _
  rw [hh];exact fX.env m
 ·show n0≤((h.set r _)++dW (k+1) e).length
  have:n0≤(h++dW k e).length:=h1
  simp [dW] at this ⊢;omega
theorem BK {n0:Nat} {env:List (Nat×U)} {h:List (Option HB)} {r v n e:Nat} (hr:h[r]?=some (some (.row 1 v (List.replicate n [.rv .bO])))) :
 cI n0 ⟨env,h⟩ ⟨env,(h.set r (some (.row 1 v (dB h.length n n))))++dW n e⟩:=by
 have hrl:r<h.length:=(List.getElem?_eq_some_iff.1 hr).1
 have hz:dB h.length n 0=List.replicate n [.rv .bO]:=by
  refine List.ext_getElem (by simp [dB]) (fun i h1 h2=>?_)
  simp [dB]
 have key:∀ k,k≤n→cI n0 ⟨env,h⟩ ⟨env,(h.set r (some (.row 1 v (dB h.length n k))))++dW k e⟩:=by
  intro k
  induction k with
  | zero=>
    intro _
    have:h.set r (some (.row 1 v (dB h.length n 0)))=h:=by
     rw [hz]
     refine List.ext_getElem? (fun i=>?_)
     rw [List.getElem?_set]
     by_cases hi:r=i
     ·subst hi;rw [if_pos rfl,if_pos hrl,hr]
     ·rw [if_neg hi]
    rw [this]
    simpa [dW] using dr n0 ⟨env,h⟩
  | succ k ih=>
    intro hk
    refine (ih (by omega)).trans ?_
    have hl:(h.set r (some (.row 1 v (dB h.length n k)))).length=h.length:=by simp
    have:=HE (n0:=n0) (env:=env) (h:=h.set r (some (.row 1 v (dB h.length n k)))) (r:=r) (v:=v) (n:=n) (e:=e) (k:=k) (by rw [hl,List.getElem?_set];simp [hrl]) (by omega)
    rw [hl,List.set_set] at this
    exact this
 exact key n (Nat.le_refl _)
theorem GV {P:Program} {f:FuncId} {rs:List RV} {us:List (Nat×HB)} {sv uN:U} (H:aK P f (rs.map .rv) [] us sv) (hz:Rn (fun _=>none) (bz (fun _=>none) us) sv uN) (ah:∃ rs',uN = .rv rs'∨∃ qs:List RV,uN = .aM (qs.map .rv)):aK P f (rs.map .rv) [] [] uN:=by
 refine ⟨H.1,fun C hp w aa vs hpre hnew R hvl hvs=>?_⟩
 let C2:Ctx:=⟨w,fun b=>aD C aa hp b,fun _=>False,C.N,fun _=>none,fun _=>none⟩
 have qD:∀ b,C2.uD b→aD C2 (fun _=>none) (fun _=>none) b:=fun b hb=>⟨.inl hb,fun id hid=>by simp at hid⟩
 have R2:bL C2 (fun _=>none) w (fun _=>none):=⟨fun id hb h=>(by cases h),fun i j b h=>(by simp at h),fun i b h=>(by simp at h),⟨rfl,rfl,rfl,Nat.le_refl _,fun b _ _=>rfl⟩,fun id hb hb0 h=>(by cases h)⟩
 refine (H.2 C2 (fun _=>none) w (fun _=>none) vs (fun q hq=>by simp at hq) (fun q hq=>.inr ⟨rfl,rfl⟩) R2 hvl (fun j s hj=>?_)).mono ?_
 ·have h1:=hvs j s hj
  rw [List.getElem?_map] at hj
  cases hr:rs[j]? with
  | none=>simp [hr] at hj
  | some r=>
    simp [hr] at hj
    subst hj
    cases h1 with
    | rv _ _ h=>exact .rv _ _ (h.mono fun b hb _=>⟨qD b hb,rfl⟩)
 ·rintro e w' ⟨v,aE,rfl,S,hR⟩
  have R':=S.mem
  have hsz:w.heap.size≤w'.heap.size:=R'.fr.size
  have qO:∀ b,aD C aa hp b→b<w.heap.size→aD C aa hp b∧w'.heap[b]?=w.heap[b]?:=fun b hb hlt=>⟨hb,R'.fr.block b hlt (fun h=>h)⟩
  have Eh:∀ b,w.heap.size≤b→aD C aa hp b:=fun b hb=>⟨.inr (Nat.le_trans R.fr.size hb),fun id hid he=>by have:=(R.own id b hid he).2;omega⟩
  have E:ek w w' (aD C aa hp) (aD C aa hp) aa aa hp hp:=ek.of qO (fun id hb hq=>⟨hb,hq,by
   cases hb with
   | var cs=>rfl
   | row e af xs=>exact ⟨Nat.le_refl _,fun _=>⟨rfl,rfl,fun b hb cur t hc=>⟨cur,t,by rw [R'.fr.block b (R.own id b (by rw [hq];rfl) hb).2 (fun h=>h)];exact hc,rfl⟩⟩⟩⟩)
  have out:Rp w' (aD C aa hp) aa hp uN v:=hR.leave (τ:=fun _=>none) (aa:=aa) (hp:=hp) (fun b hb=>by
   rcases hb.1 with h | h
   ·exact h
   ·exact Eh b h) (fun j b _ hs hb=>by
   rcases (R'.own j b hs hb).1 with ⟨h,_⟩ | h
   ·cases h
   ·exact Eh b h) (fun j hb hj=>R'.heap j hb hj) (fun j id hj=>by cases hj) hz
  refine ⟨v,aa,rfl,⟨⟨fun id hb hq=>?_,R.inj,fun id b h1 h2=>⟨(R.own id b h1 h2).1,by have:=(R.own id b h1 h2).2;omega⟩,⟨R'.fr.os.trans R.fr.os,R'.fr.tape.trans R.fr.tape,R'.fr.output.trans R.fr.output,Nat.le_trans R.fr.size hsz,fun b h1 h2=>?_⟩,fun id hb hb0 h1 h2=>?_⟩,E⟩,out⟩
  ·have ck:hp id=some hb:=hq
   rcases R.heap id hb ck with h | ⟨b,cur,t,a1,a2,a3⟩
   ·exact .inl h
   ·refine .inr ⟨b,cur,t,a1,?_,a3.mono E⟩
    rw [R'.fr.block b (R.own id b (by rw [ck];rfl) a1).2 (fun h=>h)];exact a2
  ·have hb:b<w.heap.size:=by have:=R.fr.size;omega
   rw [R'.fr.block b hb (fun h=>h)]
   exact R.fr.block b h1 h2
  ·have ck:hp id=some hb:=h1
   refine (R.eS id hb hb0 ck h2).trans ?_
   cases hb with
   | var cs=>rfl
   | row e af xs=>exact ⟨Nat.le_refl _,fun _=>⟨rfl,rfl,fun b hb cur t hc=>⟨cur,t,by rw [R'.fr.block b (R.own id b (by rw [ck];rfl) hb).2 (fun h=>h)];exact hc,rfl⟩⟩⟩
end Go.aI

namespace Go.aI
open Go
inductive dM (n:Nat):U→Prop where
 | dead:dM n .dead
 | rv (r:RV):dM n (.rv r)
 | ptr (id off:Nat) (h:id<n):dM n (.ptr id off)
 | bE (id af i off:Nat) (h:id<n):dM n (.bE id af i off)
 | row (id af len:Nat) (h:id<n):dM n (.row id af len)
 | win (id af off len:Nat) (h:id<n):dM n (.win id af off len)
 | agg (cs:List U) (h:∀ (j:Nat) (y:U),cs[j]?=some y→dM n y):dM n (.agg cs)
 | aM (cs:List U) (h:∀ (j:Nat) (y:U),cs[j]?=some y→dM n y):dM n (.aM cs)
 | fn (f:FuncId) (cs:List U) (h:∀ (j:Nat) (y:U),cs[j]?=some y→dM n y):dM n (.fn f cs)
 | bZ (f:FuncId) (cs:List U) (h:∀ (j:Nat) (y:U),cs[j]?=some y→dM n y):dM n (.bZ f cs)
 | bC (t:TypeId) (x:U) (h:dM n x):dM n (.bC t x)
theorem dM.rn {n:Nat} {h:Hp} {x:U} (hc:dM n x):Rn (dA n) h x x:=by
 induction hc with
 | dead=>exact .dead _
 | rv r=>exact .fz _ _ (.rv r)
 | ptr id off h=>exact .ptr _ _ _ (by simp [dA,h])
 | bE id af i off h=>exact .bE _ _ _ _ _ (by simp [dA,h])
 | row id af len h=>exact .row _ _ _ _ (by simp [dA,h])
 | win id af off len h=>exact .win _ _ _ _ _ (by simp [dA,h])
 | agg cs h ih=>exact .agg _ _ rfl (fun i x y hx hy=>by rw [hx] at hy;cases hy;exact ih i x hx)
 | aM cs h ih=>exact .aM _ _ rfl (fun i x y hx hy=>by rw [hx] at hy;cases hy;exact ih i x hx)
 | fn f cs h ih=>exact .fn _ _ _ rfl (fun i x y hx hy=>by rw [hx] at hy;cases hy;exact ih i x hx)
 | bZ f cs h ih=>exact .bZ _ _ _ rfl (fun i x y hx hy=>by rw [hx] at hy;cases hy;exact ih i x hx)
 | bC t x h ih=>exact .bC _ _ _ ih
def lf (n:Nat):List U→Prop
 | []=>True
 | x::r=>dM n x∧lf n r
theorem lf.get {n:Nat}:∀ {l:List U},lf n l→∀ (j:Nat) (y:U),l[j]?=some y→dM n y
 | [],_,j,y,h=>by simp at h
 | x::r,hc,j,y,h=>by
   cases j with
   | zero=>simp at h;subst h;exact hc.1
   | succ j=>exact hc.2.get j y (by simpa using h)
theorem ng {n:Nat} {r:RV}:dM n (.rv r)↔True:=⟨fun _=>trivial,fun _=>.rv r⟩
theorem nc {n i o:Nat}:dM n (.ptr i o)↔i<n:=⟨fun h=>by cases h;assumption,fun h=>.ptr _ _ h⟩
theorem lu {n i v l:Nat}:dM n (.row i v l)↔i<n:=⟨fun h=>by cases h;assumption,fun h=>.row _ _ _ h⟩
theorem nR {n:Nat} {rs:List RV}:lf n (rs.map .rv):=by
 induction rs with
 | nil=>trivial
 | cons r rs ih=>exact ⟨.rv r,ih⟩
def nL (n:Nat):HB→Prop
 | .var cs=>lf n cs
 | .row _ _ xs=>∀ (i:Nat) (x:List U),xs[i]?=some x→lf n x
theorem eJ {n e v:Nat} {xs:List (List RV)}:nL n (.row e v (aH xs)):=fun i x hx=>by
 unfold aH at hx
 rw [List.getElem?_map] at hx
 cases hq:xs[i]? with
 | none=>simp [hq] at hx
 | some z=>simp [hq] at hx;subst hx;exact nR
theorem nL.rn {n:Nat} {h:Hp} {hb:HB} (hc:nL n hb):mV (dA n) h hb hb:=by
 cases hb with
 | var cs=>exact .var _ _ ⟨rfl,fun i x y hx hy=>by rw [hx] at hy;cases hy;exact (lf.get hc i x hx).rn⟩
 | row e v xs=>exact .row _ _ _ _ rfl (fun i x y hx hy=>by
    rw [hx] at hy;cases hy
    exact ⟨rfl,fun j a b ha hb=>by rw [ha] at hb;cases hb;exact (lf.get (hc i x hx) j a ha).rn⟩)
def fW (n:Nat) (env:List (Nat×U)):List (Nat×U)→Prop
 | []=>True
 | (m,v)::r=>(v = .dead∨lk env m=v∧dM n v)∧fW n env r
theorem fW.get {n:Nat} {env:List (Nat×U)}:∀ {env':List (Nat×U)},fW n env env'→∀ p∈env',p.2 = .dead∨lk env p.1=p.2∧dM n p.2
 | [],_,p,hp=>by simp at hp
 | (m,v)::r,h,p,hp=>by
   rcases List.mem_cons.1 hp with rfl | hp
   ·exact h.1
   ·exact h.2.get p hp
def kZ (P:HB→Prop):List (Option HB)→Prop
 | []=>True
 | some hb::r=>P hb∧kZ P r
 | none::_=>False
theorem kZ.get {P:HB→Prop}:∀ {l:List (Option HB)},kZ P l→∀ j,j<l.length→∃ hb,l[j]?=some (some hb)∧P hb
 | [],_,j,hj=>by simp at hj
 | some hb::r,h,j,hj=>by
   cases j with
   | zero=>exact ⟨hb,rfl,h.1⟩
   | succ j=>obtain ⟨x,a,b⟩:=h.2.get j (by simpa using hj);exact ⟨x,by simpa using a,b⟩
 | none::r,h,_,_=>h.elim
theorem kZ.of {P:HB→Prop}:∀ {l:List (Option HB)},(∀ (j:Nat) (x:Option HB),l[j]?=some x→∃ hb,x=some hb∧P hb)→kZ P l
 | [],_=>trivial
 | x::r,h=>by
   obtain ⟨hb,rfl,hp⟩:=h 0 x rfl
   exact ⟨hp,kZ.of fun j y hy=>h (j+1) y (by simpa using hy)⟩
theorem rG {n0:Nat} {env env':List (Nat×U)} {h' C:List (Option HB)} (hn:n0≤h'.length) (hC:kZ (nL h'.length) h') (he:fW h'.length env env'):cI n0 ⟨env,h'++C⟩ ⟨env',h'⟩:=by
 refine BJ (dA h'.length) hn (fun j i hj=>?_) (fun j hj=>?_) (fun j=>?_) (wU (fun x=>.dead x) (fun p hp=>?_))
 ·unfold dA at hj;split at hj <;> cases hj;rfl
 ·unfold dA at hj;split at hj
  ·cases hj
  ·omega
 ·by_cases hj:j<h'.length
  ·obtain ⟨hb,g1,g2⟩:=hC.get j hj
   exact .inl ⟨hb,hb,by simp [dA,hj],oW.2 (by rw [List.getElem?_append_left hj];exact g1),oW.2 g1,g2.rn⟩
  ·refine .inr ⟨?_,.inl (by simp [dA,hj])⟩
   unfold ag
   rw [List.getElem?_eq_none (by omega)]
 ·rcases he.get p hp with h | ⟨h1,h2⟩
  ·rw [h];exact .dead _
  ·rw [h1];exact h2.rn
structure eR (P:Program) (n:Nat) (t:TypeId) (rs:List RV):Prop where
 ty:fK P n t rs
theorem FK {P:Program} {f g:TypeId→List RV→Prop} (h:∀ t rs,f t rs→g t rs):∀ {fs:List Field} {rs:List RV},sH P f fs rs→sH P g fs rs
 | [],_,hf=>hf
 | _::_,_,⟨a,b,e,h1,h2⟩=>⟨a,b,e,h _ _ h1,FK h h2⟩
theorem FJ {P:Program} {n:Nat} {t:TypeId} {k:IntKind} {rs:List RV} (hu:P.underlying t=some (.int k)) (h:eR P (n+1) t rs):∃ i,rs=[.int k i]∧(Lit.int k i).wf=true:=by
 have h:=h.ty;unfold fK at h;simp only [hu] at h;exact h
theorem QK {P:Program} {n:Nat} {t:TypeId} {rs:List RV} (hu:P.underlying t=some .bool) (h:eR P (n+1) t rs):∃ b,rs=[.bool b]:=by
 have h:=h.ty;unfold fK at h;simp only [hu] at h;exact h
theorem QL {P:Program} {n:Nat} {t e:TypeId} {rs:List RV} (hu:P.underlying t=some (.slice e)) (h:eR P (n+1) t rs):∃ xs,rs=[.sl (P.cellsOf e) xs]∧xs.length≤maxLen∧∀ x∈xs,eR P n e x:=by
 have h:=h.ty;unfold fK at h;simp only [hu] at h
 obtain ⟨xs,h1,h2,h3⟩:=h
 exact ⟨xs,h1,h2,fun x hx=>⟨h3 x hx⟩⟩
theorem xO {P:Program} {n:Nat} {t:TypeId} {fs:Array Field} {rs:List RV} (hu:P.underlying t=some (.struct fs)) (h:eR P (n+1) t rs):sH P (eR P n) fs.toList rs:=by
 have h:=h.ty;unfold fK at h;simp only [hu] at h
 exact FK (fun _ _ h=>⟨h⟩) h
theorem FI {P:Program} {n m:Nat} {t e:TypeId} {rs:List RV} (hu:P.underlying t=some (.array m e)) (h:eR P (n+1) t rs):∃ xs:List (List RV),rs=xs.flatten∧xs.length=m∧∀ x∈xs,eR P n e x:=by
 have h:=h.ty;unfold fK at h;simp only [hu] at h
 obtain ⟨xs,h1,h2,h3⟩:=h
 exact ⟨xs,h1,h2,fun x hx=>⟨h3 x hx⟩⟩
theorem Ag {P:Program} {H:Type} {enc:TypeId×Value→H} {w:World} {r:Reach} {b0 n:Nat} {t:TypeId} {v:Value} {d:DataW H} {ps:List MemPlace} (hf:mc P n t=true) (hval:Value.okWide P w r b0 t v) (hd:DataW.Trod enc P w 0 (fun _=>true) true t v d ps) :
 ∃ rs,eR P n t rs∧∀ (ok:Nat→Prop) (aa:Nat→Option Nat) (hp:Hp),(∀ b,b<w.heap.size→ok b)→Rp w ok aa hp (mZ P t rs) v:=by
 obtain ⟨rs,h1,h2⟩:=Oj hf hval hd ⟨w,fun _=>True,fun _=>True,0,fun _=>.none,fun _=>.none⟩ (fun _=>.none)
 exact ⟨rs,⟨h1⟩,h2⟩
theorem AX {P:Program} {t:TypeId} {r:RV} (h:bW P t=some false):mZ P t [r] = .rv r:=by
 unfold mZ;rw [h];rfl
theorem Gw {P:Program} {t:TypeId} {rs:List RV} (h:bW P t=some true):mZ P t rs = .agg (rs.map .rv):=by
 unfold mZ;rw [h]
theorem OE {hp:Hp} {a:Nat} {hb:HB} (h:hp a=some hb):aW hp [(a,hb)]:=fun q hq=>by simp at hq;subst hq;exact h
end Go.aI

namespace Go.aI
open Go
attribute [go_sem] Ip IA Iw Ix Iz Ij Im Ik Iy Io IV IS IW IT IQ IU Iq Il Ir Iv Is Iu yl wM Ah qQ ym wN Aj qS bF o1 o2 kS dQ pZ vm uY vo vp fits me mE mD wQ wP vV mF uv kW oH vw va vi vk vj yd ru pU oB uZ uC fR wK eC wO oo tv vR xg xd vJ wW wY wX vU pF ue uf rW qp vT vS td vz xG pR mA sG uO kg lq uq lK lk dZ dY cD uS aZ jX eo lQ AP List.map_cons List.map_nil List.length_cons List.length_nil List.length_append List.length_map List.length_set List.set_cons_zero List.set_cons_succ List.cons_append List.nil_append List.append_nil List.getElem?_cons_zero List.getElem?_cons_succ List.getElem?_nil List.take_succ_cons List.take_zero List.drop_succ_cons List.drop_zero List.drop_nil List.take_nil Option.getD_some Option.getD_none Option.map_some Option.map_none true_and and_true Nat.zero_add Nat.add_zero decide_eq_true_eq Bool.false_eq_true ay Pf Ay Pg EW Int.toNat_natCast GO GN GM GL Bool.not_true Bool.not_false Qx pV oM chunks GZ GY IE ID IC IB IK IJ II IG IF IL Oy Ox
attribute [go_sem_proc] Nat.reduceEqDiff Nat.reduceAdd Nat.reduceSub Nat.reduceMul Nat.reduceLeDiff Nat.reduceLT reduceCtorEq Int.reduceToNat
attribute [go_sem_proc ↓] reduceIte
theorem Nr (n:Nat):Int.ofNat (no_index (OfNat.ofNat n))=OfNat.ofNat n:=rfl
attribute [go_sem] Nr
theorem sK:IntKind.i64.wrap (0+1)=1:=by decide
theorem sL:IntKind.i64.wrap (1+1)=2:=by decide
theorem sM:IntKind.i64.wrap (2+1)=3:=by decide
theorem sN:IntKind.i64.wrap (3+1)=4:=by decide
theorem sO:IntKind.i64.wrap (4+1)=5:=by decide
theorem sP:IntKind.i64.wrap (5+1)=6:=by decide
theorem rz (n:Nat):((no_index (OfNat.ofNat n):Nat):Int)=OfNat.ofNat n:=rfl
def fc (P:Program) (f:FuncId) (N:Nat) (rs:List RR):AC:=(vW P f N rs).getD .skip
theorem bq {P:Program} {f:FuncId} {N:Nat} {rs:List RR} (h:(vW P f N rs).isSome=true):aV P f N (fc P f N rs) rs:=by
 obtain ⟨c,hc⟩:=Option.isSome_iff_exists.1 h
 unfold fc;rw [hc];exact BZ hc
end Go.aI

namespace Go.aI
open Go
structure Ln where
 kind:Int
 n:Int
 deriving DecidableEq,Inhabited
structure Q4 (α:Type) where
 a:α
 b:α
 c:α
 d:α
 deriving DecidableEq,Inhabited
structure aq where
 shown:Bool
 position:Int
 off:Q4 Ln
 width:Ln
 height:Ln
 fq:Ln
 fo:Ln
 fH:Ln
 fG:Ln
 bB:Q4 Ln
 pad:Q4 Ln
 bA:Q4 Int
 bK:Bool
 wh:Bool
 z:Int
 clip:Bool
 back:Int
 line:Int
 deriving DecidableEq,Inhabited
structure Nd where
 s:aq
 parent:Int
 deriving DecidableEq,Inhabited
def Ln.cells (x:Ln):List RV:=[.int .i64 x.kind,.int .i64 x.n]
def Q4.qK (q:Q4 Ln):List RV:=[.int .i64 q.a.kind,.int .i64 q.a.n,.int .i64 q.b.kind,.int .i64 q.b.n,.int .i64 q.c.kind,.int .i64 q.c.n,.int .i64 q.d.kind,.int .i64 q.d.n]
def Q4.ints (q:Q4 Int):List RV:=[.int .i64 q.a,.int .i64 q.b,.int .i64 q.c,.int .i64 q.d]
def aq.cells (s:aq):List RV:=[.bool s.shown,.int .i64 s.position,
 .int .i64 s.off.a.kind,.int .i64 s.off.a.n,.int .i64 s.off.b.kind,.int .i64 s.off.b.n,.int .i64 s.off.c.kind,.int .i64 s.off.c.n,.int .i64 s.off.d.kind,.int .i64 s.off.d.n,
 .int .i64 s.width.kind,.int .i64 s.width.n,.int .i64 s.height.kind,.int .i64 s.height.n,.int .i64 s.fq.kind,.int .i64 s.fq.n,.int .i64 s.fo.kind,.int .i64 s.fo.n,.int .i64 s.fH.kind,.int .i64 s.fH.n,.int .i64 s.fG.kind,.int .i64 s.fG.n,
 .int .i64 s.bB.a.kind,.int .i64 s.bB.a.n,.int .i64 s.bB.b.kind,.int .i64 s.bB.b.n,.int .i64 s.bB.c.kind,.int .i64 s.bB.c.n,.int .i64 s.bB.d.kind,.int .i64 s.bB.d.n,
 .int .i64 s.pad.a.kind,.int .i64 s.pad.a.n,.int .i64 s.pad.b.kind,.int .i64 s.pad.b.n,.int .i64 s.pad.c.kind,.int .i64 s.pad.c.n,.int .i64 s.pad.d.kind,.int .i64 s.pad.d.n,
 .int .i64 s.bA.a,.int .i64 s.bA.b,.int .i64 s.bA.c,.int .i64 s.bA.d,
 .bool s.bK,.bool s.wh,.int .i64 s.z,.bool s.clip,.int .i64 s.back,.int .i64 s.line]
abbrev aq.sv (s:aq):U:=.agg (s.cells.map .rv)
abbrev Ln.sv (x:Ln):U:=.agg (x.cells.map .rv)
def Nd.cells (x:Nd):List RV:=x.s.cells++[.int .i64 x.parent]
abbrev Nd.sv (x:Nd):U:=.agg (x.cells.map .rv)
def aQ (l:List Nd):List (List RV):=l.map Nd.cells
def lO {α:Type} (q:Q4 α):Nat→α
 | 0=>q.a
 | 1=>q.b
 | 2=>q.c
 | _=>q.d
def Q4.list {α:Type} (q:Q4 α):List α:=[q.a,q.b,q.c,q.d]
def cn (s:aq):List Ln:=s.off.list++[s.width,s.height,s.fq,s.fo,s.fH,s.fG]++s.bB.list++s.pad.list
theorem ax (s:aq):(cn s).length=18:=rfl
def gA (l:List Ln):List (List RV):=l.map Ln.cells
def mG (x:Ln):Bool:=(decide (x.kind=0) && decide (x.n=0)) || decide (x.kind=1) || decide (x.kind=2)
def gC (p:Ln) (b:Int):Bool:=!(decide (p.kind=0) || decide (p.n<0) || decide (b<0))
def ri (s:aq):Bool:=decide (s.position≥0) && decide (s.position≤3) && decide (s.back≥0) && decide (s.line≥0) && (s.wh || decide (s.z=0))
def ez (s:aq):Bool:=(cn s).all mG && ([s.width,s.height,s.fq,s.fo,s.fH,s.fG].all fun x=>decide (0≤x.n)) &&
 (gC s.pad.a s.bA.a && gC s.pad.b s.bA.b && gC s.pad.c s.bA.c && gC s.pad.d s.bA.d) && ri s
def pn (n most:Int):Bool:=decide (-most≤n) && decide (n≤most)
def nF (x:Ln):Bool:=!((decide (x.kind=1) && !pn x.n 1099511627776) || (decide (x.kind=2) && !pn x.n 1000000))
def fI (s:aq):Bool:=(cn s).all nF && (s.bA.list.all fun n=>decide (n≤1099511627776)) && (pn s.z 1073741824 && decide (s.back≤16777216) && decide (s.line≤16777216))
theorem an (s:aq):s.cells.length=48:=rfl
theorem ak (x:Nd):x.cells.length=49:=rfl
theorem au (l:List Nd):(aQ l).length=l.length:=by simp [aQ]
theorem eX {l:List Nd} {i:Nat} (h:i<l.length):(aQ l)[i]?.getD []=(l[i]'h).cells:=by simp [aQ,h]
theorem az (l:List Ln):(gA l).length=l.length:=by simp [gA]
theorem zT {l:List Ln} {i:Nat} (h:i<l.length):(gA l)[i]?.getD []=(l[i]'h).cells:=by simp [gA,h]
theorem gH (s:aq):(s.cells.map U.rv)[0]?=some (.rv (.bool s.shown)):=rfl
theorem iY (s:aq):(s.cells.drop 0)[0]?=some (.bool s.shown):=rfl
theorem gI (s:aq):(s.cells.map U.rv)[1]?=some (.rv (.int .i64 s.position)):=rfl
theorem iZ (s:aq):(s.cells.drop 1)[0]?=some (.int .i64 s.position):=rfl
theorem gT (s:aq):(s.cells.map U.rv)[2]?=some (.rv (.int .i64 s.off.a.kind)):=rfl
theorem jm (s:aq):(s.cells.drop 2)[0]?=some (.int .i64 s.off.a.kind):=rfl
theorem ic (s:aq):(s.cells.map U.rv)[3]?=some (.rv (.int .i64 s.off.a.n)):=rfl
theorem jy (s:aq):(s.cells.drop 3)[0]?=some (.int .i64 s.off.a.n):=rfl
theorem iB (s:aq):(s.cells.map U.rv)[4]?=some (.rv (.int .i64 s.off.b.kind)):=rfl
theorem jJ (s:aq):(s.cells.drop 4)[0]?=some (.int .i64 s.off.b.kind):=rfl
theorem iJ (s:aq):(s.cells.map U.rv)[5]?=some (.rv (.int .i64 s.off.b.n)):=rfl
theorem jS (s:aq):(s.cells.drop 5)[0]?=some (.int .i64 s.off.b.n):=rfl
theorem iK (s:aq):(s.cells.map U.rv)[6]?=some (.rv (.int .i64 s.off.c.kind)):=rfl
theorem jT (s:aq):(s.cells.drop 6)[0]?=some (.int .i64 s.off.c.kind):=rfl
theorem iL (s:aq):(s.cells.map U.rv)[7]?=some (.rv (.int .i64 s.off.c.n)):=rfl
theorem jU (s:aq):(s.cells.drop 7)[0]?=some (.int .i64 s.off.c.n):=rfl
theorem iM (s:aq):(s.cells.map U.rv)[8]?=some (.rv (.int .i64 s.off.d.kind)):=rfl
theorem jV (s:aq):(s.cells.drop 8)[0]?=some (.int .i64 s.off.d.kind):=rfl
theorem iN (s:aq):(s.cells.map U.rv)[9]?=some (.rv (.int .i64 s.off.d.n)):=rfl
theorem jW (s:aq):(s.cells.drop 9)[0]?=some (.int .i64 s.off.d.n):=rfl
theorem gJ (s:aq):(s.cells.map U.rv)[10]?=some (.rv (.int .i64 s.width.kind)):=rfl
theorem ja (s:aq):(s.cells.drop 10)[0]?=some (.int .i64 s.width.kind):=rfl
theorem gK (s:aq):(s.cells.map U.rv)[11]?=some (.rv (.int .i64 s.width.n)):=rfl
theorem jb (s:aq):(s.cells.drop 11)[0]?=some (.int .i64 s.width.n):=rfl
theorem gL (s:aq):(s.cells.map U.rv)[12]?=some (.rv (.int .i64 s.height.kind)):=rfl
theorem jc (s:aq):(s.cells.drop 12)[0]?=some (.int .i64 s.height.kind):=rfl
theorem gM (s:aq):(s.cells.map U.rv)[13]?=some (.rv (.int .i64 s.height.n)):=rfl
theorem jd (s:aq):(s.cells.drop 13)[0]?=some (.int .i64 s.height.n):=rfl
theorem gN (s:aq):(s.cells.map U.rv)[14]?=some (.rv (.int .i64 s.fq.kind)):=rfl
theorem je (s:aq):(s.cells.drop 14)[0]?=some (.int .i64 s.fq.kind):=rfl
theorem gO (s:aq):(s.cells.map U.rv)[15]?=some (.rv (.int .i64 s.fq.n)):=rfl
theorem jf (s:aq):(s.cells.drop 15)[0]?=some (.int .i64 s.fq.n):=rfl
theorem gP (s:aq):(s.cells.map U.rv)[16]?=some (.rv (.int .i64 s.fo.kind)):=rfl
theorem jg (s:aq):(s.cells.drop 16)[0]?=some (.int .i64 s.fo.kind):=rfl
theorem gQ (s:aq):(s.cells.map U.rv)[17]?=some (.rv (.int .i64 s.fo.n)):=rfl
theorem jh (s:aq):(s.cells.drop 17)[0]?=some (.int .i64 s.fo.n):=rfl
theorem gR (s:aq):(s.cells.map U.rv)[18]?=some (.rv (.int .i64 s.fH.kind)):=rfl
theorem ji (s:aq):(s.cells.drop 18)[0]?=some (.int .i64 s.fH.kind):=rfl
theorem gS (s:aq):(s.cells.map U.rv)[19]?=some (.rv (.int .i64 s.fH.n)):=rfl
theorem jk (s:aq):(s.cells.drop 19)[0]?=some (.int .i64 s.fH.n):=rfl
theorem gU (s:aq):(s.cells.map U.rv)[20]?=some (.rv (.int .i64 s.fG.kind)):=rfl
theorem jn (s:aq):(s.cells.drop 20)[0]?=some (.int .i64 s.fG.kind):=rfl
theorem gV (s:aq):(s.cells.map U.rv)[21]?=some (.rv (.int .i64 s.fG.n)):=rfl
theorem jo (s:aq):(s.cells.drop 21)[0]?=some (.int .i64 s.fG.n):=rfl
theorem gW (s:aq):(s.cells.map U.rv)[22]?=some (.rv (.int .i64 s.bB.a.kind)):=rfl
theorem jq (s:aq):(s.cells.drop 22)[0]?=some (.int .i64 s.bB.a.kind):=rfl
theorem gX (s:aq):(s.cells.map U.rv)[23]?=some (.rv (.int .i64 s.bB.a.n)):=rfl
theorem jr (s:aq):(s.cells.drop 23)[0]?=some (.int .i64 s.bB.a.n):=rfl
theorem gY (s:aq):(s.cells.map U.rv)[24]?=some (.rv (.int .i64 s.bB.b.kind)):=rfl
theorem js (s:aq):(s.cells.drop 24)[0]?=some (.int .i64 s.bB.b.kind):=rfl
theorem gZ (s:aq):(s.cells.map U.rv)[25]?=some (.rv (.int .i64 s.bB.b.n)):=rfl
theorem jt (s:aq):(s.cells.drop 25)[0]?=some (.int .i64 s.bB.b.n):=rfl
theorem hD (s:aq):(s.cells.map U.rv)[26]?=some (.rv (.int .i64 s.bB.c.kind)):=rfl
theorem ju (s:aq):(s.cells.drop 26)[0]?=some (.int .i64 s.bB.c.kind):=rfl
theorem hJ (s:aq):(s.cells.map U.rv)[27]?=some (.rv (.int .i64 s.bB.c.n)):=rfl
theorem jv (s:aq):(s.cells.drop 27)[0]?=some (.int .i64 s.bB.c.n):=rfl
theorem hU (s:aq):(s.cells.map U.rv)[28]?=some (.rv (.int .i64 s.bB.d.kind)):=rfl
theorem jw (s:aq):(s.cells.drop 28)[0]?=some (.int .i64 s.bB.d.kind):=rfl
theorem ia (s:aq):(s.cells.map U.rv)[29]?=some (.rv (.int .i64 s.bB.d.n)):=rfl
theorem jx (s:aq):(s.cells.drop 29)[0]?=some (.int .i64 s.bB.d.n):=rfl
theorem ie (s:aq):(s.cells.map U.rv)[30]?=some (.rv (.int .i64 s.pad.a.kind)):=rfl
theorem jz (s:aq):(s.cells.drop 30)[0]?=some (.int .i64 s.pad.a.kind):=rfl
theorem ig (s:aq):(s.cells.map U.rv)[31]?=some (.rv (.int .i64 s.pad.a.n)):=rfl
theorem jA (s:aq):(s.cells.drop 31)[0]?=some (.int .i64 s.pad.a.n):=rfl
theorem ij (s:aq):(s.cells.map U.rv)[32]?=some (.rv (.int .i64 s.pad.b.kind)):=rfl
theorem jB (s:aq):(s.cells.drop 32)[0]?=some (.int .i64 s.pad.b.kind):=rfl
theorem iq (s:aq):(s.cells.map U.rv)[33]?=some (.rv (.int .i64 s.pad.b.n)):=rfl
theorem jC (s:aq):(s.cells.drop 33)[0]?=some (.int .i64 s.pad.b.n):=rfl
theorem ir (s:aq):(s.cells.map U.rv)[34]?=some (.rv (.int .i64 s.pad.c.kind)):=rfl
theorem jD (s:aq):(s.cells.drop 34)[0]?=some (.int .i64 s.pad.c.kind):=rfl
theorem iu (s:aq):(s.cells.map U.rv)[35]?=some (.rv (.int .i64 s.pad.c.n)):=rfl
theorem jE (s:aq):(s.cells.drop 35)[0]?=some (.int .i64 s.pad.c.n):=rfl
theorem iw (s:aq):(s.cells.map U.rv)[36]?=some (.rv (.int .i64 s.pad.d.kind)):=rfl
theorem jF (s:aq):(s.cells.drop 36)[0]?=some (.int .i64 s.pad.d.kind):=rfl
theorem iy (s:aq):(s.cells.map U.rv)[37]?=some (.rv (.int .i64 s.pad.d.n)):=rfl
theorem jG (s:aq):(s.cells.drop 37)[0]?=some (.int .i64 s.pad.d.n):=rfl
theorem iz (s:aq):(s.cells.map U.rv)[38]?=some (.rv (.int .i64 s.bA.a)):=rfl
theorem jH (s:aq):(s.cells.drop 38)[0]?=some (.int .i64 s.bA.a):=rfl
theorem iA (s:aq):(s.cells.map U.rv)[39]?=some (.rv (.int .i64 s.bA.b)):=rfl
theorem jI (s:aq):(s.cells.drop 39)[0]?=some (.int .i64 s.bA.b):=rfl
theorem iC (s:aq):(s.cells.map U.rv)[40]?=some (.rv (.int .i64 s.bA.c)):=rfl
theorem jK (s:aq):(s.cells.drop 40)[0]?=some (.int .i64 s.bA.c):=rfl
theorem iD (s:aq):(s.cells.map U.rv)[41]?=some (.rv (.int .i64 s.bA.d)):=rfl
theorem jL (s:aq):(s.cells.drop 41)[0]?=some (.int .i64 s.bA.d):=rfl
theorem gl (s:aq):(s.cells.map U.rv)[42]?=some (.rv (.bool s.bK)):=rfl
theorem jM (s:aq):(s.cells.drop 42)[0]?=some (.bool s.bK):=rfl
theorem iE (s:aq):(s.cells.map U.rv)[43]?=some (.rv (.bool s.wh)):=rfl
theorem jN (s:aq):(s.cells.drop 43)[0]?=some (.bool s.wh):=rfl
theorem iF (s:aq):(s.cells.map U.rv)[44]?=some (.rv (.int .i64 s.z)):=rfl
theorem jO (s:aq):(s.cells.drop 44)[0]?=some (.int .i64 s.z):=rfl
theorem iG (s:aq):(s.cells.map U.rv)[45]?=some (.rv (.bool s.clip)):=rfl
theorem jP (s:aq):(s.cells.drop 45)[0]?=some (.bool s.clip):=rfl
theorem iH (s:aq):(s.cells.map U.rv)[46]?=some (.rv (.int .i64 s.back)):=rfl
theorem jQ (s:aq):(s.cells.drop 46)[0]?=some (.int .i64 s.back):=rfl
theorem iI (s:aq):(s.cells.map U.rv)[47]?=some (.rv (.int .i64 s.line)):=rfl
theorem jR (s:aq):(s.cells.drop 47)[0]?=some (.int .i64 s.line):=rfl
theorem iO (s:aq):((s.cells.map U.rv).drop 10).take 2=s.width.cells.map U.rv:=rfl
theorem iP (s:aq):((s.cells.map U.rv).drop 12).take 2=s.height.cells.map U.rv:=rfl
theorem iQ (s:aq):((s.cells.map U.rv).drop 14).take 2=s.fq.cells.map U.rv:=rfl
theorem iR (s:aq):((s.cells.map U.rv).drop 16).take 2=s.fo.cells.map U.rv:=rfl
theorem iS (s:aq):((s.cells.map U.rv).drop 18).take 2=s.fH.cells.map U.rv:=rfl
theorem iU (s:aq):((s.cells.map U.rv).drop 20).take 2=s.fG.cells.map U.rv:=rfl
theorem iT (s:aq):((s.cells.map U.rv).drop 2).take 8=s.off.qK.map U.rv:=rfl
theorem iV (s:aq):((s.cells.map U.rv).drop 22).take 8=s.bB.qK.map U.rv:=rfl
theorem iW (s:aq):((s.cells.map U.rv).drop 30).take 8=s.pad.qK.map U.rv:=rfl
theorem iX (s:aq):((s.cells.map U.rv).drop 38).take 4=s.bA.ints.map U.rv:=rfl
theorem gk (s:aq):(s.cells.map U.rv).take 48=s.cells.map U.rv:=rfl
theorem gG (s:aq):((s.cells.map U.rv).drop 0).take 48=s.cells.map U.rv:=rfl
theorem mY {α:Type} {p:α→Bool} {l:List α} {k:Nat} (h:k<l.length) (hk:(l.drop k).all p=l.all p) (hp:p (l[k]'h)=true):(l.drop (k+1)).all p=l.all p:=by
 rw [← hk,List.drop_eq_getElem_cons h,List.all_cons,hp,Bool.true_and]
theorem mX {α:Type} {p:α→Bool} {l:List α} {k:Nat} (h:k<l.length) (hk:(l.drop k).all p=l.all p) (hp:p (l[k]'h)=false):l.all p=false:=by
 rw [← hk,List.drop_eq_getElem_cons h,List.all_cons,hp,Bool.false_and]
theorem mW {α:Type} {p:α→Bool} {l:List α} {k:Nat} (h:l.length≤k) (hk:(l.drop k).all p=l.all p):l.all p=true:=by
 rw [← hk,List.drop_of_length_le h];rfl
theorem qM (x:Nd):(x.cells.map U.rv)[48]?=some (.rv (.int .i64 x.parent)):=rfl
theorem nG (x:Nd):x.cells.take 49=x.cells:=rfl
theorem QD (s:aq):∀ r∈s.cells,r.one=true:=by
 intro r hr
 simp -implicitDefEqProofs only [aq.cells,List.mem_cons,List.not_mem_nil,or_false] at hr
 repeat' rcases hr with rfl | hr
 all_goals first | rfl | (subst hr;rfl)
theorem NN (x:Nd):∀ r∈x.cells,r.one=true:=by
 intro r hr
 rcases List.mem_append.1 hr with hr | hr
 ·exact QD _ r hr
 ·simp at hr;rw [hr];rfl
theorem xb (l:List Nd):∀ x∈aQ l,∀ r∈x,r.one=true:=by
 intro x hx
 obtain ⟨n,_,rfl⟩:=List.mem_map.1 hx
 exact NN n
def aJ (ys:List Int):List (List RV):=ys.map fun n=>[.int .i64 n]
theorem aj (l:List Int):(aJ l).length=l.length:=by simp [aJ]
theorem pz {l:List Int} {i:Nat} (h:i<l.length):(aJ l)[i]?.getD []=[.int .i64 (l[i]'h)]:=by simp [aJ,h]
theorem mB (l:List Int):∀ x∈aJ l,∀ r∈x,r.one=true:=by
 intro x hx r hr
 obtain ⟨n,_,rfl⟩:=List.mem_map.1 hx
 simp at hr;rw [hr];rfl
theorem fQ {l:List Int} {i:Nat} (h:i<l.length):(aJ l)[i]?.getD []=[.int .i64 (l.getD i 0)]:=by simp [aJ,h]
theorem kU {ys:List Int} {k:Nat} {v:Int}:(aH (aJ ys)).set k [.rv (.int .i64 v)]=aH (aJ (ys.set k v)):=by simp [aH,aJ,List.map_set]
theorem uL {n:Nat}:List.replicate n [U.rv (.int .i64 0)]=aH (aJ (List.replicate n 0)):=by simp [aH,aJ]
theorem sA {ys:List Int} {v:Int}:aH (aJ ys)++[[.rv (.int .i64 v)]]=aH (aJ (ys++[v])):=by simp [aH,aJ]
theorem ct {k:Nat} (h:k<4611686018427387904):IntKind.i64.wrap ((k:Int)+1)=((k+1:Nat):Int):=by
 rw [wrap_i64 (by omega) (by omega)];omega
theorem sQ {k:Nat} (h:0<k) (h2:k<4611686018427387904):IntKind.i64.wrap ((k:Int) - 1)=((k - 1:Nat):Int):=by
 rw [wrap_i64 (by omega) (by omega)];omega
end Go.aI

namespace Go.aI
open Go Go.Proofs
theorem AM {n:Nat} {rs:List RV} (h:eR Go.Proofs.Try.prog (n+1) 3 rs):∃ i,rs=[.int .i64 i]:=by
 obtain ⟨i,h,_⟩:=FJ Try.underlying3 h
 exact ⟨i,h⟩
theorem nJ {n:Nat} {rs:List RV} (h:eR Go.Proofs.Try.prog (n+1) 2 rs):∃ i,rs=[.int .i64 i]:=by
 obtain ⟨i,h,_⟩:=FJ Try.underlying2 h
 exact ⟨i,h⟩
theorem uQ {n:Nat} {rs:List RV} (h:eR Go.Proofs.Try.prog (n+1) 4 rs):∃ b,rs=[.bool b]:=by
 exact QK Try.underlying4 h
theorem nK {n:Nat} {rs:List RV} (h:eR Go.Proofs.Try.prog (n+2) 35 rs):∃ x:Ln,rs=x.cells:=by
 have h:=xO Try.underlying35 h
 obtain ⟨_,_,rfl,h1,_,_,rfl,h2,rfl⟩:=h
 obtain ⟨i,rfl⟩:=AM h1
 obtain ⟨j,rfl⟩:=nJ h2
 exact ⟨⟨i,j⟩,rfl⟩
theorem DK {α:Type} {xs:List α} (h:xs.length=4):∃ a b c d,xs=[a,b,c,d]:=by
 match xs,h with
 | [a,b,c,d],_=>exact ⟨a,b,c,d,rfl⟩
theorem AN {n:Nat} {rs:List RV} (h:eR Go.Proofs.Try.prog (n+3) 36 rs):∃ q:Q4 Ln,rs=q.qK:=by
 obtain ⟨xs,rfl,hl,hx⟩:=FI Try.underlying36 h
 obtain ⟨a,b,c,d,rfl⟩:=DK hl
 obtain ⟨a,rfl⟩:=nK (hx a (by simp))
 obtain ⟨b,rfl⟩:=nK (hx b (by simp))
 obtain ⟨c,rfl⟩:=nK (hx c (by simp))
 obtain ⟨d,rfl⟩:=nK (hx d (by simp))
 exact ⟨⟨a,b,c,d⟩,rfl⟩
theorem QJ {n:Nat} {rs:List RV} (h:eR Go.Proofs.Try.prog (n+2) 37 rs):∃ q:Q4 Int,rs=q.ints:=by
 obtain ⟨xs,rfl,hl,hx⟩:=FI Try.underlying37 h
 obtain ⟨a,b,c,d,rfl⟩:=DK hl
 obtain ⟨a,rfl⟩:=nJ (hx a (by simp))
 obtain ⟨b,rfl⟩:=nJ (hx b (by simp))
 obtain ⟨c,rfl⟩:=nJ (hx c (by simp))
 obtain ⟨d,rfl⟩:=nJ (hx d (by simp))
 exact ⟨⟨a,b,c,d⟩,rfl⟩
theorem QN {n:Nat} {rs:List RV} (h:eR Go.Proofs.Try.prog (n+4) 39 rs):∃ s:aq,rs=s.cells:=by
 have h:=xO Try.underlying39 h
 obtain ⟨_,_,rfl,h1,_,_,rfl,h2,_,_,rfl,h3,_,_,rfl,h4,_,_,rfl,h5,_,_,rfl,h6,_,_,rfl,h7,_,_,rfl,h8,_,_,rfl,h9,_,_,rfl,Jb,_,_,rfl,Jc,_,_,rfl,h12,_,_,rfl,Jd,_,_,rfl,Je,_,_,rfl,Jf,_,_,rfl,Jg,_,_,rfl,Jh,_,_,rfl,Ji,rfl⟩:=h
 obtain ⟨b1,rfl⟩:=uQ h1
 obtain ⟨i2,rfl⟩:=AM h2
 obtain ⟨q3,rfl⟩:=AN h3
 obtain ⟨x4,rfl⟩:=nK h4
 obtain ⟨x5,rfl⟩:=nK h5
 obtain ⟨x6,rfl⟩:=nK h6
 obtain ⟨x7,rfl⟩:=nK h7
 obtain ⟨x8,rfl⟩:=nK h8
 obtain ⟨x9,rfl⟩:=nK h9
 obtain ⟨OG,rfl⟩:=AN Jb
 obtain ⟨OH,rfl⟩:=AN Jc
 obtain ⟨OI,rfl⟩:=QJ h12
 obtain ⟨GD,rfl⟩:=uQ Jd
 obtain ⟨GF,rfl⟩:=uQ Je
 obtain ⟨i15,rfl⟩:=nJ Jf
 obtain ⟨GG,rfl⟩:=uQ Jg
 obtain ⟨i17,rfl⟩:=nJ Jh
 obtain ⟨i18,rfl⟩:=nJ Ji
 exact ⟨⟨b1,i2,q3,x4,x5,x6,x7,x8,x9,OG,OH,OI,GD,GF,i15,GG,i17,i18⟩,rfl⟩
theorem QM {n:Nat} {rs:List RV} (h:eR Go.Proofs.Try.prog (n+5) 41 rs):∃ x:Nd,rs=x.cells:=by
 have h:=xO Try.underlying41 h
 obtain ⟨_,_,rfl,h1,_,_,rfl,h2,rfl⟩:=h
 obtain ⟨s,rfl⟩:=QN h1
 obtain ⟨i,rfl⟩:=AM h2
 exact ⟨⟨s,i⟩,rfl⟩
theorem DL {α:Type} {f:α→List RV}:∀ {xs:List (List RV)},(∀ x∈xs,∃ a,x=f a)→∃ l:List α,xs=l.map f
 | [],_=>⟨[],rfl⟩
 | x::xs,h=>by
   obtain ⟨a,rfl⟩:=h x (by simp)
   obtain ⟨l,rfl⟩:=DL (xs:=xs) fun y hy=>h y (by simp [hy])
   exact ⟨a::l,rfl⟩
theorem Hf:Program.cellsOf Go.Proofs.Try.prog 41=49:=by kernel_rfl
theorem Gg:bW Go.Proofs.Try.prog 22=some false:=by kernel_rfl
theorem Oh {rs:List RV} (h:eR Go.Proofs.Try.prog 6 22 rs):∃ l:List Nd,mZ Go.Proofs.Try.prog 22 rs = .rv (.sl 49 (aQ l)):=by
 obtain ⟨xs,rfl,_,hx⟩:=QL Try.underlying22 h
 obtain ⟨l,rfl⟩:=DL fun x hx'=>QM (hx x hx')
 refine ⟨l,?_⟩
 rw [AX Gg,Hf];rfl
end Go.aI

namespace Go.aI
open Go
def aO (l:List Nd) (n:Nat):Int:=(l.getD n default).parent
theorem kz {l:List Nd} {n:Nat} (h:n<l.length):(l[n]'h).parent=aO l n:=by simp [aO,h]
def WF (l:List Nd) (k:Nat):Prop:=aO l 0 = -1∧∀ j,0<j→j<k→0≤aO l j∧aO l j<j
theorem WF.mono {l:List Nd} {k m:Nat} (h:WF l k) (hm:m≤k):WF l m:=⟨h.1,fun j a b=>h.2 j a (by omega)⟩
def aN (l:List Nd) (n:Nat):List Nat:=if h:0≤aO l n∧aO l n<n then n::aN l (aO l n).toNat else [n]
termination_by n
decreasing_by omega
theorem lP {l:List Nd} {n:Nat} (h:0≤aO l n∧aO l n<n):aN l n=n::aN l (aO l n).toNat:=by
 rw [aN,dif_pos h]
theorem so {l:List Nd} {n:Nat} (h:¬ (0≤aO l n∧aO l n<n)):aN l n=[n]:=by
 rw [aN,dif_neg h]
theorem qV {l:List Nd}:aN l 0=[0]:=so (by omega)
theorem Ey {l:List Nd} {n:Nat}:∃ r,aN l n=n::r:=by
 by_cases h:0≤aO l n∧aO l n<n
 ·exact ⟨_,lP h⟩
 ·exact ⟨_,so h⟩
theorem sn {l:List Nd}:∀ n,(aN l n).length≤n+1:=by
 intro n
 induction n using Nat.strongRecOn with
 | _ n ih=>
   by_cases h:0≤aO l n∧aO l n<n
   ·rw [lP h];have:=ih (aO l n).toNat (by omega);simp;omega
   ·rw [so h];simp
theorem sk {l:List Nd}:∀ n x,x∈aN l n→x≤n:=by
 intro n
 induction n using Nat.strongRecOn with
 | _ n ih=>
   intro x hx
   by_cases h:0≤aO l n∧aO l n<n
   ·rw [lP h] at hx
    rcases List.mem_cons.1 hx with rfl | hx
    ·omega
    ·have:=ih (aO l n).toNat (by omega) x hx;omega
   ·rw [so h] at hx;simp at hx;omega
def fC (p:List Nat) (i:Nat):Int:=match p[i]? with
 | some x=>x
 | none=>-1
theorem sW {p:List Nat} {i:Nat} (h:i<p.length):fC p i=((p[i]'h:Nat):Int):=by simp [fC,h]
theorem Gy {p:List Nat} {i:Nat} (h:p.length≤i):fC p i = -1:=by
 unfold fC;rw [List.getElem?_eq_none h]
theorem oI {p:List Nat} {i:Nat}:0≤fC p i↔i<p.length:=by
 by_cases h:i<p.length
 ·rw [sW h];simp [h]
 ·rw [Gy (by omega)];simp;omega
theorem sX {l:List Nd} {n:Nat}:fC (aN l n) 0=n:=by
 obtain ⟨r,h⟩:=Ey (l:=l) (n:=n)
 simp [fC,h]
theorem xm {l:List Nd} {k:Nat} (hw:WF l k):∀ n,n<k→∀ i,(h:i<(aN l n).length)→aO l ((aN l n)[i]'h)=fC (aN l n) (i+1):=by
 intro n
 induction n using Nat.strongRecOn with
 | _ n ih=>
   intro hn i hi
   by_cases h:0≤aO l n∧aO l n<n
   ·have hp:=lP h
    cases i with
    | zero=>
      simp -implicitDefEqProofs only [hp,List.getElem_cons_zero]
      rw [show fC (n::aN l (aO l n).toNat) (0+1)=fC (aN l (aO l n).toNat) 0 from by simp [fC],sX]
      omega
    | succ i=>
      simp -implicitDefEqProofs only [hp,List.length_cons] at hi
      have:=ih (aO l n).toNat (by omega) (by omega) i (by omega)
      simp -implicitDefEqProofs only [hp,List.getElem_cons_succ]
      rw [show fC (n::aN l (aO l n).toNat) (i+1+1)=fC (aN l (aO l n).toNat) (i+1) from by simp [fC]]
      exact this
   ·have hp:=so h
    have h0:n=0:=by
     rcases Nat.eq_zero_or_pos n with h0 | h0
     ·exact h0
     ·exact absurd (hw.2 n h0 hn) h
    subst h0
    simp -implicitDefEqProofs only [hp,List.length_singleton] at hi
    obtain rfl:i=0:=by omega
    simp -implicitDefEqProofs only [hp,List.getElem_cons_zero]
    rw [hw.1];rfl
theorem xu {l:List Nd} {k n i:Nat} (hn:n<k) (h:i<(aN l n).length):(aN l n)[i]'h<k:=by
 have:=sk n _ (List.getElem_mem h);omega
theorem OF {l:List Nd}:∀ n i,(h:i<(aN l n).length)→(aN l n).drop i=aN l ((aN l n)[i]'h):=by
 intro n
 induction n using Nat.strongRecOn with
 | _ n ih=>
   intro i hi
   by_cases h:0≤aO l n∧aO l n<n
   ·have hp:=lP h
    cases i with
    | zero=>simp [hp]
    | succ i=>
      simp -implicitDefEqProofs only [hp,List.length_cons] at hi
      simp -implicitDefEqProofs only [hp,List.drop_succ_cons,List.getElem_cons_succ]
      exact ih _ (by omega) i (by omega)
   ·have hp:=so h
    simp -implicitDefEqProofs only [hp,List.length_singleton] at hi
    obtain rfl:i=0:=by omega
    simp [hp]
def kY (l:List Nd) (k:Nat):Option Nat:=(aN l (k - 1)).findIdx? fun (j:Nat)=>decide ((j:Int)=aO l k)
def eM (l:List Nd) (k:Nat):Bool:=decide (k=0) || (kY l k).isSome
def fU (l:List Nd):Bool:=decide (0<l.length) && decide (aO l 0 = -1) && (List.range l.length).all (eM l)
def cN (l:List Nd):Bool:=fU l && l.all fun x=>ez x.s
theorem AQ {l:List Nd} {k:Nat} (h:(kY l k).isSome=true):0≤aO l k∧aO l k≤((k - 1:Nat):Int)∧(aO l k).toNat∈aN l (k - 1):=by
 obtain ⟨i,hi⟩:=Option.isSome_iff_exists.1 h
 unfold kY at hi
 rw [List.findIdx?_eq_some_iff_getElem] at hi
 obtain ⟨hlt,hp,_⟩:=hi
 simp at hp
 have h1:=List.getElem_mem hlt
 have h2:=sk _ _ h1
 refine ⟨by omega,by omega,?_⟩
 rw [← hp];simp
theorem QT {l:List Nd} {k:Nat} (h0:0≤aO l k) (h:(aO l k).toNat∈aN l (k - 1)):(kY l k).isSome=true:=by
 unfold kY
 rw [List.findIdx?_isSome,List.any_eq_true]
 exact ⟨_,h,by simp;omega⟩
theorem QO {l:List Nd} {k i:Nat} (h:i<(aN l (k - 1)).length) (hp:(((aN l (k - 1))[i]'h:Nat):Int)=aO l k) (hn:∀ j,(h:j<(aN l (k - 1)).length)→j<i→(((aN l (k - 1))[j]'h:Nat):Int)≠aO l k):kY l k=some i:=by
 unfold kY
 rw [List.findIdx?_eq_some_iff_getElem]
 exact ⟨h,by simpa using hp,fun j hj=>by simpa using hn j (by omega) hj⟩
theorem QS {l:List Nd} {k:Nat} (hn:∀ j,(h:j<(aN l (k - 1)).length)→(((aN l (k - 1))[j]'h:Nat):Int)≠aO l k):kY l k=none:=by
 unfold kY
 rw [List.findIdx?_eq_none_iff]
 intro x hx
 obtain ⟨j,hj,rfl⟩:=List.getElem_of_mem hx
 simpa using hn j hj
theorem FU {l:List Nd} {k:Nat} (h0:aO l 0 = -1) (h:∀ j,j<k→eM l j=true):WF l k:=by
 refine ⟨h0,fun j hj hk=>?_⟩
 have:=h j hk
 simp [eM] at this
 rcases this with h | h
 ·omega
 ·have:=AQ h;omega
structure cA (l:List Nd):Prop where
 pos:0<l.length
 root:aO l 0 = -1
 up:∀ j,0<j→j<l.length→0≤aO l j∧aO l j<j∧(aO l j).toNat∈aN l (j - 1)
theorem cA.wf {l:List Nd} (h:cA l):WF l l.length:=⟨h.root,fun j a b=>⟨(h.up j a b).1,(h.up j a b).2.1⟩⟩
theorem sD {l:List Nd}:fU l=true↔cA l:=by
 simp -implicitDefEqProofs only [fU,Bool.and_eq_true,decide_eq_true_eq,List.all_eq_true,List.mem_range]
 constructor
 ·rintro ⟨⟨h1,h2⟩,h3⟩
  refine ⟨h1,h2,fun j hj hl=>?_⟩
  have:=h3 j hl
  simp [eM] at this
  rcases this with h | h
  ·omega
  ·obtain ⟨a,b,c⟩:=AQ h
   exact ⟨a,by omega,c⟩
 ·intro h
  refine ⟨⟨h.pos,h.root⟩,fun j hj=>?_⟩
  rcases Nat.eq_zero_or_pos j with h0 | h0
  ·simp [eM,h0]
  ·obtain ⟨a,b,c⟩:=h.up j h0 hj
   simp [eM,QT a c]
def depth (l:List Nd) (n:Nat):Nat:=(aN l n).length
theorem yB {l:List Nd} {k n:Nat} (hw:WF l k) (h0:0<n) (hn:n<k):depth l n=depth l (aO l n).toNat+1:=by
 unfold depth;rw [lP (hw.2 n h0 hn)];simp
theorem yC {l:List Nd}:depth l 0=1:=by simp [depth,qV]
def eI (l:List Nd):Int:=if cN l=false then 2 else if (decide (l.length>65535) || (List.range l.length).any (fun k=>decide (depth l k>256)) || l.any fun x=>!fI x.s)=true then 3 else 0
end Go.aI

namespace Go.aI
open Go
def aT (l:List Nd) (k p:Nat):List Nat:=(List.range k).filter fun j=>decide (0<j) && decide (aO l j=p)
def dy (l:List Nd) (p:Nat):List Nat:=aT l l.length p
theorem uo {l:List Nd} {p:Nat}:aT l 0 p=[]:=rfl
theorem um {l:List Nd} {k p:Nat}:aT l (k+1) p=aT l k p++if 0<k∧aO l k=p then [k] else []:=by
 by_cases h:0<k∧aO l k=p
 ·simp [aT,List.range_succ,h]
 ·rw [if_neg h]
  have:(decide (0<k) && decide (aO l k=p))=false:=by
   rw [Bool.eq_false_iff];simpa using h
  simp [aT,List.range_succ,this]
theorem rX {l:List Nd} {k p:Nat}:(aT l k p).length≤k:=by
 have:=List.length_filter_le (fun j=>decide (0<j) && decide (aO l j=p)) (List.range k)
 simpa [aT] using this
theorem rZ {l:List Nd} {c p:Nat}:c∈dy l p↔0<c∧c<l.length∧aO l c=p:=by
 simp [dy,aT];omega
def dj (l:List Nd) (n:Nat):Nat:=match (dy l n).getLast? with
 | none=>n+1
 | some c=>if h:n<c∧c<l.length then dj l c else n+1
termination_by l.length - n
decreasing_by omega
theorem yH {l:List Nd} {n:Nat} (h:dy l n=[]):dj l n=n+1:=by
 rw [dj,h];rfl
theorem yG {l:List Nd} {n c:Nat} (h:(dy l n).getLast?=some c) (h1:n<c) (h2:c<l.length):dj l n=dj l c:=by
 rw [dj,h];simp [h1,h2]
def gE (l:List Nd) (n:Nat):Bool:=(l.getD n default).s.shown
theorem Az {l:List Nd} {n:Nat} (h:n<l.length):(l[n]'h).s.shown=gE l n:=by simp [gE,h]
def dR (l:List Nd) (n:Nat):Bool:=(aN l n).all (gE l)
theorem DR {l:List Nd}:dR l 0=gE l 0:=by simp [dR,qV]
theorem zV {l:List Nd} {k n:Nat} (hw:WF l k) (h0:0<n) (hn:n<k):dR l n=(gE l n && dR l (aO l n).toNat):=by
 unfold dR;rw [lP (hw.2 n h0 hn)];rfl
end Go.aI

namespace Go.aI
open Go
theorem uA {l:List Nd} {n:Nat}:n∈aN l n:=by obtain ⟨r,h⟩:=Ey (l:=l) (n:=n);simp [h]
theorem Ak {l:List Nd} {a n:Nat} (h:a∈aN l n):∀ x,x∈aN l a→x∈aN l n:=by
 obtain ⟨i,hi,rfl⟩:=List.getElem_of_mem h
 intro x hx
 rw [← OF n i hi] at hx
 exact List.mem_of_mem_drop hx
theorem ow {l:List Nd} {k n m:Nat} (hw:WF l m) (h0:0<k) (hk:k<m):n∈aN l k↔n=k∨n∈aN l (aO l k).toNat:=by
 rw [lP (hw.2 k h0 hk)];simp
theorem DV {l:List Nd} {n:Nat}:n∈aN l 0↔n=0:=by rw [qV];simp
theorem cA.step {l:List Nd} (h:cA l) {n k:Nat} (hk:k<l.length) (hn:n<k) (hm:n∈aN l k):n∈aN l (k - 1):=by
 rw [ow h.wf (by omega) hk] at hm
 rcases hm with hm | hm
 ·omega
 ·exact Ak (h.up k (by omega) hk).2.2 n hm
theorem cA.xZ {l:List Nd} (h:cA l) {n:Nat}:∀ k j,k<l.length→n∈aN l k→n≤j→j≤k→n∈aN l j:=by
 intro k
 induction k using Nat.strongRecOn with
 | _ k ih=>
   intro j hk hm h1 h2
   rcases Nat.lt_or_ge j k with wA | wA
   ·exact ih (k - 1) (by omega) j (by omega) (h.step hk (by omega) hm) h1 (by omega)
   ·obtain rfl:j=k:=by omega
    exact hm
theorem cA.child {l:List Nd} (h:cA l) {n:Nat}:∀ k,k<l.length→n∈aN l k→n≠k→∃ c,c∈dy l n∧c∈aN l k:=by
 intro k
 induction k using Nat.strongRecOn with
 | _ k ih=>
   intro hk hm hne
   rcases Nat.eq_zero_or_pos k with h0 | h0
   ·subst h0;rw [DV] at hm;exact absurd hm hne
   ·obtain ⟨p1,p2,_⟩:=h.up k h0 hk
    rw [ow h.wf h0 hk] at hm
    rcases hm with hm | hm
    ·exact absurd hm hne
    ·by_cases hp:n=(aO l k).toNat
     ·exact ⟨k,rZ.2 ⟨h0,hk,by omega⟩,uA⟩
     ·obtain ⟨c,c1,c2⟩:=ih (aO l k).toNat (by omega) (by omega) hm hp
      exact ⟨c,c1,(ow h.wf h0 hk).2 (.inr c2)⟩
theorem MR {l:List Nd} {n c:Nat} (h:(dy l n).getLast?=some c):∀ x∈dy l n,x≤c:=by
 have key:∀ k,∀ c,(aT l k n).getLast?=some c→∀ x∈aT l k n,x≤c:=by
  intro k
  induction k with
  | zero=>intro c h;simp [uo] at h
  | succ k ih=>
    intro c h x hx
    rw [um] at h hx
    by_cases hc:0<k∧aO l k=n
    ·rw [if_pos hc] at h hx
     simp at h
     subst h
     rcases List.mem_append.1 hx with hx | hx
     ·simp [aT] at hx;omega
     ·simp at hx;omega
    ·rw [if_neg hc,List.append_nil] at h hx
     exact ih c h x hx
 exact key _ c h
theorem cA.ends {l:List Nd} (h:cA l):∀ m n,l.length - n=m→n<l.length→n<dj l n∧dj l n≤l.length∧∀ k,k<l.length→(n∈aN l k↔n≤k∧k<dj l n):=by
 intro m
 induction m using Nat.strongRecOn with
 | _ m ih=>
   intro n hm hn
   cases hl:(dy l n).getLast? with
   | none=>
     have cw:dy l n=[]:=List.getLast?_eq_none_iff.1 hl
     rw [yH cw]
     refine ⟨by omega,hn,fun k hk=>⟨fun hm=>?_,fun hb=>?_⟩⟩
     ·refine ⟨sk _ _ hm,?_⟩
      apply Classical.byContradiction
      intro hc
      obtain ⟨c,c1,_⟩:=h.child k hk hm (by omega)
      rw [cw] at c1;simp at c1
     ·obtain rfl:k=n:=by omega
      exact uA
   | some c=>
     have tG:c∈dy l n:=List.mem_of_getLast? hl
     obtain ⟨c1,c2,c3⟩:=rZ.1 tG
     have hnc:n<c:=by have:=(h.up c c1 c2).2.1;omega
     rw [yG hl hnc c2]
     obtain ⟨e1,e2,e3⟩:=ih (l.length - c) (by omega) c rfl c2
     have CD:n∈aN l c:=(ow h.wf c1 c2).2 (.inr (by rw [c3,Int.toNat_natCast];exact uA))
     refine ⟨by omega,e2,fun k hk=>⟨fun hm=>?_,fun hb=>?_⟩⟩
     ·refine ⟨sk _ _ hm,?_⟩
      rcases Nat.lt_or_ge k (c+1) with hkc | hkc
      ·omega
      ·obtain ⟨c',d1,d2⟩:=h.child k hk hm (by omega)
       have hle:=MR hl c' d1
       obtain ⟨g1,g2,g3⟩:=rZ.1 d1
       by_cases Jv:c'=c
       ·subst Jv;exact ((e3 k hk).1 d2).2
       ·have:=h.xZ k c hk d2 (by omega) (by omega)
        rw [ow h.wf c1 c2,c3,Int.toNat_natCast] at this
        rcases this with t | t
        ·omega
        ·have:=sk _ _ t
         have:=(h.up c' g1 g2).2.1
         omega
     ·rcases Nat.lt_or_ge k c with hkc | hkc
      ·exact h.xZ c k c2 CD hb.1 (by omega)
      ·exact Ak ((e3 k hk).2 ⟨hkc,hb.2⟩) n CD
theorem cA.below {l:List Nd} (h:cA l) {n k:Nat} (hn:n<l.length) (hk:k<l.length):n∈aN l k↔n≤k∧k<dj l n:=(h.ends _ n rfl hn).2.2 k hk
theorem cA.vO {l:List Nd} (h:cA l) {n:Nat} (hn:n<l.length):n<dj l n∧dj l n≤l.length:=⟨(h.ends _ n rfl hn).1,(h.ends _ n rfl hn).2.1⟩
end Go.aI

namespace Go.aI
open Go
theorem Mz:aV Go.Proofs.Try.prog 78 21 (fc Go.Proofs.Try.prog 78 21 [(.t 2)]) [(.t 2)]:=bq (by kernel_rfl)
theorem MC:aV Go.Proofs.Try.prog 61 14 (fc Go.Proofs.Try.prog 61 14 [(.t 4)]) [(.t 4)]:=bq (by kernel_rfl)
theorem Qq (x:Ln):aK Go.Proofs.Try.prog 78 [x.sv] [] [] (.rv (.bool (mG x))):=by
 refine lp Mz [] [] [] [x.sv] [x.sv] [] _ (by simp) (by simp [aP,Ln.sv,Ln.cells,bh,bg]) rfl (by simp [bM]) (by simp [dn]) (fun K hK=>?_)
 conv in fc _ _ _ _=>reduce
 simp -implicitDefEqProofs only [Ln.sv,Ln.cells,go_sem,Int.reduceNegSucc]
 repeat' (first | (simp -implicitDefEqProofs only [go_sem,Int.reduceNegSucc]) | (with_reducible refine aA ?_) | ((first | refine ai (fun hg=>?_) (fun hg=>?_) | refine aB (fun hg=>?_) (fun hg=>?_) | refine aC (fun hg=>?_) (fun hg=>?_)) <;> try simp -implicitDefEqProofs only [hg,Bool.not_true,Bool.not_false]) | ((with_reducible apply And.intro);focus (first | trivial | omega | decide | (simp -implicitDefEqProofs only [maxLen];omega) | (simp [maxLen,an,ak,au,az,aj,ay,ax] <;> omega))) | fail)
 all_goals (try ((first | refine (hK _ _ _ _ [] (dr _ _) ?_).2 | refine (hK _ _ ?_).2 | refine (hK _ _ _ _ [] (dr _ _) ?_).1 | refine (hK _ _ ?_).1 | fail);clear hK;(simp_all [dG,bM,newL,dK,dx,bD,bw,lk,bN,cO,cW,cQ,dZ,dY,ag,dH,bQ,aS,dg,dI,ey,aY,ew,aR,dh,cR,cj,mG]) <;> try omega))
theorem AH (n m:Int) (hm:0≤m) (hm2:m<4611686018427387904):aK Go.Proofs.Try.prog 61 [.rv (.int .i64 n),.rv (.int .i64 m)] [] [] (.rv (.bool (pn n m))):=by
 refine GR MC [.int .i64 n,.int .i64 m] _ (by simp) (fun K hK=>?_)
 have e1:IntKind.i64.wrap (0 - m) = -m:=by rw [wrap_i64 (by omega) (by omega)];omega
 conv in fc _ _ _ _=>reduce
 simp -implicitDefEqProofs only [e1,go_sem,Int.reduceNegSucc]
 repeat' (first | (simp -implicitDefEqProofs only [go_sem,Int.reduceNegSucc]) | (with_reducible refine aA ?_) | ((first | refine ai (fun hg=>?_) (fun hg=>?_) | refine aB (fun hg=>?_) (fun hg=>?_) | refine aC (fun hg=>?_) (fun hg=>?_)) <;> try simp -implicitDefEqProofs only [hg,Bool.not_true,Bool.not_false]) | ((with_reducible apply And.intro);focus (first | trivial | omega | decide | (simp -implicitDefEqProofs only [maxLen];omega) | (simp [maxLen,an,ak,au,az,aj,ay,ax] <;> omega))) | fail)
 all_goals (try ((first | refine (hK _ _ _ _ [] (dr _ _) ?_).2 | refine (hK _ _ ?_).2 | refine (hK _ _ _ _ [] (dr _ _) ?_).1 | refine (hK _ _ ?_).1 | fail);clear hK;(simp_all [dG,bM,newL,dK,dx,bD,bw,lk,bN,cO,cW,cQ,dZ,dY,ag,dH,bQ,aS,dg,dI,ey,aY,ew,aR,dh,cR,cj,pn]) <;> try omega))
end Go.aI

namespace Go.aI
open Go
theorem MB:aV Go.Proofs.Try.prog 79 15 (fc Go.Proofs.Try.prog 79 15 []) []:=bq (by kernel_rfl)
theorem MA:aV Go.Proofs.Try.prog 60 43 (fc Go.Proofs.Try.prog 60 43 [(.t 2)]) [(.t 2)]:=bq (by kernel_rfl)
def upto (o:Nat) (k:Nat):List Nat:=(List.range k).map fun q=>o+q*2
theorem QW {o k:Nat}:upto o (k+1)=upto o k++[o+k*2]:=by simp [upto,List.range_succ]
theorem FP {o k:Nat}:(upto o k).length=k:=by simp [upto]
theorem AF (i j m o v:Nat) (cs:List RV) (os:List Nat) (h1:i≠j) (h2:i≠m) (h3:j≠m) (hb:os.length<1000) :
 aK Go.Proofs.Try.prog 79 [.ptr i o,.ptr j 0] [(i,.var (cs.map .rv)),(j,.var [.row m v os.length]),(m,.row 1 v (de i os))] [(j,.var [.row m (v+4) (os.length+4)]),(m,.row 1 (v+4) (de i (os++upto o 4)))] (.aM []):=by
 refine vq MB [i,j,m] [.var (cs.map .rv),.var [.row 2 v os.length],.row 1 v (de 0 os)] [.var (cs.map .rv),.var [.row m v os.length],.row 1 v (de i os)] [.ptr 0 o,.ptr 1 0] _ _ _ (by simp) (by simp [aP,gp,fZ,bg,bh,lX,bn,lY,lW,dn,lR,bM]) rfl (by simp [bM,h1,h2,h3]) rfl (Gj Be (ya (by simp [aP,gp,fZ,bg,bh,lX,bn,lY,lW,dn,lR,bM,fZ])) (GI rfl)) (fun K hK=>?_)
 conv in fc _ _ _ _=>reduce
 simp -implicitDefEqProofs only [go_sem,Int.reduceNegSucc]
 refine cK (ι:=Nat) (fun k=>[(4,.rv (.int .i64 k)),(0,.ptr 0 o),(1,.ptr 1 0)]) (fun k=>[some (.var (cs.map .rv)),some (.var [.row 2 (v+k) (os.length+k)]),some (.row 1 (v+k) (de 0 (os++upto o k)))]) (fun k=>k≤4) (fun k=>4 - k) 0 (by simp) (by simpa [upto] using bp (by simp [lk])) (fun k hk K' hN hX hR=>?_)
 simp -implicitDefEqProofs only [go_sem,Int.reduceNegSucc]
 refine ai (fun hg=>?_) (fun hg=>?_)
 ·have av:k<4:=by simp at hg;omega
  have d1:List.take (os.length+k) (de 0 (os++upto o k))++[[U.ptr 0 (o+k*2)]]=de 0 (os++upto o (k+1)):=by
   rw [QW,List.take_of_length_le (by simp [EA,FP])]
   simp [de]
  simp -implicitDefEqProofs only [EA,List.length_append,FP,go_sem,Int.reduceNegSucc]
  repeat' (first | (simp -implicitDefEqProofs only [go_sem,Int.reduceNegSucc]) | (with_reducible refine aA ?_) | ((first | refine ai (fun hg=>?_) (fun hg=>?_) | refine aB (fun hg=>?_) (fun hg=>?_) | refine aC (fun hg=>?_) (fun hg=>?_)) <;> try simp -implicitDefEqProofs only [hg,Bool.not_true,Bool.not_false]) | ((with_reducible apply And.intro);focus (first | trivial | omega | decide | (simp -implicitDefEqProofs only [maxLen];omega) | (simp [maxLen,an,ak,au,az,aj,ay,ax] <;> omega))) | fail)
  rw [d1,ct (by omega)]
  refine hN (k+1) _ _ (by omega) (by omega) (rH _ (by simp) ?_ ?_)
  ·simp [oq,ag,cO,aR,dg,dA,xC,cR,Nat.add_assoc]
  ·simp [lk,aS,dI,dA]
 ·have av:k=4:=by simp at hg;omega
  subst av
  simp -implicitDefEqProofs only [go_sem,Int.reduceNegSucc]
  refine hX _ _ _ ?_
  repeat' (first | (simp -implicitDefEqProofs only [go_sem,Int.reduceNegSucc]) | (with_reducible refine aA ?_) | ((first | refine ai (fun hg=>?_) (fun hg=>?_) | refine aB (fun hg=>?_) (fun hg=>?_) | refine aC (fun hg=>?_) (fun hg=>?_)) <;> try simp -implicitDefEqProofs only [hg,Bool.not_true,Bool.not_false]) | ((with_reducible apply And.intro);focus (first | trivial | omega | decide | (simp -implicitDefEqProofs only [maxLen];omega) | (simp [maxLen,an,ak,au,az,aj,ay,ax] <;> omega))) | fail)
  refine (hK _ _ _ _ [] (dr _ _) ?_).1
  simp [dG,bM,newL,dK,dx,bD,bw,lk,bN,cO,cW,cQ,dZ,dY,ag,dH,bQ,aS,dg,dI,ey,aY,ew,aR,dh,cR,h1,h2,h3,Ne.symm h1,Ne.symm h2,Ne.symm h3,dg,xC,cR]
theorem Qd (i j m o:Nat) (cs:List RV) (h1:i≠j) (h2:i≠m) (h3:j≠m) :
 aK Go.Proofs.Try.prog 79 [.ptr i o,.ptr j 0] [(j,.var [.rv .bO]),(i,.var (cs.map .rv))] [(j,.var [.row m 4 4]),(m,.row 1 4 (de i (upto o 4)))] (.aM []):=by
 have:=AF i j m o 0 cs [] h1 h2 h3 (by simp)
 simp -implicitDefEqProofs only [List.length_nil,Nat.zero_add,List.nil_append] at this
 refine GU (e:=1) (o:=0) (m:=m) rfl (by simp [h1,h2]) (Ne.symm h3) (by simp) (by simp) (GW this ?_)
 intro q
 simp [de]
 constructor
 ·rintro (h | h | h) <;> simp [h]
 ·rintro (h | h | h) <;> simp [h]
def lI:List Nat:=[2,4,6,8,10,12,14,16,18,20,22,24,26,28,30,32,34,36]
theorem Fo (i m:Nat) (s:aq) (h1:i≠m) :
 aK Go.Proofs.Try.prog 60 [.ptr i 0] [(i,.var (s.cells.map .rv))] [(m,.row 1 13 (de i lI))] (.row m 13 18):=by
 refine vq MA [i] [.var (s.cells.map .rv)] [.var (s.cells.map .rv)] [.ptr 0 0] _ _ _ (by simp) (by simp [aP,gp,fZ,bg,bh,lX,bn,lY,lW,dn,lR,bM]) rfl (by simp [bM]) rfl (fun j x y hx hy=>by
  match j with
  | 0=>simp at hx hy;subst hx;subst hy;exact Be
  | j+1=>simp at hx) (fun K hK=>?_)
 conv in fc _ _ _ _=>reduce
 simp -implicitDefEqProofs only [go_sem,Int.reduceNegSucc]
 refine cC (Qd 0 1 2 2 s.cells (by decide) (by decide) (by decide)) (by simp [aW,ag]) (by simp [bk,aZ]) ?_
 repeat' (first | (simp -implicitDefEqProofs only [go_sem,Int.reduceNegSucc]) | (with_reducible refine aA ?_) | ((first | refine ai (fun hg=>?_) (fun hg=>?_) | refine aB (fun hg=>?_) (fun hg=>?_) | refine aC (fun hg=>?_) (fun hg=>?_)) <;> try simp -implicitDefEqProofs only [hg,Bool.not_true,Bool.not_false]) | ((with_reducible apply And.intro);focus (first | trivial | omega | decide | (simp -implicitDefEqProofs only [maxLen];omega) | (simp [maxLen,an,ak,au,az,aj,ay,ax] <;> omega))) | fail)
 rw [show List.take 4 (de 0 (upto 2 4))++[[U.ptr 0 10],[U.ptr 0 12],[U.ptr 0 14],[U.ptr 0 16],[U.ptr 0 18],[U.ptr 0 20]]=de 0 [2,4,6,8,10,12,14,16,18,20] from rfl]
 refine cC (AF 0 1 2 22 5 s.cells [2,4,6,8,10,12,14,16,18,20] (by decide) (by decide) (by decide) (by decide)) (by simp [aW,ag]) (by simp [bk,aZ]) ?_
 repeat' (first | (simp -implicitDefEqProofs only [go_sem,Int.reduceNegSucc]) | (with_reducible refine aA ?_) | ((first | refine ai (fun hg=>?_) (fun hg=>?_) | refine aB (fun hg=>?_) (fun hg=>?_) | refine aC (fun hg=>?_) (fun hg=>?_)) <;> try simp -implicitDefEqProofs only [hg,Bool.not_true,Bool.not_false]) | ((with_reducible apply And.intro);focus (first | trivial | omega | decide | (simp -implicitDefEqProofs only [maxLen];omega) | (simp [maxLen,an,ak,au,az,aj,ay,ax] <;> omega))) | fail)
 refine cC (AF 0 1 2 30 9 s.cells [2,4,6,8,10,12,14,16,18,20,22,24,26,28] (by decide) (by decide) (by decide) (by decide)) (by simp [aW,ag,upto,List.range_succ]) (by simp [bk,aZ]) ?_
 repeat' (first | (simp -implicitDefEqProofs only [go_sem,Int.reduceNegSucc]) | (with_reducible refine aA ?_) | ((first | refine ai (fun hg=>?_) (fun hg=>?_) | refine aB (fun hg=>?_) (fun hg=>?_) | refine aC (fun hg=>?_) (fun hg=>?_)) <;> try simp -implicitDefEqProofs only [hg,Bool.not_true,Bool.not_false]) | ((with_reducible apply And.intro);focus (first | trivial | omega | decide | (simp -implicitDefEqProofs only [maxLen];omega) | (simp [maxLen,an,ak,au,az,aj,ay,ax] <;> omega))) | fail)
 refine (hK _ _ _ _ [none,some m,none] (dr _ _) ?_).2
 rw [show 2::4::6::8::10::12::14::16::18::20::22::24::26::28::upto 30 4=lI from rfl]
 simp [dG,bM,newL,dK,dx,bD,bw,lk,bN,cO,cW,cQ,dZ,dY,ag,dH,bQ,aS,dg,dI,ey,aY,ew,aR,dh,cR,h1,Ne.symm h1,dg,xC,cR]
end Go.aI
