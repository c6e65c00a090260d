/- Part 2 of the proof: EngP, EngQ, EngR, EngS, EngT, EngU, EngV, EngW, EngX, EngY, EngZ, EngZa, EngZb, EngZc, EngZd, K0, KF, C1, T0, T1, T2, K1, K2, K3. -/
import Derived.Test.YtiajmaeempoihaaPaintOnce1
import Derived.ProofKit
import Derived.OpenShut
import Derived.Below
import Derived.Test.YtiajmaeempoihaaProg
import Derived.KernelRfl
set_option linter.unusedSimpArgs false
set_option linter.unusedVariables false
set_option maxRecDepth 100000
set_option maxHeartbeats 16000000
namespace Go.ay
open Go
structure TE where
 cv:List Nat
 dst:Option Nat
 pre:List Nat
 us:List Nat
def kJ:List XO→List Nat
 | []=>[]
 | .t n::r=>n::kJ r
 | .c _::r=>kJ r
def lH (op:bg):List Nat:=match op.guard with
 | some (d,_)=>d::kJ op.xs
 | none=>kJ op.xs
def jC (a b:List Nat):Bool:=a.all fun x=>!b.contains x
def gV (x y:TE):Bool:=
 (match x.dst with
  | some d=>!y.cv.contains d && !(y.dst == some d)
  | none=>true) &&
 (match y.dst with
  | some d=>!x.cv.contains d
  | none=>true) && jC x.us y.pre && jC x.us y.us && jC y.us x.pre
def DX (aO:List (List Nat)) (i:Nat) (x:TE):Nat→List TE→Bool
 | _,[]=>true
 | j,y::r=>((aO.getD j []).contains i || gV x y) && DX aO i x (j+1) r
def KE (aO:List (List Nat)):Nat→List TE→Bool
 | _,[]=>true
 | i,x::r=>DX aO i x (i+1) r && KE aO (i+1) r
def gn (o:Oper):List Nat:=(o.after.toList.filter (fun e=>Region.binds .any e)).map (·.on)
inductive EN where
 | skip
 | run (args:List U) (pre us:List (Nat×HB)) (sv:U)
def BS (op:bg) (s:St):EN→St
 | .skip=>⟨cZ op.dst (.aR []) s.env,s.h⟩
 | .run _ _ us sv=>⟨cZ op.dst sv s.env,iY s.h us⟩
def fm (op:bg):EN→TE
 | .skip=>⟨lH op,op.dst,[],[]⟩
 | .run _ pre us _=>⟨lH op,op.dst,pre.map (·.1),us.map (·.1)⟩
def Tr (P:Program) (ops:Array Oper):Nat→List bg→St→List EN→St→Prop
 | _,[],s,[],s'=>s=s'
 | i,op::l,s,e::es,s'=>(match e with
    | .skip=>hJ (lk s.env) op.guard=some false
    | .run args pre us sv=>hJ (lk s.env) op.guard=some true∧args=op.xs.map (fu (lk s.env))∧(∀ o,ops[i]?=some o→pe P o args pre us sv)∧aV (ag s.h) pre∧bf pre s.h us)∧Tr P ops (i+1) l (BS op s e) es s'
 | _,_,_,_,_=>False
def cF:List bg→List EN→St→Nat→St
 | op::l,e::es,s,i+1=>cF l es (BS op s e) i
 | _,_,s,_=>s
theorem Tr.length {P:Program} {ops:Array Oper}:∀ {l:List bg} {i:Nat} {s s':St} {es:List EN},Tr P ops i l s es s'→es.length=l.length
 | [],i,s,s',[],_=>rfl
 | [],i,s,s',_::_,h=>h.elim
 | _::_,i,s,s',[],h=>h.elim
 | op::l,i,s,s',e::es,h=>by simp [Tr.length h.2]
theorem Tr.last {P:Program} {ops:Array Oper}:∀ {l:List bg} {i:Nat} {s s':St} {es:List EN},Tr P ops i l s es s'→cF l es s l.length=s'
 | [],i,s,s',[],h=>h
 | [],i,s,s',_::_,h=>h.elim
 | _::_,i,s,s',[],h=>h.elim
 | op::l,i,s,s',e::es,h=>by simpa [cF] using Tr.last h.2
theorem Tr.at_ {P:Program} {ops:Array Oper}:∀ {l:List bg} {i:Nat} {s s':St} {es:List EN},Tr P ops i l s es s'→∀ (j:Nat) (op:bg),l[j]?=some op→∃ e,es[j]?=some e∧cF l es s (j+1)=BS op (cF l es s j) e∧(match e with
 | .skip=>hJ (lk (cF l es s j).env) op.guard=some false
 | .run args pre us sv=>hJ (lk (cF l es s j).env) op.guard=some true∧args=op.xs.map (fu (lk (cF l es s j).env))∧(∀ o,ops[i+j]?=some o→pe P o args pre us sv)∧aV (ag (cF l es s j).h) pre∧bf pre (cF l es s j).h us)
 | [],i,s,s',es,h,j,op,hj=>by simp at hj
 | _::_,i,s,s',[],h,_,_,_=>h.elim
 | Un::l,i,s,s',e::es,h,j,op,hj=>by
   cases j with
   | zero=>
     simp at hj;subst hj
     refine ⟨e,rfl,?_,?_⟩
     ·cases l <;> cases es <;> rfl
     ·have:=h.1
      cases e <;> exact this
   | succ j=>
     have:=Tr.at_ h.2 j op (by simpa using hj)
     obtain ⟨e',h1,h2,h3⟩:=this
     refine ⟨e',by simpa using h1,h2,?_⟩
     rw [show i+(j+1)=i+1+j by omega]
     exact h3
theorem IN {l:List bg} {es:List EN} {s:St} (P:Program) (ops:Array Oper) {i:Nat} {s':St} (h:Tr P ops i l s es s'):∀ j,j≤l.length→s.h.length≤(cF l es s j).h.length:=fun j=>by
 induction j with
 | zero=>intro _;cases l <;> cases es <;> exact Nat.le_refl _
 | succ j ih=>
   intro hj
   obtain ⟨e,h1,h2,h3⟩:=h.at_ j _ (List.getElem?_eq_getElem (by omega))
   rw [h2]
   refine Nat.le_trans (ih (by omega)) ?_
   cases e with
   | skip=>exact Nat.le_refl _
   | run args pre us sv=>exact (vg h3.2.2.2.2).2
def cnt (L:Nat→Bool):Nat→Nat
 | 0=>0
 | n+1=>cnt L n+(if L n then 0 else 1)
theorem DU {L L':Nat→Bool}:∀ {n:Nat},(∀ i,i<n→L' i=L i)→cnt L' n=cnt L n
 | 0,_=>rfl
 | n+1,h=>by rw [cnt,cnt,DU (fun i hi=>h i (by omega)),h n (by omega)]
theorem DV {L L':Nat→Bool} {j:Nat} (hj:L j=false) (hj':L' j=true) (ho:∀ i,i≠j→L' i=L i):∀ {n:Nat},j<n→cnt L n=cnt L' n+1
 | n+1,h=>by
   rw [cnt,cnt]
   by_cases hn:j=n
   ·subst hn
    rw [DU (L:=L) (L':=L') (fun i hi=>ho i (by omega)),hj,hj'];simp
   ·rw [DV hj hj' ho (n:=n) (by omega),ho n (fun e=>hn e.symm)];omega
theorem DW {L:Nat→Bool}:∀ {n:Nat},cnt L n=0→∀ i,i<n→L i=true
 | n+1,h,i,hi=>by
   rw [cnt] at h
   by_cases hn:i=n
   ·subst hn;cases hL:L i with
    | true=>rfl
    | false=>simp [hL] at h
   ·exact DW (n:=n) (by omega) i (by omega)
theorem DT (L:Nat→Bool):∀ n,cnt L n≤n
 | 0=>Nat.le_refl _
 | n+1=>by rw [cnt];have:=DT L n;split <;> omega
theorem wo {hp ai:Hp}:∀ {us:List (Nat×HB)} {id:Nat},id∈us.map (·.1)→bI hp us id=bI ai us id
 | [],id,h=>by simp at h
 | (i,hb)::r,id,h=>by
   by_cases hr:id∈r.map (·.1)
   ·rw [bI,bI];exact wo hr
   ·have hi:id=i:=by
     rcases List.mem_cons.1 h with h | h
     ·exact h
     ·exact absurd h hr
    subst hi
    have hne:∀ q∈r,q.1≠id:=fun q hq he=>hr (List.mem_map.2 ⟨q,hq,he⟩)
    rw [bI,bI,sF hne,sF hne,bX,bX]
theorem ua {α:Type} (f:Nat→α) (wr:Nat→Prop) (hs:∀ i,¬ wr i→f (i+1)=f i) {k j:Nat} (xP:k≤j) (h:∀ i,k≤i→i<j→¬ wr i):f j=f k:=by
 induction j with
 | zero=>have:k=0:=by omega
         rw [this]
 | succ j ih=>
   by_cases he:k=j+1
   ·rw [he]
   ·rw [hs j (h j (by omega) (by omega)),ih (by omega) (fun i h1 h2=>h i h1 (by omega))]
theorem xe {a b:List Nat} (h:jC a b=true) {x:Nat} (ha:x∈a) (hb:x∈b):False:=by
 unfold jC at h
 rw [List.all_eq_true] at h
 have:=h x ha
 simp at this
 exact this hb
structure gd (P:Program) (ops:Array Oper) (N:Nat) (l:List bg) (es:List EN) (s0 s1:St) (aO:List (List Nat)):Prop where
 tr:Tr P ops 0 l s0 es s1
 size:ops.size=l.length
 comp:∀ (i:Nat) (op:bg),l[i]?=some op→∃ o,ops[i]?=some o∧ke P ops N o=some op
 back:∀ (i:Nat) (o:Oper),ops[i]?=some o→∀ k∈gn o,k<i
 JN:∀ (i:Nat) (o:Oper),ops[i]?=some o→∀ k∈aO.getD i [],∃ (L:List Nat),(∀ x∈L,x∈gn o)∧(k∈L∨∃ x∈L,k∈aO.getD x [])
 ok:∀ (a b:Nat) (BY BZ:bg) (ea eb:EN),a<b→l[a]?=some BY→l[b]?=some BZ→es[a]?=some ea→es[b]?=some eb→a∈aO.getD b []∨gV (fm BY ea) (fm BZ eb)=true
section
variable {P:Program} {ops:Array Oper} {N:Nat} {l:List bg} {es:List EN} {s0 s1:St} {aO:List (List Nat)}
def qi (ops:Array Oper) (L:Nat→Bool):Prop:=∀ (i:Nat) (o:Oper),ops[i]?=some o→L i=true→∀ k∈gn o,L k=true
theorem gd.wH (H:gd P ops N l es s0 s1 aO) {L:Nat→Bool} (hc:qi ops L):∀ (i:Nat) (o:Oper),ops[i]?=some o→(∀ k∈gn o,L k=true)→∀ k∈aO.getD i [],L k=true:=by
 intro i
 induction i using Nat.strongRecOn with
 | _ i ih=>
   intro o ho hn k hk
   obtain ⟨ls,h1,h2⟩:=H.JN i o ho k hk
   rcases h2 with h2 | ⟨x,hx,h2⟩
   ·exact hn k (h1 k h2)
   ·have iq:=H.back i o ho x (h1 x hx)
    have hxs:x<ops.size:=by have:=(Array.getElem?_eq_some_iff.1 ho).1;omega
    have FF:=Array.getElem?_eq_getElem hxs
    exact ih x iq _ FF (hc x _ FF (hn x (h1 x hx))) k h2
structure Inv (l:List bg) (es:List EN) (s0:St) (L:Nat→Bool) (en:Nat→U) (hp:Hp):Prop where
 env:∀ m,∃ k,k≤l.length∧en m=lk (cF l es s0 k).env m∧(∀ (i:Nat) (op:bg),i<k→l[i]?=some op→op.dst=some m→L i=true)∧(∀ (i:Nat) (op:bg),k≤i→l[i]?=some op→op.dst=some m→L i=false)
 heap:∀ id,∃ k,k≤l.length∧hp id=ag (cF l es s0 k).h id∧(∀ (i:Nat) (op:bg) (e:EN),i<k→l[i]?=some op→es[i]?=some e→id∈(fm op e).us→L i=true)∧(∀ (i:Nat) (op:bg) (e:EN),k≤i→l[i]?=some op→es[i]?=some e→id∈(fm op e).us→L i=false)
theorem gd.An (H:gd P ops N l es s0 s1 aO) (m i:Nat) (h:∀ op,l[i]?=some op→op.dst≠some m):lk (cF l es s0 (i+1)).env m=lk (cF l es s0 i).env m:=by
 cases hi:l[i]? with
 | none=>
   have hlen:∀ (l:List bg) (es:List EN) (s:St) (i:Nat),l.length≤i→cF l es s (i+1)=cF l es s i:=by
    intro l
    induction l with
    | nil=>intro es s i _;cases i <;> rfl
    | cons op l ih=>
      intro es s i hi
      cases es with
      | nil=>cases i <;> rfl
      | cons e es=>
        cases i with
        | zero=>simp at hi
        | succ i=>simp only [cF];exact ih es _ i (by simpa using hi)
   rw [hlen l es s0 i (List.getElem?_eq_none_iff.1 hi)]
 | some op=>
   obtain ⟨e,_,h2,_⟩:=H.tr.at_ i op hi
   rw [h2]
   have hd:=h op hi
   have hput:∀ v,lk (cZ op.dst v (cF l es s0 i).env) m=lk (cF l es s0 i).env m:=fun v=>by
    cases iH:op.dst with
    | none=>rfl
    | some d=>
      rw [iH] at hd
      rw [cZ,vP,dg _ _ (fun e=>hd (by rw [e]))]
   cases e <;> exact hput _
theorem gd.AQ (H:gd P ops N l es s0 s1 aO) (id i:Nat) (h:∀ op e,l[i]?=some op→es[i]?=some e→id∉(fm op e).us):ag (cF l es s0 (i+1)).h id=ag (cF l es s0 i).h id:=by
 cases hi:l[i]? with
 | none=>
   have hlen:∀ (l:List bg) (es:List EN) (s:St) (i:Nat),l.length≤i→cF l es s (i+1)=cF l es s i:=by
    intro l
    induction l with
    | nil=>intro es s i _;cases i <;> rfl
    | cons op l ih=>
      intro es s i hi
      cases es with
      | nil=>cases i <;> rfl
      | cons e es=>
        cases i with
        | zero=>simp at hi
        | succ i=>simp only [cF];exact ih es _ i (by simpa using hi)
   rw [hlen l es s0 i (List.getElem?_eq_none_iff.1 hi)]
 | some op=>
   obtain ⟨e,he,h2,h3⟩:=H.tr.at_ i op hi
   rw [h2]
   have hd:=h op e hi he
   cases e with
   | skip=>rfl
   | run args pre us sv=>
     obtain ⟨_,_,_,_,hk⟩:=h3
     show ag (iY (cF l es s0 i).h us) id=_
     rw [(vg hk).1]
     exact sF (fun q hq he=>hd (List.mem_map.2 ⟨q,hq,he⟩))
theorem gd.Jk (H:gd P ops N l es s0 s1 aO) {L:Nat→Bool} (hc:qi ops L) {j:Nat} {op:bg} {o:Oper} (hj:l[j]?=some op) (ho:ops[j]?=some o) (hL:L j=false) (hn:∀ k∈gn o,L k=true)
 {m:Nat} (hm:m∈lH op∨op.dst=some m) (i:Nat) (bN:bg) (hi:l[i]?=some bN) (hd:bN.dst=some m):(i<j→L i=true)∧(j<i→L i=false):=by
 obtain ⟨e,he,_⟩:=H.tr.at_ j op hj
 have hlen:=H.tr.length
 have ek:i<es.length:=by rw [hlen];exact (List.getElem?_eq_some_iff.1 hi).1
 have eZ:=List.getElem?_eq_getElem ek
 have hdt:∀ e,(fm bN e).dst=some m:=fun e=>by cases e <;> exact hd
 have FJ:∀ e,(fm op e).cv=lH op:=fun e=>by cases e <;> rfl
 have Fl:∀ e,(fm op e).dst=op.dst:=fun e=>by cases e <;> rfl
 refine ⟨fun hij=>?_,fun hji=>?_⟩
 ·rcases H.ok i j bN op _ e hij hi hj eZ he with h | h
  ·exact H.wH hc j o ho hn i h
  ·exfalso
   simp only [gV,Bool.and_eq_true] at h
   have ha:=h.1.1.1.1
   rw [hdt] at ha
   rw [FJ,Fl] at ha
   rcases hm with hm | hm
   ·simp [hm] at ha
   ·simp [hm] at ha
 ·cases Az:L i with
  | false=>rfl
  | true=>
    exfalso
    rcases H.ok j i op bN e _ hji hj hi he eZ with h | h
    ·have ij:=Array.getElem?_eq_getElem (xs:=ops) (i:=i) (by rw [H.size,← hlen];exact ek)
     have:=H.wH hc i _ ij (hc i _ ij Az) j h
     rw [hL] at this;cases this
    ·simp only [gV,Bool.and_eq_true] at h
     have hb:=h.1.1.1.2
     have ha:=h.1.1.1.1
     rw [hdt] at hb
     rw [FJ] at hb
     rw [Fl,hdt] at ha
     rcases hm with hm | hm
     ·simp [hm] at hb
     ·simp [hm] at ha
theorem gd.Ru (H:gd P ops N l es s0 s1 aO) {L:Nat→Bool} (hc:qi ops L) {en:Nat→U} {hp:Hp} (I:Inv l es s0 L en hp) {j:Nat} {op:bg} {o:Oper} (hj:l[j]?=some op) (ho:ops[j]?=some o) (hL:L j=false) (hn:∀ k∈gn o,L k=true)
 {m:Nat} (hm:m∈lH op∨op.dst=some m):en m=lk (cF l es s0 j).env m:=by
 obtain ⟨k,hk,h1,h2,h3⟩:=I.env m
 rw [h1]
 have hw:=H.Jk hc hj ho hL hn hm
 by_cases xP:k≤j
 ·refine (ua (fun i=>lk (cF l es s0 i).env m) (fun i=>∃ bN,l[i]?=some bN∧bN.dst=some m) (fun i hi=>H.An m i (fun op ho hd=>hi ⟨op,ho,hd⟩)) xP (fun i hi1 hi2 ⟨bN,ho,hd⟩=>?_)).symm
  have:=h3 i bN hi1 ho hd
  rw [(hw i bN ho hd).1 hi2] at this;cases this
 ·refine ua (fun i=>lk (cF l es s0 i).env m) (fun i=>∃ bN,l[i]?=some bN∧bN.dst=some m) (fun i hi=>H.An m i (fun op ho hd=>hi ⟨op,ho,hd⟩)) (by omega) (fun i hi1 hi2 ⟨bN,ho,hd⟩=>?_)
  have:=h2 i bN hi2 ho hd
  by_cases hij:i=j
  ·subst hij;rw [hL] at this;cases this
  ·rw [(hw i bN ho hd).2 (by omega)] at this;cases this
theorem gd.Jm (H:gd P ops N l es s0 s1 aO) {L:Nat→Bool} (hc:qi ops L) {j:Nat} {op:bg} {e:EN} {o:Oper} (hj:l[j]?=some op) (he:es[j]?=some e) (ho:ops[j]?=some o) (hL:L j=false) (hn:∀ k∈gn o,L k=true)
 {id:Nat} (hm:id∈(fm op e).pre∨id∈(fm op e).us) (i:Nat) (bN:bg) (ei:EN) (hi:l[i]?=some bN) (eZ:es[i]?=some ei) (hd:id∈(fm bN ei).us):(i<j→L i=true)∧(j<i→L i=false):=by
 have hlen:=H.tr.length
 refine ⟨fun hij=>?_,fun hji=>?_⟩
 ·rcases H.ok i j bN op _ e hij hi hj eZ he with h | h
  ·exact H.wH hc j o ho hn i h
  ·exfalso
   simp only [gV,Bool.and_eq_true] at h
   rcases hm with hm | hm
   ·exact xe h.1.1.2 hd hm
   ·exact xe h.1.2 hd hm
 ·cases Az:L i with
  | false=>rfl
  | true=>
    exfalso
    rcases H.ok j i op bN e _ hji hj hi he eZ with h | h
    ·have ek:i<es.length:=(List.getElem?_eq_some_iff.1 eZ).1
     have ij:=Array.getElem?_eq_getElem (xs:=ops) (i:=i) (by rw [H.size,← hlen];exact ek)
     have:=H.wH hc i _ ij (hc i _ ij Az) j h
     rw [hL] at this;cases this
    ·simp only [gV,Bool.and_eq_true] at h
     rcases hm with hm | hm
     ·exact xe h.2 hd hm
     ·exact xe h.1.2 hm hd
theorem gd.HM (H:gd P ops N l es s0 s1 aO) {L:Nat→Bool} (hc:qi ops L) {en:Nat→U} {hp:Hp} (I:Inv l es s0 L en hp) {j:Nat} {op:bg} {e:EN} {o:Oper} (hj:l[j]?=some op) (he:es[j]?=some e) (ho:ops[j]?=some o) (hL:L j=false) (hn:∀ k∈gn o,L k=true)
 {id:Nat} (hm:id∈(fm op e).pre∨id∈(fm op e).us):hp id=ag (cF l es s0 j).h id:=by
 obtain ⟨k,hk,h1,h2,h3⟩:=I.heap id
 rw [h1]
 have hw:=H.Jm hc hj he ho hL hn hm
 by_cases xP:k≤j
 ·refine (ua (fun i=>ag (cF l es s0 i).h id) (fun i=>∃ bN ei,l[i]?=some bN∧es[i]?=some ei∧id∈(fm bN ei).us) (fun i hi=>H.AQ id i (fun op e ho he hd=>hi ⟨op,e,ho,he,hd⟩)) xP (fun i hi1 hi2 ⟨bN,ei,ho,eZ,hd⟩=>?_)).symm
  have:=h3 i bN ei hi1 ho eZ hd
  rw [(hw i bN ei ho eZ hd).1 hi2] at this;cases this
 ·refine ua (fun i=>ag (cF l es s0 i).h id) (fun i=>∃ bN ei,l[i]?=some bN∧es[i]?=some ei∧id∈(fm bN ei).us) (fun i hi=>H.AQ id i (fun op e ho he hd=>hi ⟨op,e,ho,he,hd⟩)) (by omega) (fun i hi1 hi2 ⟨bN,ei,ho,eZ,hd⟩=>?_)
  have:=h2 i bN ei hi2 ho eZ hd
  by_cases hij:i=j
  ·subst hij;rw [hL] at this;cases this
  ·rw [(hw i bN ei ho eZ hd).2 (by omega)] at this;cases this
def iX (L:Nat→Bool) (j:Nat):Nat→Bool:=fun i=>if i=j then true else L i
theorem gd.FZ (H:gd P ops N l es s0 s1 aO) {L:Nat→Bool} (hc:qi ops L) {en:Nat→U} {hp:Hp} (I:Inv l es s0 L en hp) {j:Nat} {op:bg} {e:EN} {o:Oper} (hj:l[j]?=some op) (he:es[j]?=some e) (ho:ops[j]?=some o) (hL:L j=false) (hn:∀ k∈gn o,L k=true)
 {pn:Nat→U} {ai:Hp} (h1:∀ m,op.dst=some m→pn m=lk (cF l es s0 (j+1)).env m) (h2:∀ m,op.dst≠some m→pn m=en m) (h3:∀ id,id∈(fm op e).us→ai id=ag (cF l es s0 (j+1)).h id) (h4:∀ id,id∉(fm op e).us→ai id=hp id) :
 Inv l es s0 (iX L j) pn ai:=by
 have hjl:=(List.getElem?_eq_some_iff.1 hj).1
 have zm:∀ i,L i=true→iX L j i=true:=fun i h=>by unfold iX;split <;> simp [h]
 refine ⟨fun m=>?_,fun id=>?_⟩
 ·by_cases hm:op.dst=some m
  ·have hw:=H.Jk hc hj ho hL hn (.inr hm)
   refine ⟨j+1,by omega,h1 m hm,fun i bN hi ho hd=>?_,fun i bN hi ho hd=>?_⟩
   ·by_cases hij:i=j
    ·subst hij;simp [iX]
    ·exact zm i ((hw i bN ho hd).1 (by omega))
   ·unfold iX
    rw [if_neg (by omega)]
    exact (hw i bN ho hd).2 (by omega)
  ·obtain ⟨k,g1,g2,g3,g4⟩:=I.env m
   refine ⟨k,g1,(h2 m hm).trans g2,fun i bN hi ho hd=>zm i (g3 i bN hi ho hd),fun i bN hi ij hd=>?_⟩
   unfold iX
   by_cases hij:i=j
   ·subst hij;rw [hj] at ij;cases ij;exact absurd hd hm
   ·rw [if_neg hij];exact g4 i bN hi ij hd
 ·by_cases hm:id∈(fm op e).us
  ·have hw:=H.Jm hc hj he ho hL hn (.inr hm)
   refine ⟨j+1,by omega,h3 id hm,fun i bN ei hi ho eZ hd=>?_,fun i bN ei hi ho eZ hd=>?_⟩
   ·by_cases hij:i=j
    ·subst hij;simp [iX]
    ·exact zm i ((hw i bN ei ho eZ hd).1 (by omega))
   ·unfold iX
    rw [if_neg (by omega)]
    exact (hw i bN ei ho eZ hd).2 (by omega)
  ·obtain ⟨k,g1,g2,g3,g4⟩:=I.heap id
   refine ⟨k,g1,(h4 id hm).trans g2,fun i bN ei hi ho eZ hd=>zm i (g3 i bN ei hi ho eZ hd),fun i bN ei hi ij eZ hd=>?_⟩
   unfold iX
   by_cases hij:i=j
   ·subst hij;rw [hj] at ij;cases ij;rw [he] at eZ;cases eZ;exact absurd hd hm
   ·rw [if_neg hij];exact g4 i bN ei hi ij eZ hd
theorem gd.NL (H:gd P ops N l es s0 s1 aO) {L:Nat→Bool} {en:Nat→U} {hp:Hp} (I:Inv l es s0 L en hp) (hall:∀ i,i<l.length→L i=true):en=lk s1.env∧hp=ag s1.h:=by
 have Fy:=H.tr.last
 refine ⟨funext fun m=>?_,funext fun id=>?_⟩
 ·obtain ⟨k,g1,g2,g3,g4⟩:=I.env m
  rw [g2,← Fy]
  refine (ua (fun i=>lk (cF l es s0 i).env m) (fun i=>∃ bN,l[i]?=some bN∧bN.dst=some m) (fun i hi=>H.An m i (fun op ho hd=>hi ⟨op,ho,hd⟩)) g1 (fun i hi1 hi2 ⟨bN,ho,hd⟩=>?_)).symm
  have:=g4 i bN hi1 ho hd
  rw [hall i hi2] at this;cases this
 ·obtain ⟨k,g1,g2,g3,g4⟩:=I.heap id
  rw [g2,← Fy]
  refine (ua (fun i=>ag (cF l es s0 i).h id) (fun i=>∃ bN ei,l[i]?=some bN∧es[i]?=some ei∧id∈(fm bN ei).us) (fun i hi=>H.AQ id i (fun op e ho he hd=>hi ⟨op,e,ho,he,hd⟩)) g1 (fun i hi1 hi2 ⟨bN,ei,ho,eZ,hd⟩=>?_)).symm
  have:=g4 i bN ei hi1 ho eZ hd
  rw [hall i hi2] at this;cases this
def Lf (listed:Array Bool) (i:Nat):Bool:=listed.getD i false
theorem Co {listed:Array Bool} (hs:listed.size=ops.size) {i:Nat}:i∈Region.ready .any ops listed↔i<ops.size∧Lf listed i=false∧∀ o,ops[i]?=some o→∀ k∈gn o,Lf listed k=true:=by
 unfold Region.ready
 rw [List.mem_filter,List.mem_range]
 constructor
 ·rintro ⟨h1,h2⟩
  simp only [Bool.and_eq_true,Bool.not_eq_true'] at h2
  refine ⟨h1,?_,fun o ho k hk=>?_⟩
  ·have:=h2.1
   simp only [Lf,Array.getD_eq_getD_getElem?] at this ⊢
   cases hx:listed[i]? with
   | none=>simp [hx] at this
   | some x=>simp [hx] at this ⊢;exact this
  ·have h3:=h2.2
   rw [ho] at h3
   simp only [Option.map_some,Option.getD_some,Array.all_eq_true'] at h3
   unfold gn at hk
   obtain ⟨e,he,rfl⟩:=List.mem_map.1 hk
   obtain ⟨rV,ME⟩:=List.mem_filter.1 he
   have:=h3 e (by simpa using rV)
   simp [ME] at this
   simpa [Lf] using this
 ·rintro ⟨h1,h2,h3⟩
  refine ⟨h1,?_⟩
  have ho:=Array.getElem?_eq_getElem h1
  simp only [Bool.and_eq_true,Bool.not_eq_true']
  refine ⟨?_,?_⟩
  ·simp only [Lf,Array.getD_eq_getD_getElem?] at h2 ⊢
   have hx:=Array.getElem?_eq_getElem (xs:=listed) (i:=i) (by omega)
   rw [hx] at h2 ⊢
   exact h2
  ·rw [ho]
   simp only [Option.map_some,Option.getD_some,Array.all_eq_true']
   intro e he
   cases hb:Region.binds .any e with
   | false=>simp
   | true=>
     have:=h3 _ ho e.on (List.mem_map.2 ⟨e,List.mem_filter.2 ⟨by simpa using he,hb⟩,rfl⟩)
     simpa [Lf] using this
theorem Qq {xs:List XO} {n:Nat} (h:XO.t n∈xs):n∈kJ xs:=by
 induction xs with
 | nil=>simp at h
 | cons x r ih=>
   rcases List.mem_cons.1 h with rfl | h'
   ·simp [kJ]
   ·cases x with
    | t m=>simp [kJ,ih h']
    | c s=>exact ih h'
theorem KW {en pn:Nat→U} {xs:List XO} (h:∀ n,n∈kJ xs→en n=pn n):xs.map (fu en)=xs.map (fu pn):=by
 refine List.map_congr_left (fun x hx=>?_)
 cases x with
 | t n=>exact h n (Qq hx)
 | c s=>rfl
theorem Lp {en pn:Nat→U} {op:bg} (h:∀ n,n∈lH op→en n=pn n):hJ en op.guard=hJ pn op.guard:=by
 cases hg:op.guard with
 | none=>rfl
 | some q=>
   obtain ⟨d,b⟩:=q
   simp only [hJ]
   rw [h d (by simp [lH,hg])]
theorem RU (H:gd P ops N l es s0 s1 aO) {C:Ctx} (hN:C.N=N) {n0:Nat} (hn0:n0≤s0.h.length) (MS:∀ id,n0≤id→C.h0 id=none) {Q:Exit→Act→World→Prop} (hQ:∀ a w aa,gw C (lk s1.env) (ag s1.h) a w aa→Q .normal a w) :
 ∀ (fuel:Nat) (listed:Array Bool) (en:Nat→U) (hp:Hp) (a:Act) (w:World) (aa:Nat→Option Nat),listed.size=ops.size→cnt (Lf listed) l.length≤fuel→qi ops (Lf listed)→Inv l es s0 (Lf listed) en hp→gw C en hp a w aa→
  wpAny P .any ops Q fuel listed a w:=by
 have Mw:∀ listed:Array Bool,listed.size=ops.size→Region.ready .any ops listed=[]→∀ i,i<l.length→Lf listed i=true:=fun listed hs hr i=>by
  induction i using Nat.strongRecOn with
  | _ i ih=>
    intro hi
    cases hL:Lf listed i with
    | true=>rfl
    | false=>
      have:i∈Region.ready .any ops listed:=(Co hs).2 ⟨by rw [H.size];exact hi,hL,fun o ho k hk=>ih k (H.back i o ho k hk) (by have:=H.back i o ho k hk;omega)⟩
      rw [hr] at this;cases this
 have Fq:∀ (listed:Array Bool) (en:Nat→U) (hp:Hp) (a:Act) (w:World) (aa:Nat→Option Nat),(∀ i,i<l.length→Lf listed i=true)→Inv l es s0 (Lf listed) en hp→gw C en hp a w aa→Q .normal a w:=fun listed en hp a w aa hall I R=>by
  obtain ⟨rfl,rfl⟩:=H.NL I hall
  exact hQ a w aa R
 intro fuel
 induction fuel with
 | zero=>
   intro listed en hp a w aa hs Ff hc I R
   have hall:=DW (Nat.le_zero.1 Ff)
   refine ⟨?_,Fq listed en hp a w aa hall I R⟩
   cases hr:Region.ready .any ops listed with
   | nil=>rfl
   | cons i r=>
     have hm:i∈Region.ready .any ops listed:=by rw [hr];simp
     obtain ⟨h1,h2,_⟩:=(Co hs).1 hm
     rw [hall i (by rw [← H.size];exact h1)] at h2;cases h2
 | succ fuel ih=>
   intro listed en hp a w aa hs Ff hc I R
   refine ⟨fun hr=>Fq listed en hp a w aa (Mw listed hs hr) I R,fun j hj=>?_⟩
   obtain ⟨AV,hL,hn⟩:=(Co hs).1 hj
   have hjl:j<l.length:=by rw [← H.size];exact AV
   have hop:=List.getElem?_eq_getElem hjl
   obtain ⟨o,ho,jl⟩:=H.comp j _ hop
   obtain ⟨e,he,hst,FK⟩:=H.tr.at_ j _ hop
   obtain ⟨ey,qy,ko,tg,th⟩:=zX jl
   have hn':=hn o ho
   have hrd:∀ m,m∈lH l[j]→en m=lk (cF l es s0 j).env m:=fun m hm=>H.Ru hc I hop ho hL hn' (.inl hm)
   have xM:=Lp hrd
   have xD:Lf (listed.setIfInBounds j true)=iX (Lf listed) j:=by
    funext i
    simp only [Lf,iX,Array.getD_eq_getD_getElem?,Array.getElem?_setIfInBounds]
    by_cases hij:j=i
    ·subst hij;simp [hs,AV]
    ·rw [if_neg hij,if_neg (Ne.symm hij)]
   have Fg:cnt (Lf (listed.setIfInBounds j true)) l.length≤fuel:=by
    rw [xD]
    have:=DV (L:=Lf listed) (L':=iX (Lf listed) j) hL (by simp [iX]) (fun i hi=>by simp [iX,hi]) hjl
    omega
   have kn:qi ops (Lf (listed.setIfInBounds j true)):=by
    rw [xD]
    intro i oi ij hi k hk
    unfold iX at hi ⊢
    by_cases hij:i=j
    ·subst hij
     rw [ho] at ij;cases ij
     split
     ·rfl
     ·exact hn' k hk
    ·rw [if_neg hij] at hi
     split
     ·rfl
     ·exact hc i oi ij hi k hk
   unfold wpOp
   rw [ho]
   simp only
   cases e with
   | skip=>
     have hg:hJ en l[j].guard=some false:=by rw [xM];exact FK
     have hw:=Au R jl hg
     rw [if_neg (by rw [hw];simp)]
     have AN:∀ m,l[j].dst=some m→m<C.N:=fun m hm=>by rw [hN];exact th m hm
     have R':gw C (match l[j].dst with | some d=>up en d (.aR []) | none=>en) hp (a.put o.dst undef) w aa:=by
      rw [tg]
      cases hd:l[j].dst with
      | none=>exact R
      | some d=>exact R.put (AN d hd) HS
     refine ih _ _ _ _ _ _ (by simpa using hs) Fg kn ?_ R'
     rw [xD]
     refine H.FZ hc I hop he ho hL hn' (fun m hm=>?_) (fun m hm=>?_) (fun id hid=>by simp [fm] at hid) (fun id _=>rfl)
     ·rw [hst]
      show _=lk (cZ l[j].dst (.aR []) (cF l es s0 j).env) m
      rw [hm];simp only [cZ,vP,bX]
     ·cases hd:l[j].dst with
      | none=>rfl
      | some d=>rw [hd] at hm;exact dg _ _ (fun e=>hm (by rw [e]))
   | run args pre us sv=>
     obtain ⟨t1,t2,t3,t4,t5⟩:=FK
     have hg:hJ en l[j].guard=some true:=by rw [xM];exact t1
     have hw:=Au R jl hg
     rw [if_pos hw]
     left
     have Np:∀ m,m∈kJ l[j].xs→en m=lk (cF l es s0 j).env m:=fun m hm=>hrd m (by
      unfold lH
      cases l[j].guard with
      | none=>exact hm
      | some q=>exact List.mem_cons_of_mem _ hm)
     have hargs:args=l[j].xs.map (fu en):=by rw [t2];exact (KW Np).symm
     have hpre:∀ id,id∈pre.map (·.1)→hp id=ag (cF l es s0 j).h id:=fun id hid=>H.HM hc I hop he ho hL hn' (.inl hid)
     have gD:∀ id,id∈us.map (·.1)→hp id=ag (cF l es s0 j).h id:=fun id hid=>H.HM hc I hop he ho hL hn' (.inr hid)
     have Ug:=IN P ops H.tr j (by omega)
     have hnew:ry C hp pre us:=by
      have gen:∀ {us:List (Nat×HB)} {h:List (Option HB)},(cF l es s0 j).h.length≤h.length→bf pre h us→∀ q∈us,(∃ hb,(q.1,hb)∈pre)∨(cF l es s0 j).h.length≤q.1:=by
       intro us
       induction us with
       | nil=>intro h _ _ q hq;simp at hq
       | cons p r NG=>
         intro h hl hk q hq
         rcases List.mem_cons.1 hq with rfl | hq
         ·rcases hk.1 with h1 | ⟨_,h1⟩
          ·exact .inr (by omega)
          ·exact .inl h1
         ·exact NG (h:=aY h p) (by have:=sE h p;omega) hk.2 q hq
      intro q hq
      rcases gen (Nat.le_refl _) t5 q hq with h | h
      ·exact .inl h
      ·refine .inr ⟨?_,MS _ (by omega)⟩
       rw [gD q.1 (List.mem_map.2 ⟨q,hq,rfl⟩)]
       unfold ag
       rw [List.getElem?_eq_none (by omega)]
     refine t3 o (by simpa using ho) C hp w aa a _ _ _ _ qy (fun q hq=>?_) hnew R.mem (by rw [hargs];exact wG R ko) (fun v w' aD hS hR=>?_)
     ·rw [hpre q.1 (List.mem_map.2 ⟨q,hq,rfl⟩)];exact t4 q hq
     ·have AN:∀ m,l[j].dst=some m→m<C.N:=fun m hm=>by rw [hN];exact th m hm
      have R':gw C (match l[j].dst with | some d=>up en d sv | none=>en) (bI hp us) (a.put o.dst v) w' aD:=by
       rw [tg]
       have RS:=R.step hS
       cases hd:l[j].dst with
       | none=>exact RS
       | some d=>exact RS.put (AN d hd) hR
      refine ih _ _ _ _ _ _ (by simpa using hs) Fg kn ?_ R'
      rw [xD]
      refine H.FZ hc I hop he ho hL hn' (fun m hm=>?_) (fun m hm=>?_) (fun id hid=>?_) (fun id hid=>?_)
      ·rw [hst]
       show _=lk (cZ l[j].dst sv (cF l es s0 j).env) m
       rw [hm];simp only [cZ,vP,bX]
      ·cases hd:l[j].dst with
       | none=>rfl
       | some d=>rw [hd] at hm;exact dg _ _ (fun e=>hm (by rw [e]))
      ·rw [hst]
       show _=ag (iY (cF l es s0 j).h us) id
       rw [(vg t5).1]
       exact wo hid
      ·exact sF (fun q hq he=>hid (List.mem_map.2 ⟨q,hq,he⟩))
end
end Go.ay

namespace Go.ay
open Go
def kR:List Oper→List Nat→List Nat
 | [],acc=>acc
 | o::r,acc=>kR r (acc++[(gn o).foldl (fun m k=>m ||| 2 ^ k ||| acc.getD k 0) 0])
theorem EI (acc:List Nat) (k:Nat):∀ (l:List Nat) (m:Nat),(l.foldl (fun m k=>m ||| 2 ^ k ||| acc.getD k 0) m).testBit k=true→m.testBit k=true∨k∈l∨∃ x∈l,(acc.getD x 0).testBit k=true
 | [],m,h=>.inl h
 | x::l,m,h=>by
   rw [List.foldl_cons] at h
   rcases EI acc k l _ h with h | h | ⟨y,hy,h⟩
   ·rw [Nat.testBit_or,Nat.testBit_or,Nat.testBit_two_pow] at h
    simp only [Bool.or_eq_true,decide_eq_true_eq] at h
    rcases h with (h | h) | h
    ·exact .inl h
    ·exact .inr (.inl (by simp [h]))
    ·exact .inr (.inr ⟨x,by simp,h⟩)
   ·exact .inr (.inl (by simp [h]))
   ·exact .inr (.inr ⟨y,by simp [hy],h⟩)
theorem zD:∀ (ops:List Oper) (acc:List Nat) (x:Nat),x<acc.length→(kR ops acc).getD x 0=acc.getD x 0
 | [],acc,x,_=>rfl
 | o::r,acc,x,h=>by
   unfold kR
   rw [zD r _ x (by simp;omega)]
   simp only [List.getD_eq_getElem?_getD,List.getElem?_append_left h]
theorem Dt:∀ (ops:List Oper) (acc:List Nat) (i:Nat) (o:Oper),ops[i]?=some o→∀ k,((kR ops acc).getD (acc.length+i) 0).testBit k=true→k∈gn o∨∃ x∈gn o,((kR ops acc).getD x 0).testBit k=true
 | [],acc,i,o,h,k,_=>by simp at h
 | p::r,acc,i,o,h,k,hk=>by
   cases i with
   | zero=>
     simp only [List.getElem?_cons_zero,Option.some.injEq] at h
     subst h
     unfold kR at hk ⊢
     rw [zD r _ _ (by simp)] at hk
     simp only [Nat.add_zero,List.getD_eq_getElem?_getD,List.getElem?_concat_length,Option.getD_some] at hk
     rcases EI acc k (gn p) 0 (by simpa [List.getD_eq_getElem?_getD] using hk) with hk | hk | ⟨x,hx,hk⟩
     ·simp at hk
     ·exact .inl hk
     ·refine .inr ⟨x,hx,?_⟩
      have hl:x<acc.length:=by
       by_cases hl:x<acc.length
       ·exact hl
       ·rw [List.getD_eq_getElem?_getD,List.getElem?_eq_none (by omega)] at hk;simp at hk
      rw [zD r _ x (by simp;omega)]
      simp only [List.getD_eq_getElem?_getD,List.getElem?_append_left hl]
      simpa [List.getD_eq_getElem?_getD] using hk
   | succ i=>
     unfold kR at hk ⊢
     refine Dt r _ i o (by simpa using h) k ?_
     have:(acc++[(gn p).foldl (fun m k=>m ||| 2 ^ k ||| acc.getD k 0) 0]).length+i=acc.length+(i+1):=by simp;omega
     rw [this];exact hk
def kf (aO:List Nat) (i:Nat) (x:TE):Nat→List TE→Bool
 | _,[]=>true
 | j,y::r=>((aO.getD j 0).testBit i || gV x y) && kf aO i x (j+1) r
def jd (aO:List Nat):Nat→List TE→Bool
 | _,[]=>true
 | i,x::r=>kf aO i x (i+1) r && jd aO (i+1) r
theorem DY {aO:List Nat} {i:Nat} {x:TE}:∀ {l:List TE} {j:Nat},kf aO i x j l=true→∀ (k:Nat) (y:TE),l[k]?=some y→(aO.getD (j+k) 0).testBit i=true∨gV x y=true
 | [],j,_,k,y,h=>by simp at h
 | z::r,j,hc,k,y,h=>by
   simp only [kf,Bool.and_eq_true,Bool.or_eq_true] at hc
   cases k with
   | zero=>simp at h;subst h;exact hc.1
   | succ k=>
     have:=DY hc.2 k y (by simpa using h)
     rwa [show j+1+k=j+(k+1) by omega] at this
theorem DZ {aO:List Nat}:∀ {l:List TE} {i:Nat},jd aO i l=true→∀ (a b:Nat) (x y:TE),a<b→l[a]?=some x→l[b]?=some y→(aO.getD (i+b) 0).testBit (i+a)=true∨gV x y=true
 | [],i,_,a,b,x,y,_,h,_=>by simp at h
 | z::r,i,hc,a,b,x,y,hab,hx,hy=>by
   simp only [jd,Bool.and_eq_true] at hc
   cases b with
   | zero=>omega
   | succ b=>
     simp only [List.getElem?_cons_succ] at hy
     cases a with
     | zero=>
       simp at hx;subst hx
       have:=DY hc.1 b y hy
       rwa [show i+1+b=i+(b+1) by omega] at this
     | succ a=>
       simp only [List.getElem?_cons_succ] at hx
       have:=DZ hc.2 a b x y (by omega) hx hy
       rwa [show i+1+b=i+(b+1) by omega,show i+1+a=i+(a+1) by omega] at this
def zE (n:Nat) (aO:List Nat):List (List Nat):=aO.map fun m=>(List.range n).filter fun k=>m.testBit k
theorem BO {n:Nat} {aO:List Nat} {i k:Nat}:k∈(zE n aO).getD i []↔k<n∧(aO.getD i 0).testBit k=true:=by
 unfold zE
 rw [List.getD_eq_getElem?_getD,List.getElem?_map,List.getD_eq_getElem?_getD]
 cases h:aO[i]? with
 | none=>simp
 | some m=>simp
def uw:Nat→List Oper→Bool
 | _,[]=>true
 | i,o::r=>(gn o).all (·< i) && uw (i+1) r
theorem Dr:∀ {ops:List Oper} {i:Nat},uw i ops=true→∀ (j:Nat) (o:Oper),ops[j]?=some o→∀ k∈gn o,k<i+j
 | [],i,_,j,o,h,_,_=>by simp at h
 | p::r,i,hb,j,o,h,k,hk=>by
   simp only [uw,Bool.and_eq_true,List.all_eq_true,decide_eq_true_eq] at hb
   cases j with
   | zero=>simp at h;subst h;exact hb.1 k hk
   | succ j=>have:=Dr hb.2 j o (by simpa using h) k hk;omega
def CZ:Option (Nat×HB)→List Nat
 | none=>[]
 | some q=>[q.1]
def um (P:Program) (f:FuncId) (args:List U) (h:List (Option HB)) (K:U→List (Option HB)→List Nat→List Nat→Prop):Prop:=
 ∃ pre us sv,aP P f args pre us sv∧aV (ag h) pre∧bf pre h us∧K sv (iY h us) (pre.map (·.1)) (us.map (·.1))
def zL (P:Program) (h:List (Option HB)) (K:U→List (Option HB)→List Nat→List Nat→Prop):List U→Prop
 | .fn f caps::args=>um P f (args++caps) h K
 | _=>False
def xY (P:Program) (name:String) (h:List (Option HB)) (K:U→List (Option HB)→List Nat→List Nat→Prop):List U→Prop
 | s::args=>match lp s with
   | some (t,x)=>match iK P t name with
     | some (f,none)=>um P f (x::args) h K
     | some (f,some (n,agg))=>match eK n agg (ag h) x with
       | some (p,y,_,rd)=>p∧um P f (y::args) h fun sv h' pre us=>K sv h' (rd++pre) us
       | none=>False
     | none=>False
   | none=>False
 | _=>False
def Cd (h:List (Option HB)) (K:U→List (Option HB)→List Nat→List Nat→Prop):XR→Prop
 | some (p,sv,u,rd)=>p∧K sv (wk h u) rd (CZ u)
 | none=>False
def yE (P:Program) (ao:AO) (args:List U) (h:List (Option HB)) (K:U→List (Option HB)→List Nat→List Nat→Prop):Prop:=
 match ao with
 | .call f=>um P f args h K
 | .oB=>zL P h K args
 | .inv name=>xY P name h K args
 | ao=>Cd h K (bQ ao args (ag h) h.length)
def RD (P:Program) (aO:List Nat) (K:St→Prop):List bg→List TE→St→Prop
 | [],acc,s=>jd aO 0 acc=true∧K s
 | op::r,acc,s=>match hJ (lk s.env) op.guard with
   | some true=>yE P op.ao (op.xs.map (fu (lk s.env))) s.h fun sv h' pre us=>RD P aO K r (acc++[⟨lH op,op.dst,pre,us⟩]) ⟨cZ op.dst sv s.env,h'⟩
   | some false=>RD P aO K r (acc++[⟨lH op,op.dst,[],[]⟩]) ⟨cZ op.dst (.aR []) s.env,s.h⟩
   | none=>False
theorem Cm {hp:Hp}:∀ {rd:List Nat},(∀ id∈rd,(hp id).isSome=true)→(rd.filterMap fun id=>(hp id).map fun hb=>(id,hb)).map (·.1)=rd
 | [],_=>rfl
 | x::r,h=>by
   obtain ⟨hb,hx⟩:=Option.isSome_iff_exists.1 (h x (by simp))
   simp only [List.filterMap_cons,hx,Option.map_some,List.map_cons]
   rw [Cm (fun id hid=>h id (by simp [hid]))]
theorem QC {P:Program} {o:Oper} {ao:AO} {ey:List Operand} (hc:fQ P o.op=some (ao,ey)) {args:List U} {h:List (Option HB)} {K:U→List (Option HB)→List Nat→List Nat→Prop} (hW:yE P ao args h K) :
 ∃ pre us sv,pe P o args pre us sv∧aV (ag h) pre∧bf pre h us∧K sv (iY h us) (pre.map (·.1)) (us.map (·.1)):=by
 unfold yE at hW
 split at hW
 ·obtain ⟨pre,us,sv,h1,h2,h3,h4⟩:=hW
  exact ⟨pre,us,sv,Hs hc h1,h2,h3,h4⟩
 ·unfold zL at hW
  split at hW
  ·obtain ⟨pre,us,sv,h1,h2,h3,h4⟩:=hW
   exact ⟨pre,us,sv,Ht hc h1,h2,h3,h4⟩
  ·exact hW.elim
 ·unfold xY at hW
  split at hW
  ·rename_i s gf
   split at hW
   ·rename_i t x hi
    split at hW
    ·rename_i f hf
     obtain ⟨pre,us,sv,h1,h2,h3,h4⟩:=hW
     exact ⟨pre,us,sv,BX hc hi hf (y:=x) (fun hp hP=>rfl) (fun q hq=>hq) h1 (fun C hp hn _=>hn),h2,h3,h4⟩
    ·rename_i f n agg hf
     split at hW
     ·rename_i p y u rd hE
      obtain ⟨ai,pre,us,sv,h1,h2,h3,h4⟩:=hW
      obtain ⟨g1,g2,g3⟩:=FY hc hi hf hE ai h1 h2 h3
      refine ⟨_,us,sv,g1,g2,g3,?_⟩
      rw [List.map_append]
      have:(tX h rd).map (·.1)=rd:=Cm (fun id hid=>GP hE id hid)
      rw [this];exact h4
     ·exact hW.elim
    ·exact hW.elim
   ·exact hW.elim
  ·exact hW.elim
 ·unfold Cd at hW
  split at hW
  ·rename_i p sv u rd hE
   obtain ⟨hp,hK⟩:=hW
   have jn:ag h h.length=none:=by unfold ag;rw [List.getElem?_eq_none (Nat.le_refl _)]
   have ur:=BW hE
   refine ⟨_,wh u,sv,Hu hc hE hp jn,fun q hq=>?_,?_,?_⟩
   ·obtain ⟨id,_,hid⟩:=List.mem_filterMap.1 hq
    cases dx:ag h id with
    | none=>simp [dx] at hid
    | some hb=>simp [dx] at hid;subst hid;exact dx
   ·cases u with
    | none=>trivial
    | some q=>
      refine ⟨?_,trivial⟩
      rcases ur.1 q rfl with h1 | h1
      ·exact .inl h1
      ·right
       have hs:=ur.2 _ h1
       obtain ⟨hb,oL⟩:=Option.isSome_iff_exists.1 hs
       refine ⟨?_,hb,List.mem_filterMap.2 ⟨q.1,h1,by simp [oL]⟩⟩
       unfold ag at oL
       cases hl:h[q.1]? with
       | none=>simp [hl] at oL
       | some x=>exact (List.getElem?_eq_some_iff.1 hl).1
   ·have:=Cm (hp:=ag h) (rd:=rd) (fun id hid=>ur.2 id hid)
    rw [this]
    cases u with
    | none=>exact hK
    | some q=>exact hK
  ·exact hW.elim
def qX:List bg→List EN→List TE
 | op::l,e::es=>fm op e::qX l es
 | _,_=>[]
theorem CT:∀ {l:List bg} {es:List EN} {a:Nat} {op:bg} {e:EN},l[a]?=some op→es[a]?=some e→(qX l es)[a]?=some (fm op e)
 | [],es,a,op,e,h,_=>by simp at h
 | _::_,[],a,op,e,_,h=>by simp at h
 | p::l,q::es,a,op,e,h1,h2=>by
   cases a with
   | zero=>simp at h1 h2;subst h1;subst h2;rfl
   | succ a=>simp only [qX,List.getElem?_cons_succ] at h1 h2 ⊢;exact CT h1 h2
theorem Cn {P:Program} {ops:Array Oper} {N:Nat} {aO:List Nat} {K:St→Prop}:∀ (l:List bg) (i:Nat) (acc:List TE) (s:St),(∀ (j:Nat) (op:bg),l[j]?=some op→∃ o,ops[i+j]?=some o∧ke P ops N o=some op)→RD P aO K l acc s→
 ∃ es s',Tr P ops i l s es s'∧jd aO 0 (acc++qX l es)=true∧K s'
 | [],i,acc,s,_,h=>⟨[],s,rfl,by simpa [qX] using h.1,h.2⟩
 | op::l,i,acc,s,hc,h=>by
   have kn:∀ (j:Nat) (op:bg),l[j]?=some op→∃ o,ops[i+1+j]?=some o∧ke P ops N o=some op:=fun j op' hj=>by
    have:=hc (j+1) op' (by simpa using hj)
    rwa [show i+(j+1)=i+1+j by omega] at this
   obtain ⟨o,ho,jl⟩:=hc 0 op rfl
   rw [Nat.add_zero] at ho
   obtain ⟨ey,qy,ko,tg,th⟩:=zX jl
   unfold RD at h
   split at h
   ·rename_i hg
    obtain ⟨pre,us,sv,h1,h2,h3,h4⟩:=QC qy h
    obtain ⟨es,s',g1,g2,g3⟩:=Cn l (i+1) _ _ kn h4
    refine ⟨.run (op.xs.map (fu (lk s.env))) pre us sv::es,s',⟨⟨hg,rfl,fun o' ho'=>?_,h2,h3⟩,g1⟩,?_,g3⟩
    ·rw [ho] at ho';cases ho';exact h1
    ·simpa [qX,fm] using g2
   ·rename_i hg
    obtain ⟨es,s',g1,g2,g3⟩:=Cn l (i+1) _ _ kn h
    exact ⟨.skip::es,s',⟨hg,g1⟩,by simpa [qX,fm] using g2,g3⟩
   ·exact h.elim
theorem Rt {P:Program} {C:Ctx} {n0:Nat} {ops:Array Oper} {K:St→Prop} {Q:Exit→Act→World→Prop} {l:List bg} (hm:P.follows .mixedOrders=true) (hsz:ops.size=l.length) (Fh:∀ (j:Nat) (op:bg),l[j]?=some op→∃ o,ops[j]?=some o∧ke P ops C.N o=some op)
 (Mx:uw 0 ops.toList=true) {s:St} {a:Act} {w:World} (h:RD P (kR ops.toList []) K l [] s) (R:fL C n0 s a w) (hK:∀ s a w,K s→fL C n0 s a w→Q .normal a w) (id:Nat):(Code.region id ops true).wp P Q a w:=by
 refine wp_region_any hm ?_
 obtain ⟨es,s',h1,h2,h3⟩:=Cn l 0 [] s (fun j op hj=>by rw [Nat.zero_add];exact Fh j op hj) h
 have H:gd P ops C.N l es s s' (zE l.length (kR ops.toList [])):=by
  refine ⟨h1,hsz,Fh,fun i o ho k hk=>?_,fun i o ho k hk=>?_,fun x y BY BZ ea eb hxy ha hb MF MG=>?_⟩
  ·have:=Dr Mx i o (by simpa using ho) k hk;omega
  ·obtain ⟨cX,hk⟩:=BO.1 hk
   have:=Dt ops.toList [] i o (by simpa using ho) k (by simpa using hk)
   rcases this with g | ⟨x,hx,g⟩
   ·exact ⟨gn o,fun x hx=>hx,.inl g⟩
   ·exact ⟨gn o,fun x hx=>hx,.inr ⟨x,hx,BO.2 ⟨cX,g⟩⟩⟩
  ·have:=DZ (aO:=kR ops.toList []) (l:=qX l es) (i:=0) (by simpa using h2) x y _ _ hxy (CT ha MF) (CT hb MG)
   rw [Nat.zero_add,Nat.zero_add] at this
   refine this.imp (fun h=>BO.2 ⟨(List.getElem?_eq_some_iff.1 ha).1,h⟩) (fun h=>h)
 have hlen:=h1.length
 obtain ⟨aa,RF⟩:=R.rep
 have hst:=IN P ops h1 l.length (Nat.le_refl _)
 rw [h1.last] at hst
 have iC:gw C (lk s.env) (ag s.h) a { w with drawn:=w.drawn+1 } aa:=RF.step (RF.mem.quiet (w':={ w with drawn:=w.drawn+1 }) rfl rfl rfl rfl)
 refine RU H rfl R.vJ R.h0 (fun a w aa RF=>hK s' a w h3 ⟨⟨aa,RF⟩,Nat.le_trans R.vJ hst,R.h0⟩) ops.size _ (lk s.env) (ag s.h) a _ aa (by simp) ?_ ?_ ?_ iC
 ·rw [hsz];exact DT _ _
 ·intro i o ho hL
  exfalso
  simp only [Lf,Array.getD_eq_getD_getElem?,Array.getElem?_replicate] at hL
  split at hL <;> simp at hL
 ·have hf:∀ i,Lf (Array.replicate ops.size false) i=false:=fun i=>by
   simp only [Lf,Array.getD_eq_getD_getElem?,Array.getElem?_replicate]
   split <;> simp
  refine ⟨fun m=>⟨0,by omega,?_,fun i op hi=>by omega,fun i op _ _ _=>hf i⟩,fun id=>⟨0,by omega,?_,fun i op e hi=>by omega,fun i op e _ _ _ _=>hf i⟩⟩
  ·cases l <;> cases es <;> rfl
  ·cases l <;> cases es <;> rfl
end Go.ay

namespace Go.ay
open Go
inductive AC where
 | skip
 | dz (ops:List bg)
 | qf (aO:List Nat) (ops:List bg)
 | seq (a b:AC)
 | cond (x:XO) (a b:AC)
 | block (id:Nat) (a:AC)
 | loop (a:AC)
 | exit (id:Nat)
 | ret
 | jh
 deriving Inhabited
def AC.ta:AC→Bool
 | .seq a b=>a.ta && b.ta
 | .cond _ a b=>a.ta || b.ta
 | .loop _ | .exit _ | .ret=>false
 | _=>true
def wV (P:Program) (ops:Array Oper) (N:Nat):List Oper→Option (List bg)
 | []=>some []
 | o::r=>match ke P ops N o,wV P ops N r with
   | some x,some l=>some (x::l)
   | _,_=>none
theorem zY {P:Program} {ops:Array Oper} {N:Nat}:∀ {os:List Oper} {l:List bg},wV P ops N os=some l→os.length=l.length∧∀ (j:Nat) (op:bg),l[j]?=some op→∃ o,os[j]?=some o∧ke P ops N o=some op
 | [],l,h=>by cases h;exact ⟨rfl,fun j op hj=>by simp at hj⟩
 | o::r,l,h=>by
   unfold wV at h
   split at h
   ·rename_i x l' hx hl
    cases h
    obtain ⟨g1,g2⟩:=zY hl
    refine ⟨by simp [g1],fun j op hj=>?_⟩
    cases j with
    | zero=>simp at hj;subst hj;exact ⟨o,rfl,hx⟩
    | succ j=>simp only [List.getElem?_cons_succ] at hj ⊢;exact g2 j op hj
   ·cases h
def comp (P:Program) (N:Nat):Code→Option AC
 | .skip=>some .skip
 | .region _ ops draw=>match draw,wV P ops N ops.toList with
   | false,some l=>some (.dz l)
   | true,some l=>if P.follows .mixedOrders && uw 0 ops.toList then some (.qf (kR ops.toList []) l) else none
   | _,none=>none
 | .seq a b=>match comp P N a,comp P N b with
   | some x,some y=>some (.seq x y)
   | _,_=>none
 | .cond c a b=>match Ac c,comp P N a,comp P N b with
   | some q,some x,some y=>if x.ta && y.ta then some (.seq (.cond q x y) .jh) else some (.cond q x y)
   | _,_,_=>none
 | .block id c=>match comp P N c with
   | some x=>some (.seq (.block id x) .jh)
   | none=>none
 | .loop c=>match comp P N c with
   | some x=>some (.loop x)
   | none=>none
 | .exit id=>some (.exit id)
 | .ret=>some .ret
 | _=>none
inductive Ex where
 | normal
 | exit (id:Nat)
 | ret
def Ex.zj:Ex→Exit
 | .normal=>.normal
 | .exit id=>.exit id
 | .ret=>.ret
def cV (n0:Nat) (s s':St):Prop:=∀ C a w,fL C n0 s a w→fL C n0 s' a w
def sD (n:St→Prop) (K:Ex→St→Prop):Ex→St→Prop
 | .normal,s=>n s
 | .exit id,s=>K (.exit id) s
 | .ret,s=>K .ret s
def Dz (id:Nat) (K:Ex→St→Prop):Ex→St→Prop
 | .normal,s=>K .normal s
 | .exit j,s=>if j=id then K .normal s else K (.exit j) s
 | .ret,s=>K .ret s
def zZ (T F:Prop):U→Prop
 | .rv (.bool t)=>if t=true then T else F
 | _=>False
def W (P:Program) (n0:Nat):AC→(Ex→St→Prop)→St→Prop
 | .skip,K,s=>K .normal s
 | .dz ops,K,s=>RW P (K .normal) ops s
 | .qf aO ops,K,s=>RD P aO (K .normal) ops [] s
 | .seq a b,K,s=>W P n0 a (sD (W P n0 b K) K) s
 | .cond x a b,K,s=>zZ (W P n0 a K s) (W P n0 b K s) (fu (lk s.env) x)
 | .block id a,K,s=>W P n0 a (Dz id K) s
 | .loop a,K,s=>∃ (ι:Type) (σ:ι→St) (pr:ι→Prop) (μ:ι→Nat) (i0:ι),pr i0∧cV n0 s (σ i0)∧∀ i,pr i→W P n0 a (sD (fun s'=>∃ i',pr i'∧μ i'<μ i∧cV n0 s' (σ i')) K) (σ i)
 | .exit id,K,s=>K (.exit id) s
 | .ret,K,s=>K .ret s
 | .jh,K,s=>∃ s',cV n0 s s'∧K .normal s'
theorem least {p:Nat→Prop} (h:∃ m,p m):∃ m,p m∧∀ k,p k→m≤k:=by
 obtain ⟨m,hm⟩:=h
 induction m using Nat.strongRecOn with
 | _ m ih=>
   by_cases hl:∃ k,p k∧k<m
   ·obtain ⟨k,hk,hlt⟩:=hl
    exact ih k hlt hk
   ·exact ⟨m,hm,fun k hk=>by
     by_cases hlt:k<m
     ·exact absurd ⟨k,hk,hlt⟩ hl
     ·omega⟩
theorem Eu {P:Program} {n0:Nat} {C:Ctx} {K:Ex→St→Prop} {Q:Exit→Act→World→Prop} (hq:∀ e s a w,K e s→fL C n0 s a w→Q e.zj a w) :
 ∀ e s a w,sD (W P n0 .jh K) K e s→fL C n0 s a w→Q e.zj a w
 | .normal,s,a,w,⟨s',h1,h2⟩,R=>hq .normal s' a w h2 (h1 C a w R)
 | .exit id,s,a,w,hk,R=>hq (.exit id) s a w hk R
 | .ret,s,a,w,hk,R=>hq .ret s a w hk R
theorem TA {P:Program} {n0:Nat} {C:Ctx}:∀ (c:Code) (ac:AC) (K:Ex→St→Prop) (Q:Exit→Act→World→Prop) (s:St) (a:Act) (w:World),comp P C.N c=some ac→W P n0 ac K s→fL C n0 s a w→(∀ e s a w,K e s→fL C n0 s a w→Q e.zj a w)→c.wp P Q a w:=by
 intro c
 induction c with
 | skip=>intro ac K Q s a w hc hw R hq;cases hc;exact wp_skip (hq _ _ _ _ hw R)
 | region id ops draw=>
   intro ac K Q s a w hc hw R hq
   unfold comp at hc
   split at hc
   ·rename_i l hl
    cases hc
    obtain ⟨g1,g2⟩:=zY hl
    refine wp_region (Ig (C:=C) (n0:=n0) (fun s a w hk R=>hq .normal s a w hk R) l _ s a w (by simpa using g1) (fun j i op hi hj=>?_) hw R)
    obtain ⟨o,ho,jl⟩:=g2 j op hj
    have hlt:j<ops.size:=by
     have:=(List.getElem?_eq_some_iff.1 hj).1
     have e:ops.toList.length=ops.size:=by simp
     omega
    rw [List.getElem?_range hlt] at hi
    cases hi
    exact ⟨o,by simpa using ho,jl⟩
   ·rename_i l hl
    split at hc
    ·rename_i hb
     cases hc
     simp only [Bool.and_eq_true] at hb
     obtain ⟨g1,g2⟩:=zY hl
     exact Rt hb.1 (by simpa using g1) (fun j op hj=>by
      obtain ⟨o,ho,jl⟩:=g2 j op hj
      exact ⟨o,by simpa using ho,jl⟩) hb.2 hw R (fun s a w hk R=>hq .normal s a w hk R) id
    ·cases hc
   ·cases hc
 | seq x y Br Bs=>
   intro ac K Q s a w hc hw R hq
   unfold comp at hc
   split at hc
   ·rename_i x' y' hx hy
    cases hc
    refine wp_seq (Br x' _ _ s a w hx hw R (fun e s a w hk R=>?_))
    cases e with
    | normal=>exact Bs y' K Q s a w hy hk R hq
    | exit id=>exact hq (.exit id) s a w hk R
    | ret=>exact hq .ret s a w hk R
   ·cases hc
 | cond c x y Br Bs=>
   intro ac K Q s a w hc hw R hq
   unfold comp at hc
   split at hc
   ·rename_i q x' y' rQ hx hy
    have base:∀ (K:Ex→St→Prop),W P n0 (.cond q x' y') K s→(∀ e s a w,K e s→fL C n0 s a w→Q e.zj a w)→(Code.cond c x y).wp P Q a w:=by
     intro K hw hq
     unfold W zZ at hw
     split at hw
     ·rename_i t ht
      obtain ⟨aa,RF⟩:=R.rep
      have hA:=wG RF (xs:=[c]) (ys:=[q]) (by simp [sW,rQ])
      cases hA with
      | cons h1 _=>
        rw [ht] at h1
        have hb:=sB h1
        refine wp_cond hb ?_
        cases t with
        | true=>exact Br x' K Q s a w hx (by simpa using hw) R hq
        | false=>exact Bs y' K Q s a w hy (by simpa using hw) R hq
     ·exact hw.elim
    split at hc
    ·cases hc
     exact base _ hw (Eu hq)
    ·cases hc
     exact base K hw hq
   ·cases hc
 | block id c ih=>
   intro ac K Q s a w hc hw R hq
   unfold comp at hc
   split at hc
   ·rename_i x hx
    cases hc
    have dx:=Eu (P:=P) hq
    refine wp_block (ih x _ _ s a w hx hw R (fun e s a w hk R=>?_))
    cases e with
    | normal=>exact dx .normal s a w hk R
    | exit j=>
      have hk':if j=id then (∃ s',cV n0 s s'∧K .normal s') else K (.exit j) s:=hk
      show if j=id then Q .normal a w else Q (.exit j) a w
      by_cases hj:j=id
      ·rw [if_pos hj] at hk' ⊢;exact dx .normal s a w hk' R
      ·rw [if_neg hj] at hk' ⊢;exact hq (.exit j) s a w hk' R
    | ret=>exact hq .ret s a w hk R
   ·cases hc
 | loop c ih=>
   intro ac K Q s a w hc hw R hq
   unfold comp at hc
   split at hc
   ·rename_i x hx
    cases hc
    obtain ⟨ι,σ,pr,μ,i0,h0,he,hr⟩:=hw
    have key:∀ n i,μ i=n→pr i→∀ a w,fL C n0 (σ i) a w→(Code.loop c).wp P Q a w:=by
     classical
     intro n i hn hi a w R
     let I:Act→World→Prop:=fun a w=>∃ i,pr i∧fL C n0 (σ i) a w
     have hex:∀ a w,I a w→∃ m,∃ i,pr i∧fL C n0 (σ i) a w∧μ i=m:=fun a w ⟨i,h1,h2⟩=>⟨μ i,i,h1,h2,rfl⟩
     have Fo:∀ a w,∃ m,I a w→(∃ i,pr i∧fL C n0 (σ i) a w∧μ i=m)∧∀ i,pr i→fL C n0 (σ i) a w→m≤μ i:=fun a w=>by
      by_cases h:I a w
      ·obtain ⟨m,hm,hl⟩:=least (p:=fun m=>∃ i,pr i∧fL C n0 (σ i) a w∧μ i=m) (hex a w h)
       exact ⟨m,fun _=>⟨hm,fun i hi hR=>hl _ ⟨i,hi,hR,rfl⟩⟩⟩
      ·exact ⟨0,fun h'=>absurd h' h⟩
     let M:Act→World→Nat:=fun a w=>(Fo a w).choose
     have hM:∀ a w,I a w→(∃ i,pr i∧fL C n0 (σ i) a w∧μ i=M a w)∧∀ i,pr i→fL C n0 (σ i) a w→M a w≤μ i:=fun a w h=>(Fo a w).choose_spec h
     refine wp_loop I M ⟨i,hi,R⟩ (fun a w hI=>?_)
     obtain ⟨⟨j,hj,hR,Ud⟩,_⟩:=hM a w hI
     refine ih x _ _ (σ j) a w hx (hr j hj) hR (fun e s' a' w' hk R'=>?_)
     cases e with
     | normal=>
       obtain ⟨j',hj',hlt,MH⟩:=hk
       have EW:=MH C a' w' R'
       have ET:I a' w':=⟨j',hj',EW⟩
       refine ⟨ET,?_⟩
       have:=(hM a' w' ET).2 j' hj' EW
       omega
     | exit id=>exact hq (.exit id) s' a' w' hk R'
     | ret=>exact hq .ret s' a' w' hk R'
    exact key _ i0 rfl h0 a w (he C a w R)
   ·cases hc
 | exit id=>intro ac K Q s a w hc hw R hq;cases hc;exact wp_exit (hq _ _ _ _ hw R)
 | ret=>intro ac K Q s a w hc hw R hq;cases hc;exact wp_ret (hq _ _ _ _ hw R)
 | rangeFunc=>intro ac K Q s a w hc;cases hc
 | scope=>intro ac K Q s a w hc;cases hc
 | label=>intro ac K Q s a w hc;cases hc
 | goto=>intro ac K Q s a w hc;cases hc
 | refuse=>intro ac K Q s a w hc;cases hc
end Go.ay

namespace Go.ay
open Go
inductive It where
 | c (a:AC)
 | o (l:List bg)
 | d (aO:List Nat) (acc:List TE) (l:List bg)
 | b (id:Nat)
def CI (P:Program) (n0:Nat):List It→(Ex→St→Prop)→Ex→St→Prop
 | [],K=>K
 | .c a::k,K=>sD (W P n0 a (CI P n0 k K)) (CI P n0 k K)
 | .o l::k,K=>sD (RW P (CI P n0 k K .normal) l) (CI P n0 k K)
 | .d aO acc l::k,K=>sD (RD P aO (CI P n0 k K .normal) l acc) (CI P n0 k K)
 | .b id::k,K=>Dz id (CI P n0 k K)
def G (P:Program) (n0:Nat) (k:List It) (K:Ex→St→Prop) (env:List (Nat×U)) (h:List (Option HB)):Prop:=CI P n0 k K .normal ⟨env,h⟩
def GX (P:Program) (n0:Nat) (id:Nat) (k:List It) (K:Ex→St→Prop) (env:List (Nat×U)) (h:List (Option HB)):Prop:=CI P n0 k K (.exit id) ⟨env,h⟩
def bw (P:Program) (n0:Nat) (a b:AC) (k:List It) (K:Ex→St→Prop) (env:List (Nat×U)) (h:List (Option HB)):U→Prop
 | .rv (.bool t)=>if t=true then G P n0 (.c a::k) K env h else G P n0 (.c b::k) K env h
 | _=>False
def sQ (P:Program) (n0:Nat) (f:FuncId) (args:List U) (dst:Option Nat) (r:List bg) (k:List It) (K:Ex→St→Prop) (env:List (Nat×U)) (h:List (Option HB)):Prop:=
 uo P f args h fun sv h'=>G P n0 (.o r::k) K (cZ dst sv env) h'
def zM (P:Program) (n0:Nat) (dst:Option Nat) (r:List bg) (k:List It) (K:Ex→St→Prop) (env:List (Nat×U)) (h:List (Option HB)):List U→Prop
 | .fn f caps::args=>sQ P n0 f (args++caps) dst r k K env h
 | _=>False
def xZ (P:Program) (n0:Nat) (name:String) (dst:Option Nat) (r:List bg) (k:List It) (K:Ex→St→Prop) (env:List (Nat×U)) (h:List (Option HB)):List U→Prop
 | s::args=>match lp s with
   | some (t,x)=>match iK P t name with
     | some (f,none)=>sQ P n0 f (x::args) dst r k K env h
     | some (f,some (n,agg))=>match eK n agg (ag h) x with
       | some (p,y,_,_)=>p∧sQ P n0 f (y::args) dst r k K env h
       | none=>False
     | none=>False
   | none=>False
 | _=>False
def Ce (P:Program) (n0:Nat) (dst:Option Nat) (r:List bg) (k:List It) (K:Ex→St→Prop) (env:List (Nat×U)) (h:List (Option HB)):XR→Prop
 | some (p,sv,u,_)=>p∧G P n0 (.o r::k) K (cZ dst sv env) (wk h u)
 | none=>False
def sq (P:Program) (n0:Nat) (ao:AO) (args:List U) (dst:Option Nat) (r:List bg) (k:List It) (K:Ex→St→Prop) (env:List (Nat×U)) (h:List (Option HB)):Prop:=
 match ao with
 | .call f=>sQ P n0 f args dst r k K env h
 | .oB=>zM P n0 dst r k K env h args
 | .inv name=>xZ P n0 name dst r k K env h args
 | ao=>Ce P n0 dst r k K env h (bQ ao args (ag h) h.length)
def br (P:Program) (n0:Nat) (b:Bool) (ao:AO) (xs:List XO) (dst:Option Nat) (r:List bg) (k:List It) (K:Ex→St→Prop) (env:List (Nat×U)) (h:List (Option HB)):U→Prop
 | .rv (.bool t)=>if t=b then sq P n0 ao (xs.map (fu (lk env))) dst r k K env h else G P n0 (.o r::k) K (cZ dst (.aR []) env) h
 | .aR []=>G P n0 (.o r::k) K (cZ dst (.aR []) env) h
 | _=>False
def sS (P:Program) (n0:Nat) (aO:List Nat) (acc:List TE) (cv qP:List Nat) (f:FuncId) (args:List U) (dst:Option Nat) (r:List bg) (k:List It) (K:Ex→St→Prop) (env:List (Nat×U)) (h:List (Option HB)):Prop:=
 um P f args h fun sv h' pre us=>G P n0 (.d aO (acc++[⟨cv,dst,qP++pre,us⟩]) r::k) K (cZ dst sv env) h'
def zO (P:Program) (n0:Nat) (aO:List Nat) (acc:List TE) (cv:List Nat) (dst:Option Nat) (r:List bg) (k:List It) (K:Ex→St→Prop) (env:List (Nat×U)) (h:List (Option HB)):List U→Prop
 | .fn f caps::args=>sS P n0 aO acc cv [] f (args++caps) dst r k K env h
 | _=>False
def yb (P:Program) (n0:Nat) (aO:List Nat) (acc:List TE) (cv:List Nat) (name:String) (dst:Option Nat) (r:List bg) (k:List It) (K:Ex→St→Prop) (env:List (Nat×U)) (h:List (Option HB)):List U→Prop
 | s::args=>match lp s with
   | some (t,x)=>match iK P t name with
     | some (f,none)=>sS P n0 aO acc cv [] f (x::args) dst r k K env h
     | some (f,some (n,agg))=>match eK n agg (ag h) x with
       | some (p,y,_,rd)=>p∧sS P n0 aO acc cv rd f (y::args) dst r k K env h
       | none=>False
     | none=>False
   | none=>False
 | _=>False
def Ch (P:Program) (n0:Nat) (aO:List Nat) (acc:List TE) (cv:List Nat) (dst:Option Nat) (r:List bg) (k:List It) (K:Ex→St→Prop) (env:List (Nat×U)) (h:List (Option HB)):XR→Prop
 | some (p,sv,u,rd)=>p∧G P n0 (.d aO (acc++[⟨cv,dst,rd,CZ u⟩]) r::k) K (cZ dst sv env) (wk h u)
 | none=>False
def sr (P:Program) (n0:Nat) (aO:List Nat) (acc:List TE) (cv:List Nat) (ao:AO) (args:List U) (dst:Option Nat) (r:List bg) (k:List It) (K:Ex→St→Prop) (env:List (Nat×U)) (h:List (Option HB)):Prop:=
 match ao with
 | .call f=>sS P n0 aO acc cv [] f args dst r k K env h
 | .oB=>zO P n0 aO acc cv dst r k K env h args
 | .inv name=>yb P n0 aO acc cv name dst r k K env h args
 | ao=>Ch P n0 aO acc cv dst r k K env h (bQ ao args (ag h) h.length)
def bt (P:Program) (n0:Nat) (aO:List Nat) (acc:List TE) (cv:List Nat) (b:Bool) (ao:AO) (xs:List XO) (dst:Option Nat) (r:List bg) (k:List It) (K:Ex→St→Prop) (env:List (Nat×U)) (h:List (Option HB)):U→Prop
 | .rv (.bool t)=>if t=b then sr P n0 aO acc cv ao (xs.map (fu (lk env))) dst r k K env h else G P n0 (.d aO (acc++[⟨cv,dst,[],[]⟩]) r::k) K (cZ dst (.aR []) env) h
 | .aR []=>G P n0 (.d aO (acc++[⟨cv,dst,[],[]⟩]) r::k) K (cZ dst (.aR []) env) h
 | _=>False
section
variable {P:Program} {n0:Nat} {k:List It} {K:Ex→St→Prop} {env:List (Nat×U)} {h:List (Option HB)}
theorem Lw:G P n0 [] K env h=K .normal ⟨env,h⟩:=rfl
theorem LH:G P n0 (.c .skip::k) K env h=G P n0 k K env h:=rfl
theorem LC {ops:List bg}:G P n0 (.c (.dz ops)::k) K env h=G P n0 (.o ops::k) K env h:=rfl
theorem LD {aO:List Nat} {ops:List bg}:G P n0 (.c (.qf aO ops)::k) K env h=G P n0 (.d aO [] ops::k) K env h:=rfl
theorem LG {a b:AC}:G P n0 (.c (.seq a b)::k) K env h=G P n0 (.c a :: .c b::k) K env h:=rfl
theorem Lq {id:Nat} {a:AC}:G P n0 (.c (.block id a)::k) K env h=G P n0 (.c a :: .b id::k) K env h:=rfl
theorem Lt {id:Nat}:G P n0 (.b id::k) K env h=G P n0 k K env h:=rfl
theorem Lv {id:Nat}:G P n0 (.c (.exit id)::k) K env h=GX P n0 id k K env h:=rfl
theorem Lr {x:XO} {a b:AC}:G P n0 (.c (.cond x a b)::k) K env h=bw P n0 a b k K env h (fu (lk env) x):=by
 show zZ _ _ _=_
 generalize fu (lk env) x=y
 cases y with
 | rv r=>cases r <;> rfl
 | _=>rfl
theorem sK {P:Program} {n0:Nat} {K:Ex→St→Prop} {s:St}:∀ {k:List It},CI P n0 k K .ret s=K .ret s
 | []=>rfl
 | .c a::k=>sK (k:=k)
 | .o a::k=>sK (k:=k)
 | .d a b c::k=>sK (k:=k)
 | .b a::k=>sK (k:=k)
theorem LF:G P n0 (.c .ret::k) K env h=K .ret ⟨env,h⟩:=by
 show CI P n0 k K .ret ⟨env,h⟩=_
 exact sK
theorem LZ {id:Nat}:GX P n0 id [] K env h=K (.exit id) ⟨env,h⟩:=rfl
theorem LX {id:Nat} {a:AC}:GX P n0 id (.c a::k) K env h=GX P n0 id k K env h:=rfl
theorem Ma {id:Nat} {a:List bg}:GX P n0 id (.o a::k) K env h=GX P n0 id k K env h:=rfl
theorem LW {id j:Nat}:GX P n0 id (.b j::k) K env h=if id=j then G P n0 k K env h else GX P n0 id k K env h:=rfl
theorem Lx:G P n0 (.o []::k) K env h=G P n0 k K env h:=rfl
theorem Ls {aO:List Nat} {acc:List TE}:G P n0 (.d aO acc []::k) K env h=(jd aO 0 acc=true∧G P n0 k K env h):=rfl
theorem Re {dst:Option Nat} {r:List bg} (o:XR):Cg h (fun sv h'=>RW P (CI P n0 k K .normal) r ⟨cZ dst sv env,h'⟩) o=Ce P n0 dst r k K env h o:=by
 cases o with
 | none=>rfl
 | some q=>obtain ⟨p,sv,u,rd⟩:=q;rfl
theorem Hv {dst:Option Nat} {ao:AO} {args:List U} {r:List bg}:yF P ao args h (fun sv h'=>RW P (CI P n0 k K .normal) r ⟨cZ dst sv env,h'⟩)=sq P n0 ao args dst r k K env h:=by
 cases ao
 case call f=>rfl
 case oB=>
  show zN _ _ _ _=zM _ _ _ _ _ _ _ _ _
  cases args with
  | nil=>rfl
  | cons x t=>cases x <;> rfl
 case inv name=>
  show ya _ _ _ _ _=xZ _ _ _ _ _ _ _ _ _ _
  cases args with
  | nil=>rfl
  | cons x t=>
    simp only [ya,xZ]
    cases lp x with
    | none=>rfl
    | some q=>
      obtain ⟨t,y⟩:=q
      simp only
      cases iK P t name with
      | none=>rfl
      | some q=>
        obtain ⟨f,ld⟩:=q
        cases ld with
        | none=>rfl
        | some q=>
          obtain ⟨n,agg⟩:=q
          simp only
          cases eK n agg (ag h) y with
          | none=>rfl
          | some q=>obtain ⟨p,z,u,rd⟩:=q;rfl
 all_goals first | exact Re _ | rfl
theorem Ly {dst:Option Nat} {ao:AO} {xs:List XO} {r:List bg}:G P n0 (.o (⟨dst,ao,xs,none⟩::r)::k) K env h=sq P n0 ao (xs.map (fu (lk env))) dst r k K env h:=Hv
theorem LB {dst:Option Nat} {ao:AO} {xs:List XO} {d:Nat} {b:Bool} {r:List bg}:G P n0 (.o (⟨dst,ao,xs,some (d,b)⟩::r)::k) K env h=br P n0 b ao xs dst r k K env h (lk env d):=by
 show RW P _ _ _=_
 unfold RW
 simp only [hJ]
 generalize lk env d=x
 cases x with
 | rv q=>
   cases q with
   | bool t=>cases t <;> cases b <;> first | exact Hv | rfl
   | _=>rfl
 | aR xs=>cases xs <;> rfl
 | _=>rfl
theorem Rb {aO:List Nat} {acc:List TE} {cv:List Nat} {dst:Option Nat} {r:List bg} (o:XR):Cd h (fun sv h' pre us=>RD P aO (CI P n0 k K .normal) r (acc++[⟨cv,dst,pre,us⟩]) ⟨cZ dst sv env,h'⟩) o=Ch P n0 aO acc cv dst r k K env h o:=by
 cases o with
 | none=>rfl
 | some q=>obtain ⟨p,sv,u,rd⟩:=q;rfl
theorem Hr {aO:List Nat} {acc:List TE} {cv:List Nat} {dst:Option Nat} {ao:AO} {args:List U} {r:List bg}:yE P ao args h (fun sv h' pre us=>RD P aO (CI P n0 k K .normal) r (acc++[⟨cv,dst,pre,us⟩]) ⟨cZ dst sv env,h'⟩)=sr P n0 aO acc cv ao args dst r k K env h:=by
 cases ao
 case call f=>rfl
 case oB=>
  show zL _ _ _ _=zO _ _ _ _ _ _ _ _ _ _ _ _
  cases args with
  | nil=>rfl
  | cons x t=>cases x <;> rfl
 case inv name=>
  show xY _ _ _ _ _=yb _ _ _ _ _ _ _ _ _ _ _ _ _
  cases args with
  | nil=>rfl
  | cons x t=>
    simp only [xY,yb]
    cases lp x with
    | none=>rfl
    | some q=>
      obtain ⟨t,y⟩:=q
      simp only
      cases iK P t name with
      | none=>rfl
      | some q=>
        obtain ⟨f,ld⟩:=q
        cases ld with
        | none=>rfl
        | some q=>
          obtain ⟨n,agg⟩:=q
          simp only
          cases eK n agg (ag h) y with
          | none=>rfl
          | some q=>obtain ⟨p,z,u,rd⟩:=q;rfl
 all_goals first | exact Rb _ | rfl
theorem Lz {aO:List Nat} {acc:List TE} {dst:Option Nat} {ao:AO} {xs:List XO} {r:List bg}:G P n0 (.d aO acc (⟨dst,ao,xs,none⟩::r)::k) K env h=sr P n0 aO acc (kJ xs) ao (xs.map (fu (lk env))) dst r k K env h:=Hr
theorem LA {aO:List Nat} {acc:List TE} {dst:Option Nat} {ao:AO} {xs:List XO} {d:Nat} {b:Bool} {r:List bg}:G P n0 (.d aO acc (⟨dst,ao,xs,some (d,b)⟩::r)::k) K env h=bt P n0 aO acc (d::kJ xs) b ao xs dst r k K env h (lk env d):=by
 show RD P _ _ _ _ _=_
 unfold RD
 simp only [hJ]
 generalize lk env d=x
 cases x with
 | rv q=>
   cases q with
   | bool t=>cases t <;> cases b <;> first | exact Hr | rfl
   | _=>rfl
 | aR xs=>cases xs <;> rfl
 | _=>rfl
end
theorem ck {P:Program} {n0:Nat} {f:FuncId} {args:List U} {dst:Option Nat} {r:List bg} {k:List It} {K:Ex→St→Prop} {env:List (Nat×U)} {h:List (Option HB)} {pre us:List (Nat×HB)} {sv:U}
 (hc:aP P f args pre us sv) (hp:aV (ag h) pre) (hu:bf pre h us) (hn:G P n0 (.o r::k) K (cZ dst sv env) (iY h us)):sQ P n0 f args dst r k K env h:=⟨pre,us,sv,hc,hp,hu,hn⟩
theorem aM {P:Program} {n0:Nat} {f:FuncId} {args:List U} {dst:Option Nat} {r:List bg} {k:List It} {K:Ex→St→Prop} {env:List (Nat×U)} {h:List (Option HB)} {sv:U}
 (hc:aP P f args [] [] sv) (hn:G P n0 (.o r::k) K (cZ dst sv env) h):sQ P n0 f args dst r k K env h:=⟨[],[],sv,hc,fun q hq=>by simp at hq,trivial,hn⟩
theorem dY {P:Program} {n0:Nat} {aO:List Nat} {acc:List TE} {cv qP:List Nat} {f:FuncId} {args:List U} {dst:Option Nat} {r:List bg} {k:List It} {K:Ex→St→Prop} {env:List (Nat×U)} {h:List (Option HB)} {pre us:List (Nat×HB)} {sv:U}
 (hc:aP P f args pre us sv) (hp:aV (ag h) pre) (hu:bf pre h us) (hn:G P n0 (.d aO (acc++[⟨cv,dst,qP++pre.map (·.1),us.map (·.1)⟩]) r::k) K (cZ dst sv env) (iY h us)):sS P n0 aO acc cv qP f args dst r k K env h:=⟨pre,us,sv,hc,hp,hu,hn⟩
theorem aN {P:Program} {n0:Nat} {aO:List Nat} {acc:List TE} {cv qP:List Nat} {f:FuncId} {args:List U} {dst:Option Nat} {r:List bg} {k:List It} {K:Ex→St→Prop} {env:List (Nat×U)} {h:List (Option HB)} {sv:U}
 (hc:aP P f args [] [] sv) (hn:G P n0 (.d aO (acc++[⟨cv,dst,qP,[]⟩]) r::k) K (cZ dst sv env) h):sS P n0 aO acc cv qP f args dst r k K env h:=⟨[],[],sv,hc,fun q hq=>by simp at hq,trivial,by simpa [iY] using hn⟩
theorem dm {P:Program} {n0:Nat} {a:AC} {k:List It} {K:Ex→St→Prop} {env:List (Nat×U)} {h:List (Option HB)} {ι:Type} (en:ι→List (Nat×U)) (hh:ι→List (Option HB)) (pr:ι→Prop) (μ:ι→Nat) (i0:ι)
 (h0:pr i0) (he:cV n0 ⟨env,h⟩ ⟨en i0,hh i0⟩)
 (hr:∀ i,pr i→∀ K':Ex→St→Prop,(∀ i' e' h',pr i'→μ i'<μ i→cV n0 ⟨e',h'⟩ ⟨en i',hh i'⟩→K' .normal ⟨e',h'⟩)→(∀ id e' h',GX P n0 id k K e' h'→K' (.exit id) ⟨e',h'⟩)→(∀ e' h',K .ret ⟨e',h'⟩→K' .ret ⟨e',h'⟩)→G P n0 [.c a] K' (en i) (hh i)) :
 G P n0 (.c (.loop a)::k) K env h:=by
 refine ⟨ι,fun i=>⟨en i,hh i⟩,pr,μ,i0,h0,he,fun i hi=>?_⟩
 refine hr i hi (sD (fun s'=>∃ i',pr i'∧μ i'<μ i∧cV n0 s' ⟨en i',hh i'⟩) (CI P n0 k K)) (fun i' e' h' h1 h2 h3=>⟨i',h1,h2,h3⟩) (fun id e' h' hx=>hx) (fun e' h' hx=>?_)
 show CI P n0 k K .ret _
 rw [sK];exact hx
theorem aC {P:Program} {n0:Nat} {k:List It} {K:Ex→St→Prop} {env:List (Nat×U)} {h:List (Option HB)} (hg:G P n0 k K env h):G P n0 (.c .jh::k) K env h:=⟨⟨env,h⟩,fun _ _ _ R=>R,hg⟩
theorem Lu {P:Program} {n0:Nat} {k:List It} {K:Ex→St→Prop} {env:List (Nat×U)} {h:List (Option HB)} (env':List (Nat×U)) (h':List (Option HB)) (he:cV n0 ⟨env,h⟩ ⟨env',h'⟩) (hg:G P n0 k K env' h'):G P n0 (.c .jh::k) K env h:=⟨⟨env',h'⟩,he,hg⟩
end Go.ay

namespace Go.ay
open Go
inductive Bk (σ:Nat→Option Nat):U→U→Prop where
 | dead (y:U):Bk σ .dead y
 | rv (r:RV):Bk σ (.rv r) (.rv r)
 | ptr (j id off:Nat) (h:σ j=some id):Bk σ (.ptr j off) (.ptr id off)
 | bJ (j id af i off:Nat) (h:σ j=some id):Bk σ (.bJ j af i off) (.bJ id af i off)
 | row (j id af len:Nat) (h:σ j=some id):Bk σ (.row j af len) (.row id af len)
 | win (j id af off len:Nat) (h:σ j=some id):Bk σ (.win j af off len) (.win id af off len)
 | agg (xs ys:List U) (hl:xs.length=ys.length) (h:∀ (i:Nat) (x y:U),xs[i]?=some x→ys[i]?=some y→Bk σ x y):Bk σ (.agg xs) (.agg ys)
 | aR (xs ys:List U) (hl:xs.length=ys.length) (h:∀ (i:Nat) (x y:U),xs[i]?=some x→ys[i]?=some y→Bk σ x y):Bk σ (.aR xs) (.aR ys)
 | fn (f:FuncId) (xs ys:List U) (hl:xs.length=ys.length) (h:∀ (i:Nat) (x y:U),xs[i]?=some x→ys[i]?=some y→Bk σ x y):Bk σ (.fn f xs) (.fn f ys)
 | aX (t:TypeId) (x y:U) (h:Bk σ x y):Bk σ (.aX t x) (.aX t y)
def rq (σ:Nat→Option Nat) (xs ys:List U):Prop:=xs.length=ys.length∧∀ (i:Nat) (x y:U),xs[i]?=some x→ys[i]?=some y→Bk σ x y
inductive jW (σ:Nat→Option Nat):HB→HB→Prop where
 | var (xs ys:List U) (h:rq σ xs ys):jW σ (.var xs) (.var ys)
 | row (e af:Nat) (xs ys:List (List U)) (hl:xs.length=ys.length) (h:∀ (i:Nat) (x y:List U),xs[i]?=some x→ys[i]?=some y→rq σ x y):jW σ (.row e af xs) (.row e af ys)
section entry
variable {w:World} {ok cH:Nat→Prop} {aa aD:Nat→Option Nat} {hp ai:Hp} {σ:Nat→Option Nat}
theorem Rp.back (hro:∀ b,ok b→cH b) (hs:∀ j id,σ j=some id→aD j=aa id∧((hp id).isSome=true→(ai j).isSome=true)∧(∀ cs,ai j=some (.var cs)→∃ cs',hp id=some (.var cs'))∧∀ e af xs,ai j=some (.row e af xs)→∃ xs',hp id=some (.row e af xs')) {x y:U} {v:Value} (hr:Rp w ok aa hp y v) (hb:Bk σ x y):Rp w cH aD ai x v:=by
 induction hb generalizing v with
 | dead y=>exact .dead v
 | rv r=>cases hr with | rv _ _ h=>exact .rv r v (h.mono fun b hb _=>⟨hro b hb,rfl⟩)
 | ptr j id off hj=>
   obtain ⟨g1,g2,g3,g4⟩:=hs j id hj
   cases hr with
   | ptr _ _ _ h1 h0 h=>
     refine .ptr j off v h1 (g2 h0) (fun cs hc=>?_)
     obtain ⟨cs',kn⟩:=g3 cs hc
     rw [g1];exact h cs' kn
 | bJ j id af i off hj=>
   obtain ⟨g1,g2,g3,g4⟩:=hs j id hj
   cases hr with
   | bJ _ _ _ _ _ h1 h0 hv h=>
     refine .bJ j af i off v h1 (g2 h0) (fun e dh xs hx=>?_) (fun e xs hx=>?_)
     ·obtain ⟨xs',hx'⟩:=g4 e dh xs hx;exact hv e dh xs' hx'
     ·obtain ⟨xs',hx'⟩:=g4 e af xs hx;rw [g1];exact h e xs' hx'
 | row j id af len hj=>
   obtain ⟨g1,g2,g3,g4⟩:=hs j id hj
   cases hr with
   | row _ _ _ _ h1 h0 hv h=>
     refine .row j af len v h1 (g2 h0) (fun e dh xs hx=>?_) (fun e xs hx=>?_)
     ·obtain ⟨xs',hx'⟩:=g4 e dh xs hx;exact hv e dh xs' hx'
     ·obtain ⟨xs',hx'⟩:=g4 e af xs hx;rw [g1];exact h e xs' hx'
 | win j id af off len hj=>
   obtain ⟨g1,g2,g3,g4⟩:=hs j id hj
   cases hr with
   | win _ _ _ _ _ h1 h0 hv hr hc=>
     refine .win j af off len v h1 (g2 h0) (fun e dh xs hx=>?_) (fun e xs hx=>?_) (fun cs hx=>?_)
     ·obtain ⟨xs',hx'⟩:=g4 e dh xs hx;exact hv e dh xs' hx'
     ·obtain ⟨xs',hx'⟩:=g4 e af xs hx;rw [g1];exact hr e xs' hx'
     ·obtain ⟨cs',hx'⟩:=g3 cs hx;rw [g1];exact hc cs' hx'
 | agg xs ys hl h ih=>
   cases hr with
   | agg _ vs hvl h1 hy=>
     refine .agg xs vs (by omega) h1 (fun j x hx=>?_)
     have hlt:=(List.getElem?_eq_some_iff.1 hx).1
     have eo:=List.getElem?_eq_getElem (l:=ys) (i:=j) (by omega)
     exact ih j x _ hx eo (hy j _ eo)
 | aR xs ys hl h ih=>
   cases hr with
   | aR _ vs hvl hy=>
     refine .aR xs vs (by omega) (fun j x hx=>?_)
     have hlt:=(List.getElem?_eq_some_iff.1 hx).1
     have eo:=List.getElem?_eq_getElem (l:=ys) (i:=j) (by omega)
     exact ih j x _ hx eo (hy j _ eo)
 | fn f xs ys hl h ih=>
   cases hr with
   | fn _ _ vs hvl hy=>
     refine .fn f xs vs (by omega) (fun j x hx=>?_)
     have hlt:=(List.getElem?_eq_some_iff.1 hx).1
     have eo:=List.getElem?_eq_getElem (l:=ys) (i:=j) (by omega)
     exact ih j x _ hx eo (hy j _ eo)
 | aX t x y h ih=>cases hr with | aX _ _ v0 h0=>exact .aX t x v0 (ih h0)
theorem dJ.back (hro:∀ b,ok b→cH b) (hs:∀ j id,σ j=some id→aD j=aa id∧((hp id).isSome=true→(ai j).isSome=true)∧(∀ cs,ai j=some (.var cs)→∃ cs',hp id=some (.var cs'))∧∀ e af xs,ai j=some (.row e af xs)→∃ xs',hp id=some (.row e af xs')) {cur:Array Value} {off:Nat} {xs ys:List U} (h:dJ w ok aa hp cur off ys) (hb:rq σ xs ys):dJ w cH aD ai cur off xs:=fun j x hx=>by
 obtain ⟨hl,hb⟩:=hb
 have hlt:=(List.getElem?_eq_some_iff.1 hx).1
 have eo:=List.getElem?_eq_getElem (l:=ys) (i:=j) (by omega)
 obtain ⟨v,h1,h2,h3⟩:=h j _ eo
 exact ⟨v,h1,h2,h3.back hro hs (hb j x _ hx eo)⟩
theorem ja.back (hro:∀ b,ok b→cH b) (hs:∀ j id,σ j=some id→aD j=aa id∧((hp id).isSome=true→(ai j).isSome=true)∧(∀ cs,ai j=some (.var cs)→∃ cs',hp id=some (.var cs'))∧∀ e af xs,ai j=some (.row e af xs)→∃ xs',hp id=some (.row e af xs')) {j id:Nat} (hj:σ j=some id) {x y:HB} (h:ja w ok aa hp id y) (hb:jW σ x y):ja w cH aD ai j x:=by
 have g1:=(hs j id hj).1
 rcases h with ⟨h1,e,af,rfl⟩ | ⟨b,cur,t,h1,h2,h3⟩
 ·cases hb with
  | row _ _ xs _ hl _=>
    have:xs=[]:=List.eq_nil_of_length_eq_zero (by simpa using hl)
    subst this
    exact .inl ⟨g1.trans h1,e,af,rfl⟩
 ·refine .inr ⟨b,cur,t,g1.trans h1,h2,?_⟩
  cases hb with
  | var xs ys hb=>exact ⟨by rw [h3.1,hb.1],h3.2.back hro hs hb⟩
  | row e af xs ys hl hb=>
    obtain ⟨a1,a2,a3⟩:=h3
    refine ⟨fun x hx=>?_,by rw [hl];exact a2,fun i x hx=>?_⟩
    ·obtain ⟨i,hi,rfl⟩:=List.mem_iff_getElem.1 hx
     have hy:=List.getElem?_eq_getElem (l:=ys) (i:=i) (by omega)
     rw [(hb i _ _ (List.getElem?_eq_getElem hi) hy).1]
     exact a1 _ (List.getElem_mem _)
    ·have hlt:=(List.getElem?_eq_some_iff.1 hx).1
     have hy:=List.getElem?_eq_getElem (l:=ys) (i:=i) (by omega)
     exact (a3 i _ hy).back hro hs (hb i x _ hx hy)
end entry
inductive Fz (τ:Nat→Option Nat) (h:Hp):U→RV→Prop where
 | rv (r:RV):Fz τ h (.rv r) r
 | ptr (j:Nat) (cs:List U) (rs:List RV) (hj:τ j=none) (hh:h j=some (.var cs)) (hl:cs.length=rs.length) (h1:∀ (i:Nat) (r:RV),rs[i]?=some r→r.one=true) (hf:∀ (i:Nat) (x:U) (r:RV),cs[i]?=some x→rs[i]?=some r→Fz τ h x r):Fz τ h (.ptr j 0) (.rop rs)
 | row (j e af len:Nat) (xs:List (List U)) (rs:List (List RV)) (hj:τ j=none) (hh:h j=some (.row e af xs)) (hl:rs.length=len) (hx:len≤xs.length) (hm:∀ (i:Nat) (x:List U) (r:List RV),xs[i]?=some x→rs[i]?=some r→x.length=r.length)
    (h1:∀ (i:Nat) (r:List RV) (k:Nat) (q:RV),rs[i]?=some r→r[k]?=some q→q.one=true) (hf:∀ (i:Nat) (x:List U) (r:List RV) (k:Nat) (y:U) (q:RV),xs[i]?=some x→rs[i]?=some r→x[k]?=some y→r[k]?=some q→Fz τ h y q):Fz τ h (.row j af len) (.sl e rs)
 | win (j af off e len:Nat) (cs:List U) (rs:List (List RV)) (hj:τ j=none) (hh:h j=some (.var cs)) (hl:rs.length=len) (hx:off+len*e≤cs.length) (hm:∀ r∈rs,r.length=e)
    (h1:∀ (i:Nat) (r:List RV) (k:Nat) (q:RV),rs[i]?=some r→r[k]?=some q→q.one=true) (hf:∀ (i:Nat) (r:List RV) (k:Nat) (y:U) (q:RV),rs[i]?=some r→cs[off+(i*e+k)]?=some y→r[k]?=some q→Fz τ h y q):Fz τ h (.win j af off len) (.sl e rs)
 | agg (cs:List U) (rs:List RV) (hl:cs.length=rs.length) (h1:∀ (i:Nat) (r:RV),rs[i]?=some r→r.one=true) (hf:∀ (i:Nat) (x:U) (r:RV),cs[i]?=some x→rs[i]?=some r→Fz τ h x r):Fz τ h (.agg cs) (.agg rs)
 | fn (f:FuncId) (cs:List U) (rs:List RV) (hl:cs.length=rs.length) (hf:∀ (i:Nat) (x:U) (r:RV),cs[i]?=some x→rs[i]?=some r→Fz τ h x r):Fz τ h (.fn f cs) (.fn f rs)
 | aX (t:TypeId) (x:U) (r:RV) (hf:Fz τ h x r):Fz τ h (.aX t x) (.aX t r)
inductive Rn (τ:Nat→Option Nat) (h:Hp):U→U→Prop where
 | dead (x:U):Rn τ h x .dead
 | fz (x:U) (r:RV) (hf:Fz τ h x r):Rn τ h x (.rv r)
 | ptr (j id off:Nat) (hj:τ j=some id):Rn τ h (.ptr j off) (.ptr id off)
 | bJ (j id af i off:Nat) (hj:τ j=some id):Rn τ h (.bJ j af i off) (.bJ id af i off)
 | row (j id af len:Nat) (hj:τ j=some id):Rn τ h (.row j af len) (.row id af len)
 | win (j id af off len:Nat) (hj:τ j=some id):Rn τ h (.win j af off len) (.win id af off len)
 | agg (xs ys:List U) (hl:xs.length=ys.length) (hf:∀ (i:Nat) (x y:U),xs[i]?=some x→ys[i]?=some y→Rn τ h x y):Rn τ h (.agg xs) (.agg ys)
 | aR (xs ys:List U) (hl:xs.length=ys.length) (hf:∀ (i:Nat) (x y:U),xs[i]?=some x→ys[i]?=some y→Rn τ h x y):Rn τ h (.aR xs) (.aR ys)
 | fn (f:FuncId) (xs ys:List U) (hl:xs.length=ys.length) (hf:∀ (i:Nat) (x y:U),xs[i]?=some x→ys[i]?=some y→Rn τ h x y):Rn τ h (.fn f xs) (.fn f ys)
 | aX (t:TypeId) (x y:U) (hf:Rn τ h x y):Rn τ h (.aX t x) (.aX t y)
def rz (τ:Nat→Option Nat) (h:Hp) (xs ys:List U):Prop:=xs.length=ys.length∧∀ (i:Nat) (x y:U),xs[i]?=some x→ys[i]?=some y→Rn τ h x y
inductive iD (τ:Nat→Option Nat) (h:Hp):HB→HB→Prop where
 | var (xs ys:List U) (hf:rz τ h xs ys):iD τ h (.var xs) (.var ys)
 | row (e af:Nat) (xs ys:List (List U)) (hl:xs.length=ys.length) (hf:∀ (i:Nat) (x y:List U),xs[i]?=some x→ys[i]?=some y→rz τ h x y):iD τ h (.row e af xs) (.row e af ys)
section leave
variable {w:World} {ok cH:Nat→Prop} {aa aD:Nat→Option Nat} {hp ai:Hp} {τ:Nat→Option Nat}
theorem Fz.ro (hro:∀ b,cH b→ok b) (hfz:∀ j b,τ j=none→(ai j).isSome=true→aD j=some b→ok b) (hmem:∀ j hb,ai j=some hb→ja w cH aD ai j hb) {x:U} {r:RV} {v:Value} (hr:Rp w cH aD ai x v) (hf:Fz τ ai x r):RO w ok r v:=by
 induction hf generalizing v with
 | rv r=>cases hr with | rv _ _ h=>exact h.mono fun b hb _=>⟨hro b hb,rfl⟩
 | ptr j cs rs hj hh hl ho hf ih=>
   cases hr with
   | ptr _ _ _ h1 h0 h=>
     obtain ⟨b,hb,rfl⟩:=h cs hh
     rcases hmem j _ hh with ⟨h1,_⟩ | ⟨b',cur,t,h1,h2,h3⟩
     ·rw [hb] at h1;cases h1
     ·rw [hb] at h1;cases h1
      have hcell:∀ (i:Nat) (r:RV),rs[i]?=some r→∃ u,w.cell? ((⟨b,0,none⟩:Addr).add i)=some u∧RO w ok r u∧r.one=true:=fun i r hi=>by
       have hlt:=(List.getElem?_eq_some_iff.1 hi).1
       have hx:=List.getElem?_eq_getElem (l:=cs) (i:=i) (by omega)
       obtain ⟨u,a1,a2,a3⟩:=h3.2 i _ hx
       refine ⟨u,?_,ih i _ r hx hi a3,ho i r hi⟩
       rw [add_lit,qm h2];exact a1
      refine .rop rs ⟨b,0,none⟩ (fun i=>(w.cell? ((⟨b,0,none⟩:Addr).add i)).getD undef) (fun i r hi=>?_) (fun i r hi=>?_) (fun i r hi=>?_)
      ·obtain ⟨u,a1,_⟩:=hcell i r hi
       exact ⟨hfz j b hj (by simp [hh]) hb,by rw [a1];rfl⟩
      ·obtain ⟨u,_,_,a3⟩:=hcell i r hi;exact a3
      ·obtain ⟨u,a1,a2,_⟩:=hcell i r hi;rw [a1];exact a2
 | row j e af len xs rs hj hh hl hx hm ho hf ih=>
   cases hr with
   | row _ _ _ _ h1 h0 hv h=>
     rcases h e xs hh with ⟨g1,rfl,g3⟩ | ⟨b,cap,cur,t,g1,rfl,g3,g4,g5,g6⟩
     ·have:rs=[]:=List.eq_nil_of_length_eq_zero (by omega)
      subst this
      exact .sl e [] none 0 (fun _ _=>undef) (fun _=>⟨rfl,rfl⟩) (by simp) (by simp [maxLen]) (by simp) (fun i x j y hx=>by simp at hx) (fun i x j y hx=>by simp at hx) (fun i x j y hx=>by simp at hx)
     ·rcases hmem j _ hh with ⟨h1,_⟩ | ⟨b',cur',t',k1,k2,k3⟩
      ·rw [g1] at h1;cases h1
      ·rw [g1] at k1;cases k1
       rw [g3] at k2;cases k2
       obtain ⟨a1,a2,a3⟩:=k3
       have hlen:∀ (i:Nat) (r:List RV),rs[i]?=some r→∃ x,xs[i]?=some x∧x.length=e∧x.length=r.length:=fun i r hi=>by
        have hlt:=(List.getElem?_eq_some_iff.1 hi).1
        have iq:=List.getElem?_eq_getElem (l:=xs) (i:=i) (by omega)
        exact ⟨_,iq,a1 _ (List.getElem_mem _),hm i _ r iq hi⟩
       have hcell:∀ (i:Nat) (r:List RV) (k:Nat) (q:RV),rs[i]?=some r→r[k]?=some q→∃ u,w.cell? ((⟨b,0,none⟩:Addr).add (i*e+k))=some u∧RO w ok q u∧q.one=true:=fun i r k q hi hk=>by
        obtain ⟨x,iq,qB,Uh⟩:=hlen i r hi
        have hlt:=(List.getElem?_eq_some_iff.1 hk).1
        have hy:=List.getElem?_eq_getElem (l:=x) (i:=k) (by omega)
        obtain ⟨u,b1,b2,b3⟩:=a3 i x iq k _ hy
        refine ⟨u,?_,ih i x r k _ q iq hi hy hk b3,ho i r k q hi hk⟩
        rw [add_lit,qm g3,Nat.zero_add];exact b1
       rw [← hl]
       refine .sl e rs (some ⟨b,0,none⟩) cap (fun i k=>(w.cell? ((⟨b,0,none⟩:Addr).add (i*e+k))).getD undef) (fun h=>by cases h) (by omega) g5 (fun r hr=>?_) (fun i r k q hi hk=>?_) (fun i r k q hi hk=>?_) (fun i r k q hi hk=>?_)
       ·obtain ⟨i,hi,rfl⟩:=List.mem_iff_getElem.1 hr
        obtain ⟨x,_,b1,b2⟩:=hlen i _ (List.getElem?_eq_getElem hi)
        omega
       ·obtain ⟨u,b1,_⟩:=hcell i r k q hi hk
        exact ⟨_,rfl,hfz j b hj (by simp [hh]) g1,by rw [b1];rfl⟩
       ·obtain ⟨u,_,_,b3⟩:=hcell i r k q hi hk;exact b3
       ·obtain ⟨u,b1,b2,_⟩:=hcell i r k q hi hk;rw [b1];exact b2
 | win j af off e len cs rs hj hh hl hx hm ho hf ih=>
   cases hr with
   | win _ _ _ _ _ h1 h0 hv hr hc=>
     obtain ⟨ad,cap,rfl,g1,g2,g3,g4⟩:=hc cs hh
     rw [← hl]
     have key:∀ (i:Nat) (r:List RV) (k:Nat) (q:RV),rs[i]?=some r→r[k]?=some q→∃ a u,ad=some a∧ok a.block∧w.cell? (a.add (i*e+k))=some u∧RO w ok q u:=fun i r k q hi hk=>by
      have hlt:=(List.getElem?_eq_some_iff.1 hi).1
      have Uf:=hm r (List.mem_of_getElem? hi)
      have cX:=(List.getElem?_eq_some_iff.1 hk).1
      obtain ⟨b,hb,rfl⟩:=g4 (by omega)
      rcases hmem j _ hh with ⟨h1,_,_,h2⟩ | ⟨b',cur,t,a1,a2,a3⟩
      ·cases h2
      ·rw [hb] at a1;cases a1
       have hik:i*e+k<len*e:=by
        have:(i+1)*e≤len*e:=Nat.mul_le_mul_right _ (by omega)
        rw [Nat.add_mul] at this;omega
       have hy:=List.getElem?_eq_getElem (l:=cs) (i:=off+(i*e+k)) (by omega)
       obtain ⟨u,b1,b2,b3⟩:=a3.2 _ _ hy
       refine ⟨⟨b,off,none⟩,u,rfl,hfz j b hj (by simp [hh]) hb,?_,ih i r k _ q hi hy hk b3⟩
       rw [add_lit,qm a2];simpa using b1
     refine .sl e rs ad cap (fun i k=>match ad with | some a=>(w.cell? (a.add (i*e+k))).getD undef | none=>undef) (fun h=>?_) (by omega) g2 hm (fun i r k q hi hk=>?_) ho (fun i r k q hi hk=>?_)
     ·have:=g3 h;exact ⟨List.eq_nil_of_length_eq_zero (by omega),this⟩
     ·obtain ⟨a,u,rfl,b1,b2,b3⟩:=key i r k q hi hk
      exact ⟨a,rfl,b1,by simp only [b2];rfl⟩
     ·obtain ⟨a,u,rfl,b1,b2,b3⟩:=key i r k q hi hk
      simp only [b2];exact b3
 | agg cs rs hl ho hf ih=>
   cases hr with
   | agg _ vs hvl h1 hy=>
     refine .agg rs vs (by omega) (fun i r hi=>?_) (fun i r hi=>?_)
     ·have hlt:=(List.getElem?_eq_some_iff.1 hi).1
      exact ho i r hi
     ·have hlt:=(List.getElem?_eq_some_iff.1 hi).1
      have hx:=List.getElem?_eq_getElem (l:=cs) (i:=i) (by omega)
      exact ih i _ r hx hi (hy i _ hx)
 | fn f cs rs hl hf ih=>
   cases hr with
   | fn _ _ vs hvl hy=>
     refine .fn f rs vs (by omega) (fun i r hi=>?_)
     have hlt:=(List.getElem?_eq_some_iff.1 hi).1
     have hx:=List.getElem?_eq_getElem (l:=cs) (i:=i) (by omega)
     exact ih i _ r hx hi (hy i _ hx)
 | aX t x r hf ih=>cases hr with | aX _ _ v0 h0=>exact .aX t r v0 (ih h0)
theorem Rp.leave (hro:∀ b,cH b→ok b) (hfz:∀ j b,τ j=none→(ai j).isSome=true→aD j=some b→ok b) (hmem:∀ j hb,ai j=some hb→ja w cH aD ai j hb)
 (hs:∀ j id,τ j=some id→aD j=aa id∧((ai j).isSome=true→(hp id).isSome=true)∧(∀ cs,hp id=some (.var cs)→∃ cs',ai j=some (.var cs'))∧∀ e af xs,hp id=some (.row e af xs)→∃ xs',ai j=some (.row e af xs'))
 {x y:U} {v:Value} (hr:Rp w cH aD ai x v) (hf:Rn τ ai x y):Rp w ok aa hp y v:=by
 induction hf generalizing v with
 | dead x=>exact .dead v
 | fz x r hf=>exact .rv r v (Fz.ro hro hfz hmem hr hf)
 | ptr j id off hj=>
   obtain ⟨g1,g2,g3,g4⟩:=hs j id hj
   cases hr with
   | ptr _ _ _ h1 h0 h=>
     refine .ptr id off v h1 (g2 h0) (fun cs hc=>?_)
     obtain ⟨cs',kn⟩:=g3 cs hc
     rw [← g1];exact h cs' kn
 | bJ j id af i off hj=>
   obtain ⟨g1,g2,g3,g4⟩:=hs j id hj
   cases hr with
   | bJ _ _ _ _ _ h1 h0 hv h=>
     refine .bJ id af i off v h1 (g2 h0) (fun e dh xs hx=>?_) (fun e xs hx=>?_)
     ·obtain ⟨xs',hx'⟩:=g4 e dh xs hx;exact hv e dh xs' hx'
     ·obtain ⟨xs',hx'⟩:=g4 e af xs hx;rw [← g1];exact h e xs' hx'
 | row j id af len hj=>
   obtain ⟨g1,g2,g3,g4⟩:=hs j id hj
   cases hr with
   | row _ _ _ _ h1 h0 hv h=>
     refine .row id af len v h1 (g2 h0) (fun e dh xs hx=>?_) (fun e xs hx=>?_)
     ·obtain ⟨xs',hx'⟩:=g4 e dh xs hx;exact hv e dh xs' hx'
     ·obtain ⟨xs',hx'⟩:=g4 e af xs hx;rw [← g1];exact h e xs' hx'
 | win j id af off len hj=>
   obtain ⟨g1,g2,g3,g4⟩:=hs j id hj
   cases hr with
   | win _ _ _ _ _ h1 h0 hv hr hc=>
     refine .win id af off len v h1 (g2 h0) (fun e dh xs hx=>?_) (fun e xs hx=>?_) (fun cs hx=>?_)
     ·obtain ⟨xs',hx'⟩:=g4 e dh xs hx;exact hv e dh xs' hx'
     ·obtain ⟨xs',hx'⟩:=g4 e af xs hx;rw [← g1];exact hr e xs' hx'
     ·obtain ⟨cs',hx'⟩:=g3 cs hx;rw [← g1];exact hc cs' hx'
 | agg xs ys hl h ih=>
   cases hr with
   | agg _ vs hvl h1 hy=>
     refine .agg ys vs (by omega) h1 (fun j y eo=>?_)
     have hlt:=(List.getElem?_eq_some_iff.1 eo).1
     have hx:=List.getElem?_eq_getElem (l:=xs) (i:=j) (by omega)
     exact ih j _ y hx eo (hy j _ hx)
 | aR xs ys hl h ih=>
   cases hr with
   | aR _ vs hvl hy=>
     refine .aR ys vs (by omega) (fun j y eo=>?_)
     have hlt:=(List.getElem?_eq_some_iff.1 eo).1
     have hx:=List.getElem?_eq_getElem (l:=xs) (i:=j) (by omega)
     exact ih j _ y hx eo (hy j _ hx)
 | fn f xs ys hl h ih=>
   cases hr with
   | fn _ _ vs hvl hy=>
     refine .fn f ys vs (by omega) (fun j y eo=>?_)
     have hlt:=(List.getElem?_eq_some_iff.1 eo).1
     have hx:=List.getElem?_eq_getElem (l:=xs) (i:=j) (by omega)
     exact ih j _ y hx eo (hy j _ hx)
 | aX t x y h ih=>cases hr with | aX _ _ v0 h0=>exact .aX t y v0 (ih h0)
theorem dJ.leave (hro:∀ b,cH b→ok b) (hfz:∀ j b,τ j=none→(ai j).isSome=true→aD j=some b→ok b) (hmem:∀ j hb,ai j=some hb→ja w cH aD ai j hb)
 (hs:∀ j id,τ j=some id→aD j=aa id∧((ai j).isSome=true→(hp id).isSome=true)∧(∀ cs,hp id=some (.var cs)→∃ cs',ai j=some (.var cs'))∧∀ e af xs,hp id=some (.row e af xs)→∃ xs',ai j=some (.row e af xs'))
 {cur:Array Value} {off:Nat} {xs ys:List U} (h:dJ w cH aD ai cur off xs) (hb:rz τ ai xs ys):dJ w ok aa hp cur off ys:=fun j y eo=>by
 obtain ⟨hl,hb⟩:=hb
 have hlt:=(List.getElem?_eq_some_iff.1 eo).1
 have hx:=List.getElem?_eq_getElem (l:=xs) (i:=j) (by omega)
 obtain ⟨v,h1,h2,h3⟩:=h j _ hx
 exact ⟨v,h1,h2,h3.leave hro hfz hmem hs (hb j _ y hx eo)⟩
theorem ja.leave (hro:∀ b,cH b→ok b) (hfz:∀ j b,τ j=none→(ai j).isSome=true→aD j=some b→ok b) (hmem:∀ j hb,ai j=some hb→ja w cH aD ai j hb)
 (hs:∀ j id,τ j=some id→aD j=aa id∧((ai j).isSome=true→(hp id).isSome=true)∧(∀ cs,hp id=some (.var cs)→∃ cs',ai j=some (.var cs'))∧∀ e af xs,hp id=some (.row e af xs)→∃ xs',ai j=some (.row e af xs'))
 {j id:Nat} (hj:τ j=some id) {x y:HB} (h:ja w cH aD ai j x) (hb:iD τ ai x y):ja w ok aa hp id y:=by
 have g1:=(hs j id hj).1
 rcases h with ⟨h1,e,af,rfl⟩ | ⟨b,cur,t,h1,h2,h3⟩
 ·cases hb with
  | row _ _ _ ys hl _=>
    have:ys=[]:=List.eq_nil_of_length_eq_zero (by simpa using hl.symm)
    subst this
    exact .inl ⟨g1.symm.trans h1,e,af,rfl⟩
 ·refine .inr ⟨b,cur,t,g1.symm.trans h1,h2,?_⟩
  cases hb with
  | var xs ys hb=>exact ⟨h3.1.trans hb.1,h3.2.leave hro hfz hmem hs hb⟩
  | row e af xs ys hl hb=>
    obtain ⟨a1,a2,a3⟩:=h3
    refine ⟨fun y hy=>?_,by rw [← hl];exact a2,fun i y hy=>?_⟩
    ·obtain ⟨i,hi,rfl⟩:=List.mem_iff_getElem.1 hy
     have hx:=List.getElem?_eq_getElem (l:=xs) (i:=i) (by omega)
     rw [← (hb i _ _ hx (List.getElem?_eq_getElem hi)).1]
     exact a1 _ (List.getElem_mem _)
    ·have hlt:=(List.getElem?_eq_some_iff.1 hy).1
     have hx:=List.getElem?_eq_getElem (l:=xs) (i:=i) (by omega)
     exact (a3 i _ hx).leave hro hfz hmem hs (hb i _ y hx hy)
end leave
end Go.ay

namespace Go.ay
open Go
inductive RR where
 | t (n:Nat)
 | c (a n:Nat) (agg:Bool)
 deriving DecidableEq
def qp (P:Program):List ResultVar→Option (List RR)
 | []=>some []
 | .tmp t::r=>match qp P r with
   | some l=>some (.t t::l)
   | none=>none
 | .cell a t::r=>match bL P t,cG P t,qp P r with
   | some n,some agg,some l=>some (.c a n agg::l)
   | _,_,_=>none
def bF (en:Nat→U) (hp:Hp):List RR→Option (Prop×List U)
 | []=>some (True,[])
 | .t n::r=>match bF en hp r with
   | some (p,xs)=>some (p,en n::xs)
   | none=>none
 | .c a n agg::r=>match eK n agg hp (en a),bF en hp r with
   | some (q,x,_,_),some (p,xs)=>some (q∧p,x::xs)
   | _,_=>none
def bO:List U→U
 | [x]=>x
 | xs=>.aR xs
def kD:Nat→List U→List (Nat×U)
 | _,[]=>[]
 | n,x::r=>(n,x)::kD (n+1) r
theorem GL:∀ (xs:List U) (n m:Nat),lk (kD n xs) m=if n≤m then (xs[m - n]?).getD .dead else .dead
 | [],n,m=>by simp [kD,lk]
 | x::r,n,m=>by
   unfold kD lk
   by_cases h:n=m
   ·subst h;simp
   ·rw [if_neg h,GL r (n+1) m]
    by_cases h1:n+1≤m
    ·rw [if_pos h1,if_pos (by omega)]
     rw [show m - n=(m - (n+1))+1 by omega,List.getElem?_cons_succ]
    ·rw [if_neg h1,if_neg (by omega)]
structure Fin (σ:List Nat) (pre us:List (Nat×HB)) (rs:List RR) (sv:U) (env:List (Nat×U)) (h:List (Option HB)) (τ:Nat→Option Nat):Prop where
 inj:∀ i j id,τ i=some id→τ j=some id→i=j
 old:∀ (j id:Nat),σ[j]?=some id→τ j=some id
 new:∀ j id,τ j=some id→σ.length≤j→id∈us.map (·.1)∧∀ q∈pre,q.1≠id
 has:∀ j id,τ j=some id→∃ hb hb',ag h j=some hb∧iD τ (ag h) hb hb'∧∀ hp,aV hp pre→bI hp us id=some hb'
 all:∀ q∈us,∃ j,τ j=some q.1
 res:∃ p xs,bF (lk env) (ag h) rs=some (p,xs)∧p∧Rn τ (ag h) (bO xs) sv
theorem zn {hp:Hp}:∀ {us:List (Nat×HB)} {id:Nat},id∉us.map (·.1)→bI hp us id=hp id
 | us,id,h=>sF (fun q hq he=>h (List.mem_map.2 ⟨q,hq,he⟩))
def Cp (vs:List Value):Value:=match vs with
 | [v]=>v
 | vs=>.tuple vs.toArray
theorem Rx {w:World} {ok:Nat→Prop} {aa:Nat→Option Nat} {hp:Hp} {xs:List U} {vs:List Value} (hl:vs.length=xs.length) (h:∀ (j:Nat) (x:U),xs[j]?=some x→Rp w ok aa hp x (vs.getD j undef)):Rp w ok aa hp (bO xs) (Cp vs):=by
 match xs,vs with
 | [],[]=>exact .aR [] [] rfl h
 | [x],[v]=>exact h 0 x rfl
 | x::y::r,u::v::s=>exact .aR _ _ hl h
theorem Qg {P:Program} {t:TypeId} {v x:Value} {w w':World} (h:(Instr.loadAt t v).run P w = .ok x w'):(do loadVar t (← asAddr v):Sem Value).run P w = .ok x w':=by
 cases v with
 | pointer a=>
   cases a with
   | some a=>exact h
   | none=>simp [Instr.loadAt,Instr.sureAddr,stuck,Result.andThen] at h
 | _=>simp [Instr.loadAt,Instr.sureAddr,stuck,Result.andThen] at h
theorem RI {P:Program} {C:Ctx} {hp:Hp} {w:World} {aa:Nat→Option Nat} (R:bR C hp w aa) {en:Nat→U} {tmps:Array Value} (he:∀ n,Rp w (aB C aa hp) aa hp (en n) (tmps.getD n undef)) {fn:Func} {rs:List RR} (h:qp P fn.results.toList=some rs) {p:Prop} {xs:List U} (hr:bF en hp rs=some (p,xs)) (ai:p) :
 ∃ vs,(results fn tmps).run P w = .ok (Cp vs) w∧Rp w (aB C aa hp) aa hp (bO xs) (Cp vs):=by
 have key:∀ (l:List ResultVar) (rs:List RR) (p:Prop) (xs:List U),qp P l=some rs→bF en hp rs=some (p,xs)→p→∃ vs,vs.length=xs.length∧(∀ (j:Nat) (x:U),xs[j]?=some x→Rp w (aB C aa hp) aa hp x (vs.getD j undef))∧(l.mapM fun r=>(match r with
  | .tmp t=>pure (tmps.getD t undef)
  | .cell a t=>do loadVar t (← asAddr (tmps.getD a undef)):Sem Value)).run P w = .ok vs w:=by
  intro l
  induction l with
  | nil=>intro rs p xs h hr hp;cases h;cases hr;exact ⟨[],rfl,fun j x hx=>by simp at hx,rfl⟩
  | cons x r ih=>
    intro rs p xs h hr hp
    cases x with
    | tmp t=>
      unfold qp at h
      split at h
      ·rename_i l hl
       cases h
       unfold bF at hr
       split at hr
       ·rename_i p0 ey Bh
        cases hr
        obtain ⟨vs,h1,h2,h3⟩:=ih l p ey hl Bh hp
        refine ⟨tmps.getD t undef::vs,by simp [h1],fun j x hx=>?_,?_⟩
        ·cases j with
         | zero=>simp at hx;subst hx;exact he t
         | succ j=>exact h2 j x (by simpa using hx)
        ·simp only [List.mapM_cons,Sem.run_bind,Sem.run_pure,h3,Result.andThen]
       ·cases hr
      ·cases h
    | cell a t=>
      unfold qp at h
      split at h
      ·rename_i n agg l hs ha hl
       cases h
       unfold bF at hr
       split at hr
       ·rename_i q x u rd p0 ey hE Bh
        cases hr
        obtain ⟨vs,h1,h2,h3⟩:=ih l p0 ey hl Bh hp.2
        obtain ⟨_,y,hy1,NC⟩:=BJ R hs ha (he a) hE hp.1
        refine ⟨y::vs,by simp [h1],fun j x hx=>?_,?_⟩
        ·cases j with
         | zero=>simp at hx;subst hx;exact NC
         | succ j=>exact h2 j x (by simpa using hx)
        ·have:=Qg hy1
         rw [List.mapM_cons,Sem.run_bind]
         refine (congrArg (fun r=>Result.andThen r _) this).trans ?_
         simp only [Result.andThen,Sem.run_bind,h3,Sem.run_pure]
       ·cases hr
      ·cases h
 obtain ⟨vs,h1,h2,h3⟩:=key _ _ _ _ h hr ai
 have hm:(fn.results.mapM fun r=>(match r with
  | .tmp t=>pure (tmps.getD t undef)
  | .cell a t=>do loadVar t (← asAddr (tmps.getD a undef)):Sem Value)).run P w = .ok vs.toArray w:=by
  rw [Array.mapM_eq_mapM_toList,Sem.run_map,h3]
  rfl
 refine ⟨vs,?_,Rx h1 h2⟩
 unfold results
 rw [Sem.run_bind]
 refine (congrArg (fun r=>Result.andThen r _) hm).trans ?_
 show (pure _:Sem Value).run P w=_
 rw [Sem.run_pure]
 match vs with
 | []=>rfl
 | [t]=>rfl
 | t::u::r=>rfl
section
variable {P:Program} {C:Ctx} {hp:Hp} {w:World} {aa:Nat→Option Nat}
def inner (C:Ctx) (aa:Nat→Option Nat) (hp:Hp) (w:World) (N:Nat) (σ:List Nat) (hs0:List (Option HB)):Ctx:=
 ⟨w,aB C aa hp,fun b=>∃ (j:Nat) (id:Nat),σ[j]?=some id∧aa id=some b,N,fun j=>(σ[j]?).bind aa,ag hs0⟩
theorem qA {hs:List (Option HB)} {j:Nat} {hb:HB}:ag hs j=some hb↔hs[j]?=some (some hb):=by
 unfold ag
 cases h:hs[j]? with
 | none=>simp
 | some x=>simp
theorem KU (R:bR C hp w aa) {N:Nat} {σ:List Nat} {hs0:List (Option HB)} {pre:List (Nat×HB)} (hpre:aV hp pre) (hl:hs0.length=σ.length) (hinj:∀ (i j id:Nat),σ[i]?=some id→σ[j]?=some id→i=j)
 (iS:∀ (j id:Nat),σ[j]?=some id→∃ hb hb',hs0[j]?=some (some hb)∧(id,hb')∈pre∧jW (fun j=>σ[j]?) hb hb') :
 bR (inner C aa hp w N σ hs0) (ag hs0) w (fun j=>(σ[j]?).bind aa)∧(∀ b,aB C aa hp b→aB (inner C aa hp w N σ hs0) (fun j=>(σ[j]?).bind aa) (ag hs0) b)∧
 (∀ {x y:U} {v:Value},Rp w (aB C aa hp) aa hp y v→Bk (fun j=>σ[j]?) x y→Rp w (aB (inner C aa hp w N σ hs0) (fun j=>(σ[j]?).bind aa) (ag hs0)) (fun j=>(σ[j]?).bind aa) (ag hs0) x v):=by
 have at_:∀ j hb,ag hs0 j=some hb→∃ id hb',σ[j]?=some id∧hp id=some hb'∧jW (fun j=>σ[j]?) hb hb':=fun j hb h=>by
  rw [qA] at h
  have hlt:=(List.getElem?_eq_some_iff.1 h).1
  have hid:=List.getElem?_eq_getElem (l:=σ) (i:=j) (by omega)
  obtain ⟨hb0,hb',h1,h2,h3⟩:=iS j _ hid
  rw [h] at h1;cases h1
  exact ⟨_,hb',hid,hpre _ h2,h3⟩
 have hro:∀ b,aB C aa hp b→aB (inner C aa hp w N σ hs0) (fun j=>(σ[j]?).bind aa) (ag hs0) b:=fun b hb=>by
  refine ⟨.inl hb,fun j hj=>?_⟩
  obtain ⟨x,hx⟩:=Option.isSome_iff_exists.1 hj
  obtain ⟨id,hb',h1,h2,h3⟩:=at_ j x hx
  simp only [h1,Option.bind_some]
  exact hb.2 id (by simp [h2])
 have hs:∀ (j id:Nat),σ[j]?=some id→(σ[j]?).bind aa=aa id∧((hp id).isSome=true→(ag hs0 j).isSome=true)∧(∀ cs,ag hs0 j=some (.var cs)→∃ cs',hp id=some (.var cs'))∧∀ e af xs,ag hs0 j=some (.row e af xs)→∃ xs',hp id=some (.row e af xs'):=fun j id h=>by
  obtain ⟨hb0,hb',h1,h2,h3⟩:=iS j id h
  refine ⟨by rw [h];rfl,fun _=>by rw [qA.2 h1];rfl,fun cs hc=>?_,fun e af xs hc=>?_⟩
  ·rw [qA.2 h1] at hc;cases hc
   cases h3 with
   | var _ ys _=>exact ⟨ys,hpre _ h2⟩
  ·rw [qA.2 h1] at hc;cases hc
   cases h3 with
   | row _ _ _ ys _ _=>exact ⟨ys,hpre _ h2⟩
 refine ⟨⟨fun j hb h=>?_,fun i j b h1 h2 h3 h4=>?_,fun j b h1 h2=>?_,⟨rfl,rfl,rfl,Nat.le_refl _,fun b _ _=>rfl⟩,fun j hb hb0 h1 h2=>?_⟩,hro,fun hr hb=>hr.back hro hs hb⟩
 ·obtain ⟨id,hb',h1,h2,h3⟩:=at_ j hb h
  exact (R.heap id hb' h2).back hro hs h1 h3
 ·obtain ⟨x,hx⟩:=Option.isSome_iff_exists.1 h1
  obtain ⟨y,hy⟩:=Option.isSome_iff_exists.1 h2
  obtain ⟨id,_,a1,a2,_⟩:=at_ i x hx
  obtain ⟨id',_,b1,b2,_⟩:=at_ j y hy
  simp only [a1,b1,Option.bind_some] at h3 h4
  obtain rfl:=R.inj id id' b (by simp [a2]) (by simp [b2]) h3 h4
  exact hinj i j id a1 b1
 ·obtain ⟨x,hx⟩:=Option.isSome_iff_exists.1 h1
  obtain ⟨id,_,a1,a2,_⟩:=at_ j x hx
  simp only [a1,Option.bind_some] at h2
  exact ⟨.inl ⟨h1,by simp only [inner,a1,Option.bind_some];exact h2,j,id,a1,h2⟩,(R.own id b (by simp [a2]) h2).2⟩
 ·have pK:ag hs0 j=some hb0:=h2
  rw [h1] at pK;cases pK
  exact fJ.refl _ _ _
theorem PN (R:bR C hp w aa) {N:Nat} {σ:List Nat} {hs0:List (Option HB)} {pre us:List (Nat×HB)} (hpre:aV hp pre) (hnew:ry C hp pre us)
 (iS:∀ (j id:Nat),σ[j]?=some id→∃ hb hb',hs0[j]?=some (some hb)∧(id,hb')∈pre∧jW (fun j=>σ[j]?) hb hb')
 {w':World} {aD:Nat→Option Nat} {h:List (Option HB)} (R':bR (inner C aa hp w N σ hs0) (ag h) w' aD) {rs:List RR} {sv:U} {env:List (Nat×U)} {τ:Nat→Option Nat} (F:Fin σ pre us rs sv env h τ) :
 ∃ dG,Step C hp (bI hp us) w w' aa dG∧∀ (x y:U) (v:Value),Rp w' (aB (inner C aa hp w N σ hs0) aD (ag h)) aD (ag h) x v→Rn τ (ag h) x y→Rp w' (aB C dG (bI hp us)) dG (bI hp us) y v:=by
 classical
 let dG:Nat→Option Nat:=fun id=>if h:∃ j,τ j=some id then aD h.choose else aa id
 have rT:∀ j id,τ j=some id→dG id=aD j:=fun j id hj=>by
  have hex:∃ j,τ j=some id:=⟨j,hj⟩
  show (if h:∃ j,τ j=some id then aD h.choose else aa id)=_
  rw [dif_pos hex,F.inj _ _ _ hex.choose_spec hj]
 have rN:∀ id,(¬ ∃ j,τ j=some id)→dG id=aa id:=fun id hj=>by
  show (if h:∃ j,τ j=some id then aD h.choose else aa id)=_
  rw [dif_neg hj]
 have hT:∀ j id,τ j=some id→∃ hb hb',ag h j=some hb∧iD τ (ag h) hb hb'∧bI hp us id=some hb':=fun j id hj=>by
  obtain ⟨hb,hb',h1,h2,h3⟩:=F.has j id hj
  exact ⟨hb,hb',h1,h2,h3 hp hpre⟩
 have hN:∀ id,(¬ ∃ j,τ j=some id)→bI hp us id=hp id:=fun id hj=>sF (fun q hq he=>hj (by rw [← he];exact F.all q hq))
 have hold:∀ j id,τ j=some id→(hp id).isSome=true→σ[j]?=some id:=fun j id hj hs=>by
  by_cases hlt:j<σ.length
  ·have hid:=List.getElem?_eq_getElem hlt
   have:=F.old j _ hid
   rw [hj] at this;cases this
   exact hid
  ·obtain ⟨hu,hq⟩:=F.new j id hj (by omega)
   obtain ⟨q,Bg,jH⟩:=List.mem_map.1 hu
   rcases hnew q Bg with ⟨hb,hm⟩ | ⟨hn,_⟩
   ·exact absurd jH (hq (q.1,hb) hm)
   ·rw [jH] at hn;rw [hn] at hs;cases hs
 have hnone:∀ j id,τ j=some id→hp id=none→C.h0 id=none:=fun j id hj hn=>by
  by_cases hlt:j<σ.length
  ·have hid:=List.getElem?_eq_getElem hlt
   have:=F.old j _ hid
   rw [hj] at this;cases this
   obtain ⟨hb,hb',_,h2,_⟩:=iS j _ hid
   rw [hpre _ h2] at hn;cases hn
  ·obtain ⟨hu,hq⟩:=F.new j id hj (by omega)
   obtain ⟨q,Bg,jH⟩:=List.mem_map.1 hu
   rcases hnew q Bg with ⟨hb,hm⟩ | ⟨_,hn⟩
   ·exact absurd jH (hq (q.1,hb) hm)
   ·rw [← jH];exact hn
 have hsz:w.heap.size≤w'.heap.size:=R'.fr.size
 have eI:∀ b,b<w.heap.size→(∀ j id,σ[j]?=some id→aa id≠some b)→w'.heap[b]?=w.heap[b]?:=fun b hb hn=>R'.fr.block b hb (fun ⟨j,id,h1,h2⟩=>hn j id h1 h2)
 have hin:∀ (j id:Nat),σ[j]?=some id→(hp id).isSome=true:=fun j id hj=>by
  obtain ⟨hb,hb',_,h2,_⟩:=iS j id hj
  rw [hpre _ h2];rfl
 have vh:∀ j id,τ j=some id→(ag h j).isSome=true:=fun j id hj=>by
  obtain ⟨hb,_,h1,_⟩:=hT j id hj
  rw [h1];rfl
 have yH:∀ j id b,τ j=some id→aD j=some b→((σ[j]?=some id∧aa id=some b)∨w.heap.size≤b)∧b<w'.heap.size:=fun j id b hj hb=>by
  obtain ⟨h1,h2⟩:=R'.own j b (vh j id hj) hb
  refine ⟨?_,h2⟩
  rcases h1 with ⟨a1,a2,_⟩ | a
  ·left
   have rA:(σ[j]?).bind aa=some b:=a2
   cases hid:σ[j]? with
   | none=>rw [hid] at rA;cases rA
   | some id'=>
     rw [hid] at rA
     have:=F.old j id' hid
     rw [hj] at this;cases this
     exact ⟨rfl,rA⟩
  ·exact .inr a
 have qM:∀ b,aB (inner C aa hp w N σ hs0) aD (ag h) b→aB C dG (bI hp us) b:=fun b hb=>by
  obtain ⟨h1,h2⟩:=hb
  have hb0:C.yC b∨C.w0.heap.size≤b:=by
   rcases h1 with a | a
   ·exact a.1
   ·exact .inr (Nat.le_trans R.fr.size a)
  refine ⟨hb0,fun id hid he=>?_⟩
  by_cases hr:∃ j,τ j=some id
  ·obtain ⟨j,hj⟩:=hr
   rw [rT j id hj] at he
   exact h2 j (vh j id hj) he
  ·rw [hN id hr] at hid
   rw [rN id hr] at he
   rcases h1 with a | a
   ·exact a.2 id hid he
   ·have:=(R.own id b hid he).2
    have a':w.heap.size≤b:=a
    omega
 have qN:∀ j b,τ j=none→(ag h j).isSome=true→aD j=some b→aB C dG (bI hp us) b:=fun j b hj hs hb=>by
  have Mz:w.heap.size≤b:=by
   rcases (R'.own j b hs hb).1 with ⟨a1,a2,_⟩ | a
   ·have rA:(σ[j]?).bind aa=some b:=a2
    cases hid:σ[j]? with
    | none=>rw [hid] at rA;cases rA
    | some id'=>rw [F.old j id' hid] at hj;cases hj
   ·exact a
  refine ⟨.inr (Nat.le_trans R.fr.size Mz),fun id hid he=>?_⟩
  by_cases hr:∃ j,τ j=some id
  ·obtain ⟨i,hi⟩:=hr
   rw [rT i id hi] at he
   have:=R'.inj i j b (vh i id hi) hs he hb
   subst this
   rw [hi] at hj;cases hj
  ·rw [hN id hr] at hid
   rw [rN id hr] at he
   have:=(R.own id b hid he).2
   omega
 have hs:∀ j id,τ j=some id→aD j=dG id∧((ag h j).isSome=true→(bI hp us id).isSome=true)∧(∀ cs,bI hp us id=some (.var cs)→∃ cs',ag h j=some (.var cs'))∧∀ e af xs,bI hp us id=some (.row e af xs)→∃ xs',ag h j=some (.row e af xs'):=fun j id hj=>by
  obtain ⟨hb,hb',h1,h2,h3⟩:=hT j id hj
  refine ⟨(rT j id hj).symm,fun _=>by rw [h3];rfl,fun cs hc=>?_,fun e af xs hc=>?_⟩
  ·rw [h3] at hc;cases hc
   cases h2 with
   | var xs _ _=>exact ⟨xs,h1⟩
  ·rw [h3] at hc;cases hc
   cases h2 with
   | row _ _ xs _ _ _=>exact ⟨xs,h1⟩
 have vV:∀ b,aB C aa hp b→b<w.heap.size→aB C dG (bI hp us) b∧w'.heap[b]?=w.heap[b]?:=fun b hb hlt=>by
  refine ⟨⟨hb.1,fun id hid he=>?_⟩,eI b hlt (fun j id hj he=>hb.2 id (hin j id hj) he)⟩
  by_cases hr:∃ j,τ j=some id
  ·obtain ⟨j,hj⟩:=hr
   rw [rT j id hj] at he
   rcases (yH j id b hj he).1 with ⟨a1,a2⟩ | a
   ·exact hb.2 id (hin j id a1) a2
   ·omega
  ·rw [hN id hr] at hid
   rw [rN id hr] at he
   exact hb.2 id hid he
 have Ew:∀ id hb,hp id=some hb→∃ hb',bI hp us id=some hb'∧fJ w w' (aa id) (dG id) hb hb':=fun id hb hq=>by
  by_cases hr:∃ j,τ j=some id
  ·obtain ⟨j,hj⟩:=hr
   obtain ⟨xG,hb',h1,h2,h3⟩:=hT j id hj
   refine ⟨hb',h3,?_⟩
   have hid:=hold j id hj (by rw [hq];rfl)
   obtain ⟨hb0,TW,g1,g2,g3⟩:=iS j id hid
   have:=hpre _ g2
   rw [hq] at this;cases this
   have ev:=R'.gi j xG hb0 h1 (qA.2 g1)
   have ev':fJ w w' (aa id) (aD j) hb0 xG:=by
    have e:(inner C aa hp w N σ hs0).Cr j=aa id:=by show (σ[j]?).bind aa=_;rw [hid];rfl
    rw [e] at ev;exact ev
   rw [rT j id hj]
   cases g3 with
   | var xs ys hb=>
     cases h2 with
     | var uk TD hf=>exact ev'
     | row=>exact ev'.elim
   | row e af xs ys hl hb=>
     cases h2 with
     | var=>exact ev'.elim
     | row e2 zo uk TD Fx hf=>exact ev'
  ·refine ⟨hb,by rw [hN id hr];exact hq,?_⟩
   rw [rN id hr]
   cases hb with
   | var cs=>rfl
   | row e af xs=>
     refine ⟨Nat.le_refl _,fun _=>⟨rfl,rfl,fun b hb cur t hc=>⟨cur,t,?_,rfl⟩⟩⟩
     rw [eI b ((R.own id b (by rw [hq];rfl) hb).2) (fun j id' hj he=>?_)];exact hc
     obtain rfl:=R.inj id id' b (by rw [hq];rfl) (hin j id' hj) hb he
     exact hr ⟨j,F.old j id hj⟩
 have E:fI w w' (aB C aa hp) (aB C dG (bI hp us)) aa dG hp (bI hp us):=fI.of vV Ew
 refine ⟨dG,⟨⟨fun id hb hq=>?_,fun i j b h1 h2 h3 h4=>?_,fun id b h1 h2=>?_,⟨R'.fr.os.trans R.fr.os,R'.fr.tape.trans R.fr.tape,R'.fr.output.trans R.fr.output,Nat.le_trans R.fr.size hsz,fun b h1 h2=>?_⟩,fun id hb hb0 h1 h2=>?_⟩,E⟩,fun x y v hr hf=>hr.leave qM qN (fun j hb hj=>R'.heap j hb hj) hs hf⟩
 ·by_cases hr:∃ j,τ j=some id
  ·obtain ⟨j,hj⟩:=hr
   obtain ⟨xG,hb',h1,h2,h3⟩:=hT j id hj
   rw [hq] at h3;cases h3
   exact (R'.heap j xG h1).leave qM qN (fun j hb hj=>R'.heap j hb hj) hs hj h2
  ·rw [hN id hr] at hq
   rcases R.heap id hb hq with ⟨a1,a2⟩ | ⟨b,cur,t,a1,a2,a3⟩
   ·exact .inl ⟨(rN id hr).trans a1,a2⟩
   ·refine .inr ⟨b,cur,t,(rN id hr).trans a1,?_,a3.mono E⟩
    rw [eI b ((R.own id b (by rw [hq];rfl) a1).2) (fun j id' hj he=>?_)];exact a2
    obtain rfl:=R.inj id id' b (by rw [hq];rfl) (hin j id' hj) a1 he
    exact hr ⟨j,F.old j id hj⟩
 ·by_cases hi:∃ k,τ k=some i <;> by_cases hj:∃ k,τ k=some j
  ·obtain ⟨k,hk⟩:=hi
   obtain ⟨l,hl⟩:=hj
   rw [rT k i hk] at h3
   rw [rT l j hl] at h4
   have:=R'.inj k l b (vh k i hk) (vh l j hl) h3 h4
   subst this
   rw [hk] at hl;cases hl;rfl
  ·obtain ⟨k,hk⟩:=hi
   rw [rT k i hk] at h3
   rw [rN j hj] at h4
   rw [hN j hj] at h2
   rcases (yH k i b hk h3).1 with ⟨a1,a2⟩ | a
   ·exact R.inj i j b (hin k i a1) h2 a2 h4
   ·have:=(R.own j b h2 h4).2;omega
  ·obtain ⟨k,hk⟩:=hj
   rw [rT k j hk] at h4
   rw [rN i hi] at h3
   rw [hN i hi] at h1
   rcases (yH k j b hk h4).1 with ⟨a1,a2⟩ | a
   ·exact R.inj i j b h1 (hin k j a1) h3 a2
   ·have:=(R.own i b h1 h3).2;omega
  ·rw [rN i hi] at h3;rw [hN i hi] at h1
   rw [rN j hj] at h4;rw [hN j hj] at h2
   exact R.inj i j b h1 h2 h3 h4
 ·by_cases hr:∃ j,τ j=some id
  ·obtain ⟨j,hj⟩:=hr
   rw [rT j id hj] at h2
   obtain ⟨a,a'⟩:=yH j id b hj h2
   refine ⟨?_,a'⟩
   rcases a with ⟨a1,a2⟩ | a
   ·exact (R.own id b (hin j id a1) a2).1
   ·exact .inr (Nat.le_trans R.fr.size a)
  ·rw [hN id hr] at h1
   rw [rN id hr] at h2
   obtain ⟨a,a'⟩:=R.own id b h1 h2
   exact ⟨a,by omega⟩
 ·rw [eI b (by have:=R.fr.size;omega) (fun j id hj he=>?_)]
  ·exact R.fr.block b h1 h2
  ·rcases (R.own id b (hin j id hj) he).1 with a | a
   ·exact h2 a.2.2
   ·omega
 ·by_cases hq:∃ xH,hp id=some xH
  ·obtain ⟨xH,hq⟩:=hq
   obtain ⟨hb',a1,a2⟩:=Ew id xH hq
   rw [h1] at a1;cases a1
   exact (R.gi id xH hb0 hq h2).trans a2
  ·have hn:hp id=none:=by cases jH:hp id with
    | none=>rfl
    | some x=>exact absurd ⟨x,jH⟩ hq
   by_cases hr:∃ j,τ j=some id
   ·obtain ⟨j,hj⟩:=hr
    rw [hnone j id hj hn] at h2;cases h2
   ·rw [hN id hr,hn] at h1;cases h1
end
structure bC (P:Program) (f:FuncId) (N:Nat) (ac:AC) (rs:List RR):Prop where
 call:uz P f=true
 ex:∃ fn c,P.funcs[f]?=some fn∧fn.body=some c∧fn.ntmps=N∧comp P N c=some ac∧qp P fn.results.toList=some rs
def xx (P:Program) (f:FuncId) (N:Nat) (rs:List RR):Option AC:=match P.funcs[f]? with
 | some fn=>if uz P f && fn.ntmps == N then match fn.body,qp P fn.results.toList with
   | some c,some rs'=>if rs'=rs then comp P N c else none
   | _,_=>none
   else none
 | none=>none
theorem xy {P:Program} {f:FuncId} {N:Nat} {ac:AC} {rs:List RR} (h:xx P f N rs=some ac):bC P f N ac rs:=by
 unfold xx at h
 split at h
 ·rename_i fn hf
  split at h
  ·rename_i hc
   simp only [Bool.and_eq_true,beq_iff_eq] at hc
   split at h
   ·rename_i c rs' hb hr
    split at h
    ·rename_i he;subst he
     exact ⟨hc.1,fn,c,hf,hb,hc.2,h,hr⟩
    ·cases h
   ·cases h
  ·cases h
 ·cases h
theorem wP {P:Program} {f:FuncId} {N:Nat} {ac:AC} {rs:List RR} (H:bC P f N ac rs) {args:List U} {pre us:List (Nat×HB)} {sv:U} (σ:List Nat) (hs0:List (Option HB)) (gf:List U)
 (hargs:args.length≤N) (hA:rq (fun j=>σ[j]?) gf args) (hl:hs0.length=σ.length) (hinj:∀ (i j id:Nat),σ[i]?=some id→σ[j]?=some id→i=j)
 (iS:∀ (j id:Nat),σ[j]?=some id→∃ hb hb',hs0[j]?=some (some hb)∧(id,hb')∈pre∧jW (fun j=>σ[j]?) hb hb')
 (hrun:∀ K:Ex→St→Prop,(∀ env h env' h' τ,cV σ.length ⟨env,h⟩ ⟨env',h'⟩→Fin σ pre us rs sv env' h' τ→K .normal ⟨env,h⟩∧K .ret ⟨env,h⟩)→G P σ.length [.c ac] K (kD 0 gf) hs0):aP P f args pre us sv:=by
 obtain ⟨MA,fn,c,hf,hb,hN,hc,hr⟩:=H
 subst hN
 refine ⟨MA,fun C hp w aa vs hpre hnew R hvl hvs=>?_⟩
 obtain ⟨R0,hro,qw⟩:=KU R (N:=fn.ntmps) hpre hl hinj iS
 refine calls_of_wp hf hb ?_
 have hG:=hrun (fun e s=>(∀ id,e≠.exit id)∧∃ s' τ,cV σ.length s s'∧Fin σ pre us rs sv s'.env s'.h τ) (fun env h env' h' τ hE hF=>⟨⟨by simp,⟨env',h'⟩,τ,hE,hF⟩,⟨by simp,⟨env',h'⟩,τ,hE,hF⟩⟩)
 have R1:fL (inner C aa hp w fn.ntmps σ hs0) σ.length ⟨kD 0 gf,hs0⟩ { tmps:=vs.toArray++Array.replicate (fn.ntmps - vs.toArray.size) undef,defers:=[] } w:=by
  refine ⟨⟨_,R0,fun n=>?_,?_,rfl⟩,by rw [← hl];exact Nat.le_refl _,fun id hid=>?_⟩
  ·show Rp _ _ _ _ (lk (kD 0 gf) n) _
   rw [GL,if_pos (Nat.zero_le _),Nat.sub_zero]
   cases hx:gf[n]? with
   | none=>exact .dead _
   | some x=>
     have hlt:=(List.getElem?_eq_some_iff.1 hx).1
     have hy:=List.getElem?_eq_getElem (l:=args) (i:=n) (by have:=hA.1;omega)
     have hv:=qw (hvs n _ hy) (hA.2 n x _ hx hy)
     have:(vs.toArray++Array.replicate (fn.ntmps - vs.toArray.size) undef).getD n undef=vs.getD n undef:=by
      have hn:n<vs.length:=by have:=hA.1;omega
      simp [Array.getD_eq_getD_getElem?,List.getD_eq_getElem?_getD,Array.getElem?_append,hn]
     rw [this];exact hv
  ·show (vs.toArray++Array.replicate (fn.ntmps - vs.toArray.size) undef).size=fn.ntmps
   simp;omega
  ·show ag hs0 id=none
   unfold ag
   rw [List.getElem?_eq_none (by omega)]
 refine TA c ac _ _ _ _ _ hc hG R1 (fun e s a w' hk RS=>?_)
 obtain ⟨hne,s',τ,hE,F⟩:=hk
 obtain ⟨⟨aD,RF⟩,_,_⟩:=hE _ _ _ RS
 obtain ⟨dG,hS,hL⟩:=PN R hpre hnew iS RF.mem F
 obtain ⟨p,xs,r1,r2,r3⟩:=F.res
 obtain ⟨vs,v1,v2⟩:=RI RF.mem RF.env hr r1 r2
 have hres:=hL _ _ _ v2 r3
 cases e with
 | normal=>exact ⟨RF.defers,_,v1,_,dG,rfl,hS,hres⟩
 | exit id=>exact absurd rfl (hne id)
 | ret=>exact ⟨RF.defers,_,v1,_,dG,rfl,hS,hres⟩
end Go.ay

namespace Go.ay
open Go
theorem Et {n0:Nat} {env env':List (Nat×U)} {h h':List (Option HB)} (τ:Nat→Option Nat) (hn:n0≤h'.length)
 (hid:∀ j i,τ j=some i→i=j) (hkeep:∀ j,τ j=none→n0≤j)
 (hh:∀ j,(∃ hb hb',τ j=some j∧ag h j=some hb∧ag h' j=some hb'∧iD τ (ag h) hb hb')∨(ag h' j=none∧(τ j=none∨ag h j=none)))
 (he:∀ n,Rn τ (ag h) (lk env n) (lk env' n)):cV n0 ⟨env,h⟩ ⟨env',h'⟩:=by
 intro C a w R
 obtain ⟨⟨aa,RF⟩,_,h0⟩:=R
 have hsub:∀ j hb',ag h' j=some hb'→τ j=some j∧∃ hb,ag h j=some hb∧iD τ (ag h) hb hb':=fun j hb' hj=>by
  rcases hh j with ⟨hb,ia,a1,a2,a3,a4⟩ | ⟨a1,_⟩
  ·rw [hj] at a3;cases a3;exact ⟨a1,hb,a2,a4⟩
  ·rw [hj] at a1;cases a1
 have hsome:∀ j,(ag h' j).isSome=true→(ag h j).isSome=true:=fun j hj=>by
  obtain ⟨hb',ia⟩:=Option.isSome_iff_exists.1 hj
  obtain ⟨_,hb,h1,_⟩:=hsub j hb' ia
  rw [h1];rfl
 have M:=RF.mem
 have qM:∀ b,aB C aa (ag h) b→aB C aa (ag h') b:=fun b hb=>⟨hb.1,fun id hid=>hb.2 id (hsome id hid)⟩
 have qN:∀ j b,τ j=none→(ag h j).isSome=true→aa j=some b→aB C aa (ag h') b:=fun j b hj hs hb=>by
  refine ⟨?_,fun id hid he=>?_⟩
  ·rcases (M.own j b hs hb).1 with ⟨a1,_⟩ | a
   ·rw [h0 j (hkeep j hj)] at a1;cases a1
   ·exact .inr a
  ·have:=M.inj id j b (hsome id hid) hs he hb
   subst this
   obtain ⟨hb',ia⟩:=Option.isSome_iff_exists.1 hid
   obtain ⟨h1,_⟩:=hsub id hb' ia
   rw [h1] at hj;cases hj
 have hs:∀ j i,τ j=some i→aa j=aa i∧((ag h j).isSome=true→(ag h' i).isSome=true)∧(∀ cs,ag h' i=some (.var cs)→∃ cs',ag h j=some (.var cs'))∧∀ e af xs,ag h' i=some (.row e af xs)→∃ xs',ag h j=some (.row e af xs'):=fun j i hj=>by
  obtain rfl:=hid j i hj
  refine ⟨rfl,fun hi=>?_,fun cs hc=>?_,fun e af xs hc=>?_⟩
  ·rcases hh i with ⟨hb,ia,a1,a2,a3,a4⟩ | ⟨_,a1 | a1⟩
   ·rw [a3];rfl
   ·rw [a1] at hj;cases hj
   ·rw [a1] at hi;cases hi
  ·obtain ⟨_,hb,h1,h2⟩:=hsub i _ hc
   cases h2 with
   | var xs _ _=>exact ⟨xs,h1⟩
  ·obtain ⟨_,hb,h1,h2⟩:=hsub i _ hc
   cases h2 with
   | row _ _ xs _ _ _=>exact ⟨xs,h1⟩
 refine ⟨⟨aa,⟨⟨fun j hb' hj=>?_,fun i j b h1 h2=>M.inj i j b (hsome i h1) (hsome j h2),fun j b h1 h2=>M.own j b (hsome j h1) h2,M.fr,fun j hb' hb0 h1 h2=>?_⟩,fun n=>(RF.env n).leave qM qN (fun j hb hj=>M.heap j hb hj) hs (he n),RF.size,RF.defers⟩⟩,hn,h0⟩
 ·obtain ⟨a1,hb,a2,a3⟩:=hsub j hb' hj
  exact (M.heap j hb a2).leave qM qN (fun j hb hj=>M.heap j hb hj) hs a1 a3
 ·obtain ⟨a1,hb,a2,a3⟩:=hsub j hb' h1
  have ev:=M.gi j hb hb0 a2 h2
  cases a3 with
  | var xs ys _=>cases hb0 <;> exact ev
  | row e af xs ys _ _=>cases hb0 <;> exact ev
theorem vO {P:U→U→Prop} (hd:∀ x,P x .dead) {env:List (Nat×U)}:∀ {env':List (Nat×U)},(∀ p∈env',P (lk env p.1) p.2)→∀ n,P (lk env n) (lk env' n)
 | [],_,n=>hd _
 | (m,v)::r,h,n=>by
   show P (lk env n) (if m=n then v else lk r n)
   by_cases he:m=n
   ·rw [if_pos he,← he];exact h (m,v) (by simp)
   ·rw [if_neg he];exact vO hd (fun p hp=>h p (List.mem_cons_of_mem _ hp)) n
theorem cK (n0:Nat) (s:St):cV n0 s s:=fun _ _ _ R=>R
theorem cV.trans {n0:Nat} {s s1 s2:St} (h:cV n0 s s1) (k:cV n0 s1 s2):cV n0 s s2:=fun C a w R=>k C a w (h C a w R)
theorem bB {n0:Nat} {env env':List (Nat×U)} {h:List (Option HB)} (he:∀ p∈env',p.2 = .dead∨lk env p.1=p.2):cV n0 ⟨env,h⟩ ⟨env',h⟩:=by
 intro C a w R
 obtain ⟨⟨aa,RF⟩,h1,h0⟩:=R
 refine ⟨⟨aa,RF.mem,fun n=>?_,RF.size,RF.defers⟩,h1,h0⟩
 have:=vO (P:=fun x y=>y = .dead∨x=y) (fun x=>.inl rfl) he n
 rcases this with h | h
 ·show Rp _ _ _ _ (lk env' n) _
  rw [h];exact .dead _
 ·show Rp _ _ _ _ (lk env' n) _
  rw [← h];exact RF.env n
inductive fZ:RV→Prop where
 | int (k:IntKind) (n:Int):fZ (.int k n)
 | bool (b:Bool):fZ (.bool b)
 | str (s:ByteArray):fZ (.str s)
 | iL:fZ .iL
 | bZ:fZ .bZ
 | kF:fZ .kF
 | lG:fZ .lG
 | aX (t:TypeId) (r:RV) (h:fZ r):fZ (.aX t r)
 | agg (rs:List RV) (h:∀ (j:Nat) (r:RV),rs[j]?=some r→fZ r):fZ (.agg rs)
 | fn (f:FuncId) (rs:List RV) (h:∀ (j:Nat) (r:RV),rs[j]?=some r→fZ r):fZ (.fn f rs)
theorem RO.flat {w w':World} {ok cH:Nat→Prop} {r:RV} {v:Value} (hr:RO w ok r v) (hf:fZ r):RO w' cH r v:=by
 induction hf generalizing v with
 | int k n=>cases hr;exact .int k n
 | bool b=>cases hr;exact .bool b
 | str s=>cases hr;exact .str s
 | iL=>cases hr;exact .iL
 | bZ=>cases hr;exact .bZ
 | kF=>cases hr;exact .kF
 | lG=>cases hr;exact .lG
 | aX t r h ih=>cases hr with | aX _ _ v h=>exact .aX t r v (ih h)
 | agg rs h ih=>cases hr with | agg _ vs hl h1 hy=>exact .agg rs vs hl h1 (fun j y hj=>ih j y hj (hy j y hj))
 | fn f rs h ih=>cases hr with | fn _ _ vs hl hy=>exact .fn f rs vs hl (fun j y hj=>ih j y hj (hy j y hj))
inductive fK:U→Prop where
 | dead:fK .dead
 | rv (r:RV) (h:fZ r):fK (.rv r)
 | ptr (id off:Nat):fK (.ptr id off)
 | bJ (id af i off:Nat):fK (.bJ id af i off)
 | row (id af len:Nat):fK (.row id af len)
 | win (id af off len:Nat):fK (.win id af off len)
 | agg (cs:List U) (h:∀ (j:Nat) (y:U),cs[j]?=some y→fK y):fK (.agg cs)
 | aR (cs:List U) (h:∀ (j:Nat) (y:U),cs[j]?=some y→fK y):fK (.aR cs)
 | fn (f:FuncId) (cs:List U) (h:∀ (j:Nat) (y:U),cs[j]?=some y→fK y):fK (.fn f cs)
 | aX (t:TypeId) (x:U) (h:fK x):fK (.aX t x)
inductive oZ:HB→Prop where
 | var (cs:List U) (h:∀ (j:Nat) (y:U),cs[j]?=some y→fK y):oZ (.var cs)
 | row (e af:Nat) (xs:List (List U)) (h:∀ (i:Nat) (x:List U) (j:Nat) (y:U),xs[i]?=some x→x[j]?=some y→fK y):oZ (.row e af xs)
section
variable {w:World} {ok cH:Nat→Prop} {aa aD:Nat→Option Nat} {hp ai:Hp}
theorem Rp.flat (hs:∀ j,(hp j).isSome=true→ai j=hp j∧aD j=aa j) {s:U} {v:Value} (hr:Rp w ok aa hp s v) (hf:fK s):Rp w cH aD ai s v:=by
 induction hf generalizing v with
 | dead=>exact .dead v
 | rv r h=>cases hr with | rv _ _ hr=>exact .rv r v (hr.flat h)
 | ptr id off=>cases hr with | ptr _ _ _ h1 h0 h=>obtain ⟨a,b⟩:=hs id h0;exact .ptr id off v h1 (by rw [a];exact h0) (by rw [a,b];exact h)
 | bJ id af i off=>cases hr with | bJ _ _ _ _ _ h1 h0 hv h=>obtain ⟨a,b⟩:=hs id h0;exact .bJ id af i off v h1 (by rw [a];exact h0) (by rw [a];exact hv) (by rw [a,b];exact h)
 | row id af len=>cases hr with | row _ _ _ _ h1 h0 hv h=>obtain ⟨a,b⟩:=hs id h0;exact .row id af len v h1 (by rw [a];exact h0) (by rw [a];exact hv) (by rw [a,b];exact h)
 | win id af off len=>cases hr with | win _ _ _ _ _ h1 h0 hv hr hc=>obtain ⟨a,b⟩:=hs id h0;exact .win id af off len v h1 (by rw [a];exact h0) (by rw [a];exact hv) (by rw [a,b];exact hr) (by rw [a,b];exact hc)
 | agg cs h ih=>cases hr with | agg _ vs hl h1 hy=>exact .agg cs vs hl h1 (fun j y hj=>ih j y hj (hy j y hj))
 | aR cs h ih=>cases hr with | aR _ vs hl hy=>exact .aR cs vs hl (fun j y hj=>ih j y hj (hy j y hj))
 | fn f cs h ih=>cases hr with | fn _ _ vs hl hy=>exact .fn f cs vs hl (fun j y hj=>ih j y hj (hy j y hj))
 | aX t x h ih=>cases hr with | aX _ _ v0 h0=>exact .aX t x v0 (ih h0)
theorem dJ.flat (hs:∀ j,(hp j).isSome=true→ai j=hp j∧aD j=aa j) {cur:Array Value} {off:Nat} {cs:List U} (h:dJ w ok aa hp cur off cs) (hf:∀ (j:Nat) (y:U),cs[j]?=some y→fK y):dJ w cH aD ai cur off cs:=fun j y hy=>by
 obtain ⟨v,h1,h2,h3⟩:=h j y hy
 exact ⟨v,h1,h2,h3.flat hs (hf j y hy)⟩
theorem ja.flat (hs:∀ j,(hp j).isSome=true→ai j=hp j∧aD j=aa j) {id:Nat} {hb:HB} (hid:(hp id).isSome=true) (h:ja w ok aa hp id hb) (hf:oZ hb):ja w cH aD ai id hb:=by
 have hr:=(hs id hid).2
 rcases h with ⟨h1,h2⟩ | ⟨b,cur,t,h1,h2,h3⟩
 ·exact .inl ⟨hr.trans h1,h2⟩
 ·refine .inr ⟨b,cur,t,hr.trans h1,h2,?_⟩
  cases hf with
  | var cs hf=>exact ⟨h3.1,h3.2.flat hs hf⟩
  | row e af xs hf=>exact ⟨h3.1,h3.2.1,fun i x hx=>(h3.2.2 i x hx).flat hs (fun j y hy=>hf i x j y hx hy)⟩
end
theorem kN {us:List (Nat×HB)} {id:Nat}:(bI (fun _=>none) us id).isSome=true↔id∈us.map (·.1):=by
 have gen:∀ (us:List (Nat×HB)) (hp:Hp),(bI hp us id).isSome=true↔(hp id).isSome=true∨id∈us.map (·.1):=by
  intro us
  induction us with
  | nil=>intro hp;simp [bI]
  | cons q r ih=>
    intro hp
    obtain ⟨i,hb⟩:=q
    rw [bI,ih]
    by_cases h:id=i
    ·subst h;simp
    ·rw [dg _ _ h];simp [h]
 rw [gen];simp
theorem Jf {us:List (Nat×HB)} {id:Nat} {hb:HB}:∀ {hp:Hp},bI hp us id=some hb→hp id=some hb∨(id,hb)∈us:=by
 induction us with
 | nil=>intro hp h;exact .inl h
 | cons q r ih=>
   intro hp h
   obtain ⟨i,hb0⟩:=q
   rcases ih h with h | h
   ·by_cases he:id=i
    ·subst he;rw [bX] at h;cases h;exact .inr (by simp)
    ·rw [dg _ _ he] at h;exact .inl h
   ·exact .inr (by simp [h])
theorem Kd {P:Program} {f:FuncId} {rs:List RV} {args:List U} {pre us:List (Nat×HB)} {sv:U} (H:aP P f (rs.map .rv) [] us sv) (hl:args.length=rs.length)
 (hz:∀ hp,aV hp pre→∀ (j:Nat) (y:U) (r:RV),args[j]?=some y→rs[j]?=some r→Fz (fun _=>none) hp y r) (hfl:fK sv) (gD:∀ q∈us,oZ q.2∧∀ p∈pre,p.1≠q.1):aP P f args pre us sv:=by
 refine ⟨H.1,fun C hp w aa vs hpre hnew R hvl hvs=>?_⟩
 let C2:Ctx:=⟨w,fun b=>aB C aa hp b∨∃ id,(hp id).isSome=true∧aa id=some b,fun _=>False,C.N,fun _=>none,fun _=>none⟩
 have vk:∀ b,C2.yC b→aB C2 (fun _=>none) (fun _=>none) b:=fun b hb=>⟨.inl hb,fun id hid=>by simp at hid⟩
 have R2:bR C2 (fun _=>none) w (fun _=>none):=⟨fun id hb h=>(by cases h),fun i j b h=>(by simp at h),fun i b h=>(by simp at h),⟨rfl,rfl,rfl,Nat.le_refl _,fun b _ _=>rfl⟩,fun id hb hb0 h=>(by cases h)⟩
 have pQ:∀ id,id∈us.map (·.1)→hp id=none∧C.h0 id=none:=fun id hid=>by
  obtain ⟨q,hq,rfl⟩:=List.mem_map.1 hid
  rcases hnew q hq with ⟨hb,hm⟩ | h
  ·exact absurd rfl ((gD q hq).2 (q.1,hb) hm)
  ·exact h
 refine (H.2 C2 (fun _=>none) w (fun _=>none) vs (fun q hq=>by simp at hq) (fun q hq=>.inr ⟨rfl,rfl⟩) R2 (by simp [hvl,hl]) (fun j s hj=>?_)).mono ?_
 ·rw [List.getElem?_map] at hj
  cases hr:rs[j]? with
  | none=>simp [hr] at hj
  | some r=>
    simp [hr] at hj
    subst hj
    have hlt:=(List.getElem?_eq_some_iff.1 hr).1
    have hy:=List.getElem?_eq_getElem (l:=args) (i:=j) (by omega)
    refine .rv _ _ (Fz.ro (τ:=fun _=>none) (fun b hb=>vk b (.inl hb)) (fun i b _ hi hb=>vk b (.inr ⟨i,hi,hb⟩)) (fun i hb hi=>R.heap i hb hi) (hvs j _ hy) (hz hp hpre j _ r hy hr))
 ·rintro e w' ⟨v,aD,rfl,S,hR⟩
  have R':=S.mem
  have eI:∀ b,b<w.heap.size→w'.heap[b]?=w.heap[b]?:=fun b hb=>R'.fr.block b hb (fun h=>h)
  have hsz:w.heap.size≤w'.heap.size:=R'.fr.size
  have pT:∀ id b,id∈us.map (·.1)→aD id=some b→w.heap.size≤b∧b<w'.heap.size:=fun id b hid hb=>by
   obtain ⟨h1,h2⟩:=R'.own id b (kN.2 hid) hb
   rcases h1 with ⟨a,_⟩ | a
   ·cases a
   ·exact ⟨a,h2⟩
  let dG:Nat→Option Nat:=fun id=>if id∈us.map (·.1) then aD id else aa id
  have rT:∀ id,id∈us.map (·.1)→dG id=aD id:=fun id h=>if_pos h
  have rN:∀ id,id∉us.map (·.1)→dG id=aa id:=fun id h=>if_neg h
  have hN:∀ id,id∉us.map (·.1)→bI hp us id=hp id:=fun id h=>zn h
  have hT:∀ id,id∈us.map (·.1)→bI hp us id=bI (fun _=>none) us id:=fun id h=>wo h
  have hs:∀ j,(bI (fun _=>none) us j).isSome=true→bI hp us j=bI (fun _=>none) us j∧dG j=aD j:=fun j hj=>⟨hT j (kN.1 hj),rT j (kN.1 hj)⟩
  have vV:∀ b,aB C aa hp b→b<w.heap.size→aB C dG (bI hp us) b∧w'.heap[b]?=w.heap[b]?:=fun b hb hlt=>by
   refine ⟨⟨hb.1,fun id hid he=>?_⟩,eI b hlt⟩
   by_cases hm:id∈us.map (·.1)
   ·rw [rT id hm] at he
    have:=(pT id b hm he).1;omega
   ·rw [hN id hm] at hid
    rw [rN id hm] at he
    exact hb.2 id hid he
  have E:fI w w' (aB C aa hp) (aB C dG (bI hp us)) aa dG hp (bI hp us):=fI.of vV (fun id hb hq=>by
   have hm:id∉us.map (·.1):=fun hm=>by rw [(pQ id hm).1] at hq;cases hq
   refine ⟨hb,by rw [hN id hm];exact hq,?_⟩
   rw [rN id hm]
   cases hb with
   | var cs=>rfl
   | row e af xs=>exact ⟨Nat.le_refl _,fun _=>⟨rfl,rfl,fun b hb cur t hc=>⟨cur,t,by rw [eI b (R.own id b (by rw [hq];rfl) hb).2];exact hc,rfl⟩⟩⟩)
  refine ⟨v,dG,rfl,⟨⟨fun id hb hq=>?_,fun i j b h1 h2 h3 h4=>?_,fun id b h1 h2=>?_,⟨R'.fr.os.trans R.fr.os,R'.fr.tape.trans R.fr.tape,R'.fr.output.trans R.fr.output,Nat.le_trans R.fr.size hsz,fun b h1 h2=>?_⟩,fun id hb hb0 h1 h2=>?_⟩,E⟩,hR.flat hs hfl⟩
  ·by_cases hm:id∈us.map (·.1)
   ·rw [hT id hm] at hq
    have AT:oZ hb:=by
     rcases Jf hq with h | h
     ·cases h
     ·exact (gD _ h).1
    exact (R'.heap id hb hq).flat hs (kN.2 hm) AT
   ·rw [hN id hm] at hq
    rcases R.heap id hb hq with ⟨a1,a2⟩ | ⟨b,cur,t,a1,a2,a3⟩
    ·exact .inl ⟨(rN id hm).trans a1,a2⟩
    ·refine .inr ⟨b,cur,t,(rN id hm).trans a1,?_,a3.mono E⟩
     rw [eI b (R.own id b (by rw [hq];rfl) a1).2];exact a2
  ·by_cases hi:i∈us.map (·.1) <;> by_cases hj:j∈us.map (·.1)
   ·rw [rT i hi] at h3;rw [rT j hj] at h4
    exact R'.inj i j b (kN.2 hi) (kN.2 hj) h3 h4
   ·rw [rT i hi] at h3;rw [rN j hj] at h4;rw [hN j hj] at h2
    have h5:=pT i b hi h3;have h6:=R.own j b h2 h4;omega
   ·rw [rN i hi] at h3;rw [rT j hj] at h4;rw [hN i hi] at h1
    have h5:=pT j b hj h4;have h6:=R.own i b h1 h3;omega
   ·rw [rN i hi] at h3;rw [rN j hj] at h4;rw [hN i hi] at h1;rw [hN j hj] at h2
    exact R.inj i j b h1 h2 h3 h4
  ·by_cases hm:id∈us.map (·.1)
   ·rw [rT id hm] at h2
    obtain ⟨a1,a2⟩:=pT id b hm h2
    exact ⟨.inr (Nat.le_trans R.fr.size a1),a2⟩
   ·rw [hN id hm] at h1;rw [rN id hm] at h2
    obtain ⟨a1,a2⟩:=R.own id b h1 h2
    exact ⟨a1,by omega⟩
  ·rw [eI b (by have:=R.fr.size;omega)];exact R.fr.block b h1 h2
  ·by_cases hm:id∈us.map (·.1)
   ·rw [(pQ id hm).2] at h2;cases h2
   ·rw [hN id hm] at h1
    have ev:=R.gi id hb hb0 h1 h2
    obtain ⟨hb',g1,g2⟩:∃ hb',bI hp us id=some hb'∧fJ w w' (aa id) (dG id) hb hb':=by
     refine ⟨hb,by rw [hN id hm];exact h1,?_⟩
     rw [rN id hm]
     cases hb with
     | var cs=>rfl
     | row e af xs=>exact ⟨Nat.le_refl _,fun _=>⟨rfl,rfl,fun b hb cur t hc=>⟨cur,t,by rw [eI b (R.own id b (by rw [h1];rfl) hb).2];exact hc,rfl⟩⟩⟩
    rw [hN id hm,h1] at g1;cases g1
    exact ev.trans g2
end Go.ay

namespace Go.ay
open Go
def cc (τ:Nat→Option Nat) (h:Hp):List U→List U→Prop
 | [],[]=>True
 | x::xs,y::ys=>Rn τ h x y∧cc τ h xs ys
 | _,_=>False
theorem qQ {τ:Nat→Option Nat} {h:Hp}:∀ {xs ys:List U},cc τ h xs ys↔rz τ h xs ys
 | [],[]=>⟨fun _=>⟨rfl,fun i x y hx=>by simp at hx⟩,fun _=>trivial⟩
 | [],_::_=>⟨fun h=>h.elim,fun h=>by simp [rz] at h⟩
 | _::_,[]=>⟨fun h=>h.elim,fun h=>by simp [rz] at h⟩
 | x::xs,y::ys=>by
   unfold cc
   rw [qQ (xs:=xs) (ys:=ys)]
   constructor
   ·rintro ⟨h1,h2,h3⟩
    refine ⟨by simp [h2],fun i a b ha hb=>?_⟩
    cases i with
    | zero=>simp at ha hb;subst ha;subst hb;exact h1
    | succ i=>exact h3 i a b (by simpa using ha) (by simpa using hb)
   ·rintro ⟨h2,h3⟩
    exact ⟨h3 0 x y rfl rfl,by simpa using h2,fun i a b ha hb=>h3 (i+1) a b (by simpa using ha) (by simpa using hb)⟩
section
variable {τ:Nat→Option Nat} {h:Hp}
theorem bh {r r':RV}:Rn τ h (.rv r) (.rv r')↔r=r':=⟨fun hr=>by cases hr with | fz _ _ hf=>cases hf;rfl,fun e=>by subst e;exact .fz _ _ (.rv _)⟩
theorem dc {x:U}:Rn τ h x .dead↔True:=⟨fun _=>trivial,fun _=>.dead _⟩
theorem cn {i j o o':Nat}:Rn τ h (.ptr i o) (.ptr j o')↔τ i=some j∧o=o':=⟨fun hr=>by cases hr with | ptr _ _ _ hj=>exact ⟨hj,rfl⟩,fun ⟨e,e'⟩=>by subst e';exact .ptr _ _ _ e⟩
theorem bT {i j v v' l l':Nat}:Rn τ h (.row i v l) (.row j v' l')↔τ i=some j∧v=v'∧l=l':=⟨fun hr=>by cases hr with | row _ _ _ _ hj=>exact ⟨hj,rfl,rfl⟩,fun ⟨e,e',e2⟩=>by subst e';subst e2;exact .row _ _ _ _ e⟩
theorem cS {xs ys:List U}:Rn τ h (.agg xs) (.agg ys)↔cc τ h xs ys:=by rw [qQ];exact ⟨fun hr=>by cases hr with | agg _ _ hl hf=>exact ⟨hl,hf⟩,fun ⟨e,e'⟩=>.agg _ _ e e'⟩
theorem cO {xs ys:List U}:Rn τ h (.aR xs) (.aR ys)↔cc τ h xs ys:=by rw [qQ];exact ⟨fun hr=>by cases hr with | aR _ _ hl hf=>exact ⟨hl,hf⟩,fun ⟨e,e'⟩=>.aR _ _ e e'⟩
theorem de {t t':TypeId} {x y:U}:Rn τ h (.aX t x) (.aX t' y)↔t=t'∧Rn τ h x y:=⟨fun hr=>by cases hr with | aX _ _ _ hf=>exact ⟨rfl,hf⟩,fun ⟨e,e'⟩=>by subst e;exact .aX _ _ _ e'⟩
end
def bH (τ:Nat→Option Nat) (h:Hp) (sv:U):Option (Prop×List U)→Prop
 | some (p,xs)=>p∧Rn τ h (bO xs) sv
 | none=>False
theorem sR {P:Program} {f:FuncId} {N:Nat} {ac:AC} {rs:List RR} (H:bC P f N ac rs) (iE:List RV) (sv:U) (hN:iE.length≤N)
 (hrun:∀ K:Ex→St→Prop,(∀ env h,bH (fun _=>none) (ag h) sv (bF (lk env) (ag h) rs)→K .normal ⟨env,h⟩∧K .ret ⟨env,h⟩)→G P 0 [.c ac] K (kD 0 (iE.map .rv)) []):aP P f (iE.map .rv) [] [] sv:=by
 refine wP H [] [] (iE.map .rv) (by simpa using hN) ⟨rfl,fun i x y hx hy=>?_⟩ rfl (by simp) (by simp) (fun K hK=>hrun K (fun env h hr=>?_))
 ·rw [hx] at hy;cases hy
  rw [List.getElem?_map] at hx
  cases hr:iE[i]? with
  | none=>simp [hr] at hx
  | some r=>simp [hr] at hx;subst hx;exact .rv r
 ·unfold bH at hr
  split at hr
  ·rename_i p xs hres
   exact hK env h env h (fun _=>none) (cK _ _) ⟨by simp,by simp,by simp,by simp,by simp,p,xs,hres,hr.1,hr.2⟩
  ·exact hr.elim
theorem wrap_i64 {n:Int} (h1 : -9223372036854775808≤n) (h2:n<9223372036854775808):IntKind.i64.wrap n=n:=by
 unfold IntKind.wrap
 simp only [IntKind.signed,IntKind.bits]
 by_cases h:(9223372036854775808:Int)≤n % 18446744073709551616 <;> simp [h] <;> omega
end Go.ay

namespace Go.ay
open Go
def uM (P:Program) (rec:TypeId→Bool):Nat→List Field→Option Nat
 | off,[]=>some off
 | off,f::r=>if f.offset=off && rec f.type then uM P rec (off+P.cellsOf f.type) r else none
def kT (P:Program):Nat→TypeId→Bool
 | 0,_=>false
 | n+1,t=>match P.underlying t with
   | some .bool | some (.int _) | some .string=>P.cellsOf t == 1
   | some (.slice e)=>P.cellsOf t == 1 && kT P n e
   | some (.struct fs)=>uM P (kT P n) 0 fs.toList == some (P.cellsOf t)
   | some (.array m e)=>kT P n e && P.cellsOf t == m*P.cellsOf e
   | _=>false
def ug (P:Program) (rec:TypeId→List RV→Prop):List Field→List RV→Prop
 | [],rs=>rs=[]
 | f::r,rs=>∃ a b,rs=a++b∧rec f.type a∧ug P rec r b
def gS (P:Program):Nat→TypeId→List RV→Prop
 | 0,_,_=>False
 | n+1,t,rs=>match P.underlying t with
   | some .bool=>∃ b,rs=[.bool b]
   | some (.int k)=>∃ i,rs=[.int k i]∧(Lit.int k i).wf=true
   | some .string=>∃ s,rs=[.str s]∧s.size≤maxLen
   | some (.slice e)=>∃ xs,rs=[.sl (P.cellsOf e) xs]∧xs.length≤maxLen∧∀ x∈xs,gS P n e x
   | some (.struct fs)=>ug P (gS P n) fs.toList rs
   | some (.array m e)=>∃ xs:List (List RV),rs=xs.flatten∧xs.length=m∧∀ x∈xs,gS P n e x
   | _=>False
def jb (w:World) (ok:Nat→Prop) (vs:List Value) (rs:List RV):Prop:=vs.length=rs.length∧∀ (j:Nat) (r:RV),rs[j]?=some r→r.one=true∧RO w ok r (vs.getD j undef)
theorem jb.append {w:World} {ok:Nat→Prop} {vs us:List Value} {rs qs:List RV} (h:jb w ok vs rs) (k:jb w ok us qs):jb w ok (vs++us) (rs++qs):=by
 refine ⟨by simp [h.1,k.1],fun j r hj=>?_⟩
 by_cases hlt:j<rs.length
 ·rw [List.getElem?_append_left hlt] at hj
  have:=h.2 j r hj
  rw [List.getD_eq_getElem?_getD,List.getElem?_append_left (by rw [h.1];exact hlt),← List.getD_eq_getElem?_getD]
  exact this
 ·rw [List.getElem?_append_right (by omega)] at hj
  have:=k.2 _ r hj
  rw [List.getD_eq_getElem?_getD,List.getElem?_append_right (by rw [h.1];omega),h.1,← List.getD_eq_getElem?_getD]
  exact this
theorem jb.one {w:World} {ok:Nat→Prop} {v:Value} {r:RV} (h:RO w ok r v) (h1:r.one=true):jb w ok [v] [r]:=
 ⟨rfl,fun j q hj=>by
  cases j with
  | zero=>simp at hj;subst hj;exact ⟨h1,h⟩
  | succ j=>simp at hj⟩
section
variable {P:Program} {H:Type} {enc:TypeId×Value→H} {w:World} {base:Nat} {spare:Nat→Bool} {held:Bool}
theorem Ja (ok:Nat→Prop) {n m:Nat} (IH:∀ t,kT P n t=true→∀ cs x,DataW.trod enc P w base spare held m t cs=some x→∃ rs,gS P n t rs∧jb w ok cs rs∧cs.length=P.cellsOf t) :
 ∀ (fs:List Field) (off tot:Nat) (cs:List Value),uM P (kT P n) off fs=some tot→cs.length=tot→(∀ f∈fs,∃ x,DataW.trod enc P w base spare held m f.type ((cs.drop f.offset).take (P.cellsOf f.type))=some x)→
 ∃ rs,ug P (gS P n) fs rs∧jb w ok (cs.drop off) rs
 | [],off,tot,cs,h,hl,_=>by
   simp only [uM,Option.some.injEq] at h
   subst h
   refine ⟨[],rfl,?_⟩
   rw [List.drop_of_length_le (by omega)]
   exact ⟨rfl,fun j r hj=>by simp at hj⟩
 | f::fs,off,tot,cs,h,hl,hx=>by
   unfold uM at h
   split at h
   ·rename_i hf
    simp only [Bool.and_eq_true,decide_eq_true_eq] at hf
    obtain ⟨x,hx0⟩:=hx f (by simp)
    obtain ⟨a,AE,xE,Mu⟩:=IH f.type hf.2 _ _ hx0
    obtain ⟨b,uY,ia⟩:=Ja ok IH fs (off+P.cellsOf f.type) tot cs h hl (fun g hg=>hx g (by simp [hg]))
    refine ⟨a++b,⟨a,b,rfl,AE,uY⟩,?_⟩
    rw [hf.1] at xE
    have:cs.drop off=(cs.drop off).take (P.cellsOf f.type)++cs.drop (off+P.cellsOf f.type):=by
     rw [← List.drop_drop,List.take_append_drop]
    rw [this]
    exact xE.append ia
   ·cases h
theorem IZ (ok:Nat→Prop) {n m:Nat} {e:TypeId} (IH:∀ cs x,DataW.trod enc P w base spare held m e cs=some x→∃ rs,gS P n e rs∧jb w ok cs rs∧cs.length=P.cellsOf e) :
 ∀ (k i:Nat) (cs:List Value),cs.length=(i+k)*P.cellsOf e→(∀ j,i≤j→j<i+k→∃ x,DataW.trod enc P w base spare held m e ((cs.drop (j*P.cellsOf e)).take (P.cellsOf e))=some x)→
 ∃ xs:List (List RV),xs.length=k∧(∀ x∈xs,gS P n e x)∧jb w ok (cs.drop (i*P.cellsOf e)) xs.flatten
 | 0,i,cs,hl,_=>by
   refine ⟨[],rfl,by simp,?_⟩
   rw [List.drop_of_length_le (by simp at hl;omega)]
   exact ⟨rfl,fun j r hj=>by simp at hj⟩
 | k+1,i,cs,hl,hx=>by
   obtain ⟨x,hx0⟩:=hx i (Nat.le_refl _) (by omega)
   obtain ⟨a,AE,xE,Mu⟩:=IH _ _ hx0
   obtain ⟨xs,h1,h2,h3⟩:=IZ ok IH k (i+1) cs (by rw [hl];congr 1;omega) (fun j h1 h2=>hx j (by omega) (by omega))
   refine ⟨a::xs,by simp [h1],fun x hx=>?_,?_⟩
   ·rcases List.mem_cons.1 hx with rfl | hx
    ·exact AE
    ·exact h2 x hx
   ·have:cs.drop (i*P.cellsOf e)=(cs.drop (i*P.cellsOf e)).take (P.cellsOf e)++cs.drop ((i+1)*P.cellsOf e):=by
     rw [Nat.add_mul,Nat.one_mul,← List.drop_drop,List.take_append_drop]
    rw [this,List.flatten_cons]
    exact xE.append h3
theorem Km {a:Addr} {n:Nat} {cs:List Value} (h:w.cells? base a n=some cs):cs.length=n∧∀ j,j<n→w.cell? (a.add j)=some (cs.getD j undef):=by
 unfold World.cells? at h
 split at h
 ·obtain ⟨h1,h2⟩:=mapM_some_get _ _ _ h
  refine ⟨by simpa using h1,fun j hj=>?_⟩
  have hr:(List.range n)[j]?=some j:=List.getElem?_range hj
  obtain ⟨h3,h4⟩:=h2 j j hr
  have hlt:j<cs.length:=by rw [h1];simpa using hj
  rw [List.getD_eq_getElem?_getD,List.getElem?_eq_getElem hlt,Option.getD_some,← h3,List.getElem?_eq_getElem hlt]
 ·cases h
theorem typed (ok:Nat→Prop) (hok:∀ b,b<w.heap.size→ok b):∀ (n:Nat) (t:TypeId),kT P n t=true→∀ (fuel:Nat) (cs:List Value) (x:DataW H×List MemPlace),DataW.trod enc P w base spare held fuel t cs=some x→∃ rs,gS P n t rs∧jb w ok cs rs∧cs.length=P.cellsOf t
 | 0,t,h,_,_,_,_=>by cases h
 | n+1,t,h,fuel,cs,x,hx=>by
   unfold kT at h
   unfold gS
   split at h
   ·rename_i hu
    obtain ⟨b,rfl,_⟩:=DataW.trod_bool hu hx
    try simp only [hu]
    exact ⟨[.bool b],⟨b,rfl⟩,.one (.bool b) rfl,by simp at h;simp [h]⟩
   ·rename_i k hu
    obtain ⟨i,rfl,_,hw⟩:=DataW.trod_int hu hx
    try simp only [hu]
    exact ⟨[.int k i],⟨i,rfl,hw⟩,.one (.int k i) rfl,by simp at h;simp [h]⟩
   ·rename_i hu
    obtain ⟨s,rfl,_,hs⟩:=DataW.trod_string hu hx
    try simp only [hu]
    exact ⟨[.str s],⟨s,rfl,hs⟩,.one (.str s) rfl,by simp at h;simp [h]⟩
   ·rename_i e hu
    simp only [Bool.and_eq_true,beq_iff_eq] at h
    try simp only [hu]
    rcases DataW.trod_slice hu hx with ⟨rfl,_⟩ | ⟨a,len,cap,elems,rest,m,rfl,rfl,_,hb,hl,hm,hel,hcell,_,_⟩
    ·refine ⟨[.sl (P.cellsOf e) []],⟨[],rfl,by simp,by simp⟩,.one ?_ rfl,by simpa using h.1.symm⟩
     exact .sl _ [] none 0 (fun _ _=>undef) (fun _=>⟨rfl,rfl⟩) (by simp) (by simp [maxLen]) (by simp) (fun i x j y hx=>by simp at hx) (fun i x j y hx=>by simp at hx) (fun i x j y hx=>by simp at hx)
    ·have key:∀ i,i<len→∃ (ci:List Value) (r:List RV),gS P n e r∧jb w ok ci r∧ci.length=P.cellsOf e∧∀ j,j<P.cellsOf e→w.cell? ((a.add (i*P.cellsOf e)).add j)=some (ci.getD j undef):=fun i hi=>by
      have h1:=hcell i hi
      rw [List.getElem?_eq_getElem (by omega)] at h1
      simp only [Option.bind_eq_some_iff] at h1
      obtain ⟨ci,h2,h3⟩:=h1
      obtain ⟨r,g1,g2,g3⟩:=typed ok hok n e h.2 m ci _ h3
      exact ⟨ci,r,g1,g2,g3,(Km h2).2⟩
     classical
     let cf:Nat→List Value:=fun i=>if h:i<len then (key i h).choose else []
     let rf:Nat→List RV:=fun i=>if h:i<len then (key i h).choose_spec.choose else []
     have hf:∀ i,i<len→gS P n e (rf i)∧jb w ok (cf i) (rf i)∧(cf i).length=P.cellsOf e∧∀ j,j<P.cellsOf e→w.cell? ((a.add (i*P.cellsOf e)).add j)=some ((cf i).getD j undef):=fun i hi=>by
      have h1:cf i=(key i hi).choose:=dif_pos hi
      have h2:rf i=(key i hi).choose_spec.choose:=dif_pos hi
      rw [h1,h2]
      exact (key i hi).choose_spec.choose_spec
     have hlen:((List.range len).map rf).length=len:=by simp
     have ag:∀ (i:Nat) (x:List RV),((List.range len).map rf)[i]?=some x→i<len∧x=rf i:=fun i x hi=>by
      rw [List.getElem?_map] at hi
      cases hr:(List.range len)[i]? with
      | none=>simp [hr] at hi
      | some j=>
        have hlt:=(List.getElem?_eq_some_iff.1 hr).1
        simp at hlt
        rw [List.getElem?_range hlt] at hr
        cases hr
        rw [List.getElem?_range hlt] at hi
        simp at hi
        exact ⟨hlt,hi.symm⟩
     refine ⟨[.sl (P.cellsOf e) ((List.range len).map rf)],⟨_,rfl,by rw [hlen];omega,fun x hx=>?_⟩,.one ?_ rfl,by simpa using h.1.symm⟩
     ·obtain ⟨i,hi,rfl⟩:=List.mem_map.1 hx
      exact (hf i (by simpa using hi)).1
     ·have hcs:∀ (i:Nat) (x:List RV) (j:Nat) (y:RV),((List.range len).map rf)[i]?=some x→x[j]?=some y→i<len∧(rf i)[j]?=some y∧w.cell? (a.add (i*P.cellsOf e+j))=some ((cf i).getD j undef):=fun i x j y hi hj=>by
       obtain ⟨h1,rfl⟩:=ag i x hi
       obtain ⟨_,g2,g3,g4⟩:=hf i h1
       have hlt:=(List.getElem?_eq_some_iff.1 hj).1
       have:=g4 j (by rw [← g3,g2.1];exact hlt)
       rw [wB] at this
       exact ⟨h1,hj,this⟩
      have:=RO.sl (w:=w) (ok:=ok) (P.cellsOf e) ((List.range len).map rf) (some a) cap (fun i j=>(cf i).getD j undef) (fun h=>by cases h) (by rw [hlen];exact hl) hm (fun x hx=>by
       obtain ⟨i,hi,rfl⟩:=List.mem_map.1 hx
       obtain ⟨_,g2,g3,_⟩:=hf i (by simpa using hi)
       rw [← g2.1,g3]) (fun i x j y hi hj=>by
       obtain ⟨_,_,h3⟩:=hcs i x j y hi hj
       exact ⟨a,rfl,hok _ (by have:=World.block_lt_of_cell? w _ h3;rwa [wC] at this),h3⟩) (fun i x j y hi hj=>by
       obtain ⟨h1,h2,_⟩:=hcs i x j y hi hj
       exact ((hf i h1).2.1.2 j y h2).1) (fun i x j y hi hj=>by
       obtain ⟨h1,h2,_⟩:=hcs i x j y hi hj
       exact ((hf i h1).2.1.2 j y h2).2)
      rw [hlen] at this
      exact this
   ·rename_i fs hu
    simp only [beq_iff_eq] at h
    try simp only [hu]
    obtain ⟨xs,m,rfl,_,hl,jq,hf⟩:=DataW.trod_struct hu hx
    obtain ⟨rs,g1,g2⟩:=Ja (enc:=enc) (m:=m) ok (fun t ht cs x hx=>typed ok hok n t ht m cs x hx) fs.toList 0 (P.cellsOf t) cs h hl (fun f gN=>by
     obtain ⟨i,hi,he⟩:=List.mem_iff_getElem.1 gN
     have hi':i<fs.size:=by simpa using hi
     have MI:fs[i]?=some f:=by rw [Array.getElem?_eq_getElem hi'];simp at he;rw [he]
     have:=hf i f MI
     rw [List.getElem?_eq_getElem (by omega)] at this
     exact ⟨_,this⟩)
    exact ⟨rs,g1,by simpa using g2,hl⟩
   ·rename_i k e hu
    simp only [Bool.and_eq_true,beq_iff_eq] at h
    try simp only [hu]
    obtain ⟨xs,m,rfl,_,hl,jq,hf⟩:=DataW.trod_array hu hx
    obtain ⟨ys,g1,g2,g3⟩:=IZ (enc:=enc) (m:=m) ok (fun cs x hx=>typed ok hok n e h.1 m cs x hx) k 0 cs (by rw [hl,h.2];congr 1;omega) (fun j _ hj=>by
     have:=hf j (by omega)
     rw [List.getElem?_eq_getElem (by omega)] at this
     exact ⟨_,this⟩)
    exact ⟨ys.flatten,⟨ys,rfl,g1,g2⟩,by simpa using g3,hl⟩
   ·cases h
end
def sN (P:Program) (t:TypeId) (rs:List RV):U:=match cG P t with
 | some true=>.agg (rs.map .rv)
 | _=>.rv (rs.headD .iL)
theorem QH {P:Program} {H:Type} {enc:TypeId×Value→H} {w:World} {r:Reach} {b0 n:Nat} {t:TypeId} {v:Value} {d:DataW H} {ps:List MemPlace} (hf:kT P n t=true) (hval:Value.okWide P w r b0 t v) (hd:DataW.Trod enc P w 0 (fun _=>true) true t v d ps) (C:Ctx) (aa:Nat→Option Nat) :
 ∃ rs,gS P n t rs∧∀ (ok:Nat→Prop) (aa:Nat→Option Nat) (hp:Hp),(∀ b,b<w.heap.size→ok b)→Rp w ok aa hp (sN P t rs) v:=by
 obtain ⟨fuel,hx⟩:=hd
 obtain ⟨rs,h1,h2,h3⟩:=typed (enc:=enc) (fun b=>b<w.heap.size) (fun b hb=>hb) n t hf fuel _ _ hx
 refine ⟨rs,h1,fun ok aa hp hok=>?_⟩
 have pK:jb w ok v.cells.toList rs:=⟨h2.1,fun j q hj=>⟨(h2.2 j q hj).1,(h2.2 j q hj).2.mono fun b hb _=>⟨hok b hb,rfl⟩⟩⟩
 unfold sN
 cases hu:P.underlying t with
 | none=>cases n <;> simp [kT,hu] at hf
 | some kd=>
   have scalar:(cG P t=some false)→v.cells = #[v]→Rp w ok aa hp (.rv (rs.headD .iL)) v:=fun _ hc=>by
    have hl:=pK.1
    rw [hc] at hl pK
    obtain ⟨q,rfl⟩:=List.length_eq_one_iff.1 hl.symm
    exact .rv _ _ (pK.2 0 q rfl).2
   have Jz:(∃ cs,v = .agg cs)→Rp w ok aa hp (.agg (rs.map .rv)) v:=fun ⟨cs,hv⟩=>by
    subst hv
    have hl:=pK.1
    have:Rp w ok aa hp (.agg (rs.map .rv)) (.agg cs.toList.toArray):=by
     refine .agg _ _ (by simpa [Value.cells] using hl) (fun j u hj=>?_) (fun j y hj=>?_)
     ·have hlt:=(List.getElem?_eq_some_iff.1 hj).1
      have hr:=List.getElem?_eq_getElem (l:=rs) (i:=j) (by simp [Value.cells] at hl;simp at hlt;omega)
      have:=pK.2 j _ hr
      have hu:(Value.cells (.agg cs)).toList.getD j undef=u:=by rw [List.getD_eq_getElem?_getD];show (cs.toList[j]?).getD undef=u;rw [hj];rfl
      rw [hu] at this
      exact this.2.vW this.1
     ·rw [List.getElem?_map] at hj
      cases hr:rs[j]? with
      | none=>simp [hr] at hj
      | some q=>simp [hr] at hj;subst hj;exact .rv _ _ (pK.2 j q hr).2
    simpa using this
   have MB:(∀ cs,v≠.agg cs)→v.cells = #[v]:=fun h=>by cases v <;> first | rfl | exact absurd rfl (h _)
   cases n with
   | zero=>cases hf
   | succ n=>
     unfold kT at hf
     unfold Value.okWide at hval
     cases kd <;> simp only [hu] at hf hval <;> first
      | (cases hf;done)
      | (have ha:cG P t=some true:=by simp [cG,hu]
         simp only [ha]
         obtain ⟨cs,hv,_⟩:=hval
         exact Jz ⟨cs,hv⟩)
      | (have ha:cG P t=some false:=by simp [cG,hu]
         simp only [ha]
         refine scalar ha (MB (fun cs hv=>?_))
         subst hv
         simp [Cell.okWide,hu,Cell.ok] at hval)
theorem PK {P:Program} {f:FuncId} {ss:List U} (h:aP P f ss [] [] (.rv (.bool true))) {w:World} {vs:List Value} (hl:vs.length=ss.length)
 (ha:∀ (j:Nat) (s:U),ss[j]?=some s→∀ (ok:Nat→Prop) (aa:Nat→Option Nat) (hp:Hp),(∀ b,b<w.heap.size→ok b)→Rp w ok aa hp s (vs.getD j undef)) :
 Calls P f vs.toArray w fun e w'=>e = .returned (.bool true)∧RowKit.Below w.heap.size w w':=by
 let C:Ctx:=⟨w,fun _=>True,fun _=>False,0,fun _=>none,fun _=>none⟩
 have R:bR C (fun _=>none) w (fun _=>none):=⟨fun id hb h=>(by cases h),fun i j b h=>(by simp at h),fun i b h=>(by simp at h),⟨rfl,rfl,rfl,Nat.le_refl _,fun b _ _=>rfl⟩,fun id hb hb0 h=>(by cases h)⟩
 refine (h.2 C (fun _=>none) w (fun _=>none) vs (fun q hq=>by simp at hq) (fun q hq=>by simp at hq) R hl (fun j s hj=>ha j s hj _ _ _ (fun b hb=>⟨.inl trivial,fun id hid=>by simp at hid⟩))).mono ?_
 rintro e w' ⟨v,aD,rfl,S,hR⟩
 refine ⟨by rw [sB hR],S.mem.fr.os,S.mem.fr.tape,S.mem.fr.output,S.mem.fr.size,fun k hk=>S.mem.fr.block k hk (fun h=>h)⟩
end Go.ay

namespace Go.ay
open Go
def ah (xs:List (List RV)):List (List U):=xs.map (List.map U.rv)
section
variable {xs ys:List (List RV)}
theorem Ib:xs.map (List.map U.rv)=ah xs:=rfl
theorem aF:(ah xs).length=xs.length:=by simp [ah]
theorem Ic {i:Nat}:((ah xs)[i]?).getD []=((xs[i]?).getD []).map U.rv:=by
 unfold ah
 rw [List.getElem?_map]
 cases xs[i]? <;> rfl
theorem RQ {n:Nat}:(ah xs).take n=ah (xs.take n):=by simp [ah]
theorem Ia:ah xs++ah ys=ah (xs++ys):=by simp [ah]
theorem RP {i:Nat} {c:List RV}:(ah xs).set i (c.map U.rv)=ah (xs.set i c):=by simp [ah,List.map_set]
theorem map_inj {α β:Type} {f:α→β} (hf:∀ x y,f x=f y→x=y):∀ {a b:List α},a.map f=b.map f→a=b
 | [],[],_=>rfl
 | [],_::_,h=>by simp at h
 | _::_,[],h=>by simp at h
 | x::a,y::b,h=>by
   simp only [List.map_cons,List.cons.injEq] at h
   rw [hf x y h.1,map_inj hf h.2]
theorem er:ah xs=ah ys↔xs=ys:=by
 constructor
 ·intro h
  exact map_inj (fun a b h=>map_inj (fun x y h=>by cases h;rfl) h) h
 ·rintro rfl;rfl
end
def zA (τ:Nat→Option Nat) (h:Hp) (xs ys:List (List U)):Prop:=xs.length=ys.length∧∀ (i:Nat) (x y:List U),xs[i]?=some x→ys[i]?=some y→rz τ h x y
theorem cC {τ:Nat→Option Nat} {h:Hp} {xs ys:List (List RV)}:zA τ h (ah xs) (ah ys)↔xs=ys:=by
 constructor
 ·rintro ⟨hl,hr⟩
  refine List.ext_getElem? (fun i=>?_)
  rw [aF,aF] at hl
  by_cases hi:i<xs.length
  ·have h1:=List.getElem?_eq_getElem hi
   have h2:=List.getElem?_eq_getElem (l:=ys) (i:=i) (by omega)
   have:=hr i (xs[i].map U.rv) ((ys[i]'(by omega)).map U.rv) (by simp [ah,h1]) (by simp [ah,h2])
   rw [h1,h2]
   obtain ⟨k1,k2⟩:=this
   simp at k1
   congr 1
   refine List.ext_getElem? (fun j=>?_)
   by_cases hj:j<(xs[i]).length
   ·have g1:=List.getElem?_eq_getElem hj
    have g2:=List.getElem?_eq_getElem (l:=ys[i]'(by omega)) (i:=j) (by omega)
    have:=k2 j _ _ (by rw [List.getElem?_map,g1];rfl) (by rw [List.getElem?_map,g2];rfl)
    rw [g1,g2,bh.1 this]
   ·rw [List.getElem?_eq_none (by omega),List.getElem?_eq_none (by omega)]
  ·rw [List.getElem?_eq_none (by omega),List.getElem?_eq_none (by omega)]
 ·rintro rfl
  refine ⟨rfl,fun i x y hx hy=>?_⟩
  rw [hx] at hy;cases hy
  refine ⟨rfl,fun j a b ha hb=>?_⟩
  rw [ha] at hb;cases hb
  unfold ah at hx
  rw [List.getElem?_map] at hx
  cases hq:xs[i]? with
  | none=>simp [hq] at hx
  | some q=>
    simp [hq] at hx
    subst hx
    rw [List.getElem?_map] at ha
    cases hr:q[j]? with
    | none=>simp [hr] at ha
    | some r=>simp [hr] at ha;subst ha;exact bh.2 rfl
def bV (τ:Nat→Option Nat) (h:Hp):Option HB→Option HB→Prop
 | some (.var xs),some (.var ys)=>cc τ h xs ys
 | some (.row e v xs),some (.row e' v' ys)=>e=e'∧v=v'∧zA τ h xs ys
 | _,_=>False
theorem bV.get {τ:Nat→Option Nat} {h:Hp} {x y:Option HB} (hr:bV τ h x y):∃ a b,x=some a∧y=some b∧iD τ h a b:=by
 unfold bV at hr
 split at hr
 ·exact ⟨_,_,rfl,rfl,.var _ _ (qQ.1 hr)⟩
 ·obtain ⟨rfl,rfl,h1,h2⟩:=hr
  exact ⟨_,_,rfl,rfl,.row _ _ _ _ h1 h2⟩
 ·exact hr.elim
def cj:List (Nat×HB)→Nat→Option HB
 | [],_=>none
 | (i,hb)::r,id=>if id=i then some hb else cj r id
def bW:Option HB→List (Nat×HB)→Nat→Option HB
 | b,[],_=>b
 | b,(i,hb)::r,id=>bW (if id=i then some hb else b) r id
theorem Je {id:Nat}:∀ {us:List (Nat×HB)} {hp:Hp},bI hp us id=bW (hp id) us id
 | [],hp=>rfl
 | (i,hb)::r,hp=>by
   rw [bI,Je,bW]
   unfold up
   rfl
theorem ED {id:Nat} {hb:HB}:∀ {us:List (Nat×HB)} {a:Option HB},bW none us id=some hb→bW a us id=some hb
 | [],a,h=>by cases h
 | (i,hb0)::r,a,h=>by
   unfold bW at h ⊢
   by_cases hi:id=i
   ·rw [if_pos hi] at h ⊢;exact h
   ·rw [if_neg hi] at h ⊢;exact ED h
theorem GM {id:Nat} {hb:HB}:∀ {pre:List (Nat×HB)},cj pre id=some hb→(id,hb)∈pre
 | [],h=>by cases h
 | (i,hb0)::r,h=>by
   unfold cj at h
   split at h
   ·rename_i hi;cases h;subst hi;simp
   ·exact List.mem_cons_of_mem _ (GM h)
theorem La {pre us:List (Nat×HB)} {id:Nat} {hb:HB} (h:bW (cj pre id) us id=some hb) (hp:Hp) (hpre:aV hp pre):bI hp us id=some hb:=by
 rw [Je]
 cases hl:cj pre id with
 | none=>rw [hl] at h;exact ED h
 | some b=>
   rw [hl] at h
   rw [hpre (id,b) (GM hl)];exact h
def ct (τ:Nat→Option Nat) (h:Hp) (pre us:List (Nat×HB)):Nat→List (Option Nat)→Prop
 | _,[]=>True
 | j,none::r=>ct τ h pre us (j+1) r
 | j,some id::r=>bV τ h (h j) (bW (cj pre id) us id)∧ct τ h pre us (j+1) r
theorem Gw {τ:Nat→Option Nat} {h:Hp} {pre us:List (Nat×HB)}:∀ {l:List (Option Nat)} {j:Nat},ct τ h pre us j l→∀ (i id:Nat),l[i]?=some (some id)→bV τ h (h (j+i)) (bW (cj pre id) us id)
 | [],j,_,i,id,hi=>by simp at hi
 | x::r,j,hk,i,id,hi=>by
   cases i with
   | zero=>
     simp at hi
     subst hi
     exact hk.1
   | succ i=>
     have hk':ct τ h pre us (j+1) r:=by cases x with | none=>exact hk | some q=>exact hk.2
     have:=Gw hk' i id (by simpa using hi)
     rwa [show j+1+i=j+(i+1) by omega] at this
def cB (sJ:List (Option Nat)) (j:Nat):Option Nat:=(sJ[j]?).getD none
def aQ:List (Option Nat)→Prop
 | []=>True
 | none::r=>aQ r
 | some x::r=>some x∉r∧aQ r
theorem yA:∀ {l:List (Option Nat)},aQ l→∀ (i j id:Nat),l[i]?=some (some id)→l[j]?=some (some id)→i=j
 | [],_,i,j,id,h,_=>by simp at h
 | x::r,hn,i,j,id,h1,h2=>by
   have hn':aQ r:=by cases x with | none=>exact hn | some q=>exact hn.2
   cases i with
   | zero=>
     simp at h1
     subst h1
     cases j with
     | zero=>rfl
     | succ j=>exact absurd (List.mem_of_getElem? (by simpa using h2)) hn.1
   | succ i=>
     cases j with
     | zero=>
       simp at h2
       subst h2
       exact absurd (List.mem_of_getElem? (by simpa using h1)) hn.1
     | succ j=>rw [yA hn' i j id (by simpa using h1) (by simpa using h2)]
def newL (pre us:List (Nat×HB)):List (Option Nat)→Prop
 | []=>True
 | none::r=>newL pre us r
 | some id::r=>id∈us.map (·.1)∧id∉pre.map (·.1)∧newL pre us r
theorem Ho {pre us:List (Nat×HB)}:∀ {l:List (Option Nat)},newL pre us l→∀ (i id:Nat),l[i]?=some (some id)→id∈us.map (·.1)∧id∉pre.map (·.1)
 | [],_,i,id,h=>by simp at h
 | x::r,hn,i,id,h=>by
   have hn':newL pre us r:=by cases x with | none=>exact hn | some q=>exact hn.2.2
   cases i with
   | zero=>simp at h;subst h;exact ⟨hn.1,hn.2.1⟩
   | succ i=>exact Ho hn' i id (by simpa using h)
def cD (sJ:List (Option Nat)):List (Nat×HB)→Prop
 | []=>True
 | (i,_)::r=>some i∈sJ∧cD sJ r
theorem Dp {sJ:List (Option Nat)}:∀ {us:List (Nat×HB)},cD sJ us→∀ q∈us,some q.1∈sJ
 | [],_,q,h=>by simp at h
 | (i,hb)::r,hu,q,h=>by
   rcases List.mem_cons.1 h with rfl | h
   ·exact hu.1
   ·exact Dp hu.2 q h
def cw (σ:List Nat) (pre us:List (Nat×HB)) (rs:List RR) (sv:U) (env:List (Nat×U)) (h:List (Option HB)) (gU:List (Option Nat)):Prop:=
 aQ (σ.map some++gU)∧newL pre us gU∧cD (σ.map some++gU) us∧ct (cB (σ.map some++gU)) (ag h) pre us 0 (σ.map some++gU)∧bH (cB (σ.map some++gU)) (ag h) sv (bF (lk env) (ag h) rs)
theorem EE {σ:List Nat} {pre us:List (Nat×HB)} {rs:List RR} {sv:U} {env:List (Nat×U)} {h:List (Option HB)} {gU:List (Option Nat)} (hr:cw σ pre us rs sv env h gU):Fin σ pre us rs sv env h (cB (σ.map some++gU)):=by
 obtain ⟨h1,h2,h3,h4,h5⟩:=hr
 have xU:∀ j id,cB (σ.map some++gU) j=some id→(σ.map some++gU)[j]?=some (some id):=fun j id hj=>by
  unfold cB at hj
  cases hq:(σ.map some++gU)[j]? with
  | none=>rw [hq] at hj;cases hj
  | some x=>rw [hq] at hj;simp at hj;rw [hj]
 refine ⟨fun i j id hi hj=>yA h1 i j id (xU i id hi) (xU j id hj),fun j id hj=>?_,fun j id hj hl=>?_,fun j id hj=>?_,fun q hq=>?_,?_⟩
 ·unfold cB
  rw [List.getElem?_append_left (by have:=(List.getElem?_eq_some_iff.1 hj).1;simpa using this),List.getElem?_map,hj];rfl
 ·have:=xU j id hj
  rw [List.getElem?_append_right (by simpa using hl)] at this
  obtain ⟨g1,g2⟩:=Ho h2 _ id this
  exact ⟨g1,fun q hq he=>g2 (List.mem_map.2 ⟨q,hq,he⟩)⟩
 ·have:=Gw h4 j id (xU j id hj)
  rw [Nat.zero_add] at this
  obtain ⟨a,b,g1,g2,g3⟩:=this.get
  exact ⟨a,b,g1,g3,fun hp hpre=>La g2 hp hpre⟩
 ·obtain ⟨j,hj,he⟩:=List.mem_iff_getElem.1 (Dp h3 q hq)
  refine ⟨j,?_⟩
  unfold cB
  rw [List.getElem?_eq_getElem hj,he];rfl
 ·unfold bH at h5
  split at h5
  ·rename_i p xs hres;exact ⟨p,xs,hres,h5.1,h5.2⟩
  ·exact h5.elim
def aW (σ:Nat→Option Nat):List U→List U→Prop
 | [],[]=>True
 | x::xs,y::ys=>Bk σ x y∧aW σ xs ys
 | _,_=>False
theorem jA {σ:Nat→Option Nat}:∀ {xs ys:List U},aW σ xs ys↔rq σ xs ys
 | [],[]=>⟨fun _=>⟨rfl,fun i x y hx=>by simp at hx⟩,fun _=>trivial⟩
 | [],_::_=>⟨fun h=>h.elim,fun h=>by simp [rq] at h⟩
 | _::_,[]=>⟨fun h=>h.elim,fun h=>by simp [rq] at h⟩
 | x::xs,y::ys=>by
   unfold aW
   rw [jA (xs:=xs) (ys:=ys)]
   constructor
   ·rintro ⟨h1,h2,h3⟩
    refine ⟨by simp [h2],fun i a b ha hb=>?_⟩
    cases i with
    | zero=>simp at ha hb;subst ha;subst hb;exact h1
    | succ i=>exact h3 i a b (by simpa using ha) (by simpa using hb)
   ·rintro ⟨h2,h3⟩
    exact ⟨h3 0 x y rfl rfl,by simpa using h2,fun i a b ha hb=>h3 (i+1) a b (by simpa using ha) (by simpa using hb)⟩
section
variable {σ:Nat→Option Nat}
theorem bD {r r':RV}:Bk σ (.rv r) (.rv r')↔r=r':=⟨fun hr=>by cases hr;rfl,fun e=>by subst e;exact .rv _⟩
theorem fM {x:U}:Bk σ .dead x↔True:=⟨fun _=>trivial,fun _=>.dead _⟩
theorem eB {i j o o':Nat}:Bk σ (.ptr i o) (.ptr j o')↔σ i=some j∧o=o':=⟨fun hr=>by cases hr with | ptr _ _ _ hj=>exact ⟨hj,rfl⟩,fun ⟨e,e'⟩=>by subst e';exact .ptr _ _ _ e⟩
theorem dP {i j v v' l l':Nat}:Bk σ (.row i v l) (.row j v' l')↔σ i=some j∧v=v'∧l=l':=⟨fun hr=>by cases hr with | row _ _ _ _ hj=>exact ⟨hj,rfl,rfl⟩,fun ⟨e,e',e2⟩=>by subst e';subst e2;exact .row _ _ _ _ e⟩
theorem bS {xs ys:List U}:Bk σ (.agg xs) (.agg ys)↔aW σ xs ys:=by rw [jA];exact ⟨fun hr=>by cases hr with | agg _ _ hl hf=>exact ⟨hl,hf⟩,fun ⟨e,e'⟩=>.agg _ _ e e'⟩
theorem fN {xs ys:List U}:Bk σ (.aR xs) (.aR ys)↔aW σ xs ys:=by rw [jA];exact ⟨fun hr=>by cases hr with | aR _ _ hl hf=>exact ⟨hl,hf⟩,fun ⟨e,e'⟩=>.aR _ _ e e'⟩
theorem bU {f f':FuncId} {xs ys:List U}:Bk σ (.fn f xs) (.fn f' ys)↔f=f'∧aW σ xs ys:=by rw [jA];exact ⟨fun hr=>by cases hr with | fn _ _ _ hl hf=>exact ⟨rfl,hl,hf⟩,fun ⟨e,e',e2⟩=>by subst e;exact .fn _ _ _ e' e2⟩
theorem fC {t t':TypeId} {x y:U}:Bk σ (.aX t x) (.aX t' y)↔t=t'∧Bk σ x y:=⟨fun hr=>by cases hr with | aX _ _ _ hf=>exact ⟨rfl,hf⟩,fun ⟨e,e'⟩=>by subst e;exact .aX _ _ _ e'⟩
theorem dA {rs:List RV}:aW σ (rs.map .rv) (rs.map .rv)↔True:=⟨fun _=>trivial,fun _=>jA.2 ⟨rfl,fun i x y hx hy=>by
 rw [hx] at hy;cases hy
 rw [List.getElem?_map] at hx
 cases hr:rs[i]? with
 | none=>simp [hr] at hx
 | some r=>simp [hr] at hx;subst hx;exact .rv r⟩⟩
end
theorem cz {τ:Nat→Option Nat} {h:Hp} {rs qs:List RV}:cc τ h (rs.map .rv) (qs.map .rv)↔rs=qs:=by
 induction rs generalizing qs with
 | nil=>cases qs <;> simp [cc]
 | cons r rs ih=>cases qs with
   | nil=>simp [cc]
   | cons q qs=>simp [cc,bh,ih]
def cI (σ:Nat→Option Nat):List HB→List HB→Prop
 | [],[]=>True
 | .var xs::r,.var ys::q=>aW σ xs ys∧cI σ r q
 | .row e v xs::r,.row e' v' ys::q=>e=e'∧v=v'∧(xs=ys∧∃ zs,xs=ah zs)∧cI σ r q
 | _,_=>False
theorem cI.get {σ:Nat→Option Nat}:∀ {a b:List HB},cI σ a b→a.length=b.length∧∀ (j:Nat) (x y:HB),a[j]?=some x→b[j]?=some y→jW σ x y
 | [],[],_=>⟨rfl,fun j x y hx=>by simp at hx⟩
 | .var xs::r,.var ys::q,h=>by
   obtain ⟨g1,g2⟩:=cI.get h.2
   refine ⟨by simp [g1],fun j x y hx hy=>?_⟩
   cases j with
   | zero=>simp at hx hy;subst hx;subst hy;exact .var _ _ (jA.1 h.1)
   | succ j=>exact g2 j x y (by simpa using hx) (by simpa using hy)
 | .row e v xs::r,.row e' v' ys::q,h=>by
   obtain ⟨rfl,rfl,⟨rfl,zs,rfl⟩,h4⟩:=h
   obtain ⟨g1,g2⟩:=cI.get h4
   refine ⟨by simp [g1],fun j x y hx hy=>?_⟩
   cases j with
   | zero=>
     simp at hx hy;subst hx;subst hy
     refine .row _ _ _ _ rfl (fun i x y hx hy=>?_)
     rw [hx] at hy;cases hy
     unfold ah at hx
     rw [List.getElem?_map] at hx
     cases hq:zs[i]? with
     | none=>simp [hq] at hx
     | some z=>simp [hq] at hx;subst hx;exact jA.1 (dA.2 trivial)
   | succ j=>exact g2 j x y (by simpa using hx) (by simpa using hy)
 | [],_::_,h=>h.elim
 | .var _::_,[],h=>h.elim
 | .row .. :: _,[],h=>h.elim
 | .var _::_,.row .. :: _,h=>h.elim
 | .row .. :: _,.var _::_,h=>h.elim
theorem eY {P:Program} {f:FuncId} {N:Nat} {ac:AC} {rs:List RR} (H:bC P f N ac rs) (σ:List Nat) (kk jk:List HB) (gf args:List U) (us:List (Nat×HB)) (sv:U) (hN:args.length≤N) (hA:aW (fun j=>σ[j]?) gf args) (hl:kk.length=σ.length) (xS:aQ (σ.map some)) (hB:cI (fun j=>σ[j]?) kk jk)
 (hrun:∀ K:Ex→St→Prop,(∀ env h env' h' gU,cV σ.length ⟨env,h⟩ ⟨env',h'⟩→cw σ (σ.zip jk) us rs sv env' h' gU→K .normal ⟨env,h⟩∧K .ret ⟨env,h⟩)→G P σ.length [.c ac] K (kD 0 gf) (kk.map some)):aP P f args (σ.zip jk) us sv:=by
 obtain ⟨g1,g2⟩:=hB.get
 refine wP H σ (kk.map some) gf hN (jA.1 hA) (by simpa using hl) (fun i j id h1 h2=>yA xS i j id (by simp [h1]) (by simp [h2])) (fun j id hj=>?_) (fun K hK=>hrun K (fun env h env' h' gU hE hr=>hK env h env' h' _ hE (EE hr)))
 have hlt:=(List.getElem?_eq_some_iff.1 hj).1
 have h1:=List.getElem?_eq_getElem (l:=kk) (i:=j) (by omega)
 have h2:=List.getElem?_eq_getElem (l:=jk) (i:=j) (by omega)
 refine ⟨_,_,by rw [List.getElem?_map,h1];rfl,?_,g2 j _ _ h1 h2⟩
 have hz:(σ.zip jk)[j]?=some (id,jk[j]'(by omega)):=by
  rw [List.getElem?_zip_eq_some];exact ⟨hj,h2⟩
 exact List.mem_of_getElem? hz
theorem cU {x:Option HB} {r:List (Option HB)}:ag (x::r) 0=x:=rfl
theorem cT {x:Option HB} {r:List (Option HB)} {n:Nat}:ag (x::r) (n+1)=ag r n:=rfl
theorem LY {P:Program} {n0:Nat} {k:List It} {K:Ex→St→Prop} {env:List (Nat×U)} {h:List (Option HB)} {id:Nat} {a:List Nat} {b:List TE} {c:List bg}:GX P n0 id (.d a b c::k) K env h=GX P n0 id k K env h:=rfl
theorem Ta {α:Type} {o:Nat} {x l:List α}:splice l o x=l.take o++x++l.drop (o+x.length):=rfl
def sL (τ:Nat→Option Nat) (h:Hp):List U→List RV→Prop
 | [],[]=>True
 | x::xs,r::rs=>Fz τ h x r∧sL τ h xs rs
 | _,_=>False
theorem sL.get {τ:Nat→Option Nat} {h:Hp}:∀ {xs:List U} {rs:List RV},sL τ h xs rs→xs.length=rs.length∧∀ (j:Nat) (x:U) (r:RV),xs[j]?=some x→rs[j]?=some r→Fz τ h x r
 | [],[],_=>⟨rfl,fun j x r hx=>by simp at hx⟩
 | x::xs,r::rs,hf=>by
   obtain ⟨g1,g2⟩:=sL.get hf.2
   refine ⟨by simp [g1],fun j y q hy hq=>?_⟩
   cases j with
   | zero=>simp at hy hq;subst hy;subst hq;exact hf.1
   | succ j=>exact g2 j y q (by simpa using hy) (by simpa using hq)
 | [],_::_,h=>h.elim
 | _::_,[],h=>h.elim
theorem xz {τ:Nat→Option Nat} {h:Hp} {j e af len:Nat} {xs:List (List RV)} (hj:h j=some (.row e af (ah xs))) (gE:τ j=none) (hl:len≤xs.length) (h1:∀ x∈xs,∀ r∈x,r.one=true):Fz τ h (.row j af len) (.sl e (xs.take len)):=by
 have at_:∀ (i:Nat) (x:List U) (r:List RV),(ah xs)[i]?=some x→(xs.take len)[i]?=some r→x=r.map .rv∧r∈xs:=fun i x r hx hr=>by
  have h1:=List.mem_of_mem_take (List.mem_of_getElem? hr)
  have hlt:=(List.getElem?_eq_some_iff.1 hr).1
  rw [List.getElem?_take,if_pos (by simp at hlt;omega)] at hr
  unfold ah at hx
  rw [List.getElem?_map,hr] at hx
  simp at hx
  exact ⟨hx.symm,h1⟩
 refine .row j e af len (ah xs) (xs.take len) gE hj (by simp;omega) (by rw [aF];exact hl) (fun i x r hx hr=>?_) (fun i r k q hr hq=>?_) (fun i x r k y q hx hr hy hq=>?_)
 ·rw [(at_ i x r hx hr).1];simp
 ·exact h1 r (List.mem_of_mem_take (List.mem_of_getElem? hr)) q (List.mem_of_getElem? hq)
 ·rw [(at_ i x r hx hr).1,List.getElem?_map,hq] at hy
  simp at hy
  subst hy
  exact .rv q
theorem zK {P:Program} {f:FuncId} {rs:List RV} {args:List U} {pre us:List (Nat×HB)} {sv:U} (H:aP P f (rs.map .rv) [] us sv)
 (hz:∀ hp,aV hp pre→sL (fun _=>none) hp args rs) (hl:args.length=rs.length) (hfl:fK sv) (gD:∀ q∈us,oZ q.2∧∀ p∈pre,p.1≠q.1):aP P f args pre us sv:=
 Kd H hl (fun hp hpre j y r hy hr=>(hz hp hpre).get.2 j y r hy hr) hfl gD
theorem bR.EO {C:Ctx} {hp:Hp} {w:World} {aa:Nat→Option Nat} (R:bR C hp w aa) {i0 m o:Nat} {cs:List U} (e:Nat) (hi:hp i0=some (.var cs)) (ho:cs[o]?=some (.rv .bZ)) (hm:hp m=none) (hm0:C.h0 m=none) :
 ∃ aD,Step C hp (up (up hp m (some (.row e 0 []))) i0 (some (.var (cs.set o (.row m 0 0))))) w w aa aD:=by
 have S:=R.ghost m e 0 (.inl ⟨hm,hm0⟩)
 have hne:i0≠m:=fun h=>by subst h;rw [hm] at hi;cases hi
 have hi':(up hp m (some (.row e 0 []))) i0=some (.var cs):=by rw [dg _ _ hne];exact hi
 rcases S.mem.heap i0 _ hi' with ⟨_,e',af,hc⟩ | ⟨b,cur,t,h1,h2,h3⟩
 ·cases hc
 ·have S2:=S.mem.replace i0 (.var (cs.set o (.row m 0 0))) b cur t rfl rfl rfl (Nat.le_refl _) h2 (fun k _ _=>rfl) (.inl ⟨by rw [hi'];rfl,h1⟩) (fun hb hq=>by rw [hi'] at hq;cases hq;exact h1.symm) (fun hq=>by rw [hi'] at hq;cases hq) ⟨by rw [List.length_set];exact h3.1,fun j y hy=>by
   rw [List.getElem?_set] at hy
   split at hy
   ·rename_i hj
    subst hj
    split at hy
    ·cases hy
     obtain ⟨v,v1,v2,v3⟩:=h3.2 _ _ ho
     refine ⟨v,v1,v2,?_⟩
     cases v3 with
     | rv _ _ hr=>
       cases hr
       exact .row _ _ _ _ rfl (by rw [bX];rfl) (fun e dh xs hx=>by rw [bX] at hx;cases hx;exact Nat.le_refl _) (fun e xs hx=>.inl ⟨bX _ _ _,rfl,rfl⟩)
    ·cases hy
   ·exact h3.2 j y hy⟩
  exact ⟨_,S.trans S2 (Nat.le_refl _)⟩
theorem DG {P:Program} {f:FuncId} {args:List U} {pre us:List (Nat×HB)} {sv:U} {i0 m e o:Nat} {cs:List U} (ho:cs[o]?=some (.rv .bZ)) (hm:∀ q∈pre,q.1≠m∧q.1≠i0) (hne:m≠i0) (h1:i0∈us.map (·.1)) (h2:m∈us.map (·.1))
 (H:aP P f args ((i0,.var (cs.set o (.row m 0 0)))::(m,.row e 0 [])::pre) us sv):aP P f args ((i0,.var cs)::pre) us sv:=by
 refine ⟨H.1,fun C hp w aa vs hpre hnew R hvl hvs=>?_⟩
 have hi:hp i0=some (.var cs):=hpre (i0,.var cs) (by simp)
 obtain ⟨hmn,hm0⟩:hp m=none∧C.h0 m=none:=by
  obtain ⟨q,hq,rfl⟩:=List.mem_map.1 h2
  rcases hnew q hq with ⟨hb,hmem⟩ | h
  ·rcases List.mem_cons.1 hmem with he | hmem
   ·cases he;exact absurd rfl hne
   ·exact absurd rfl (hm _ hmem).1
  ·exact h
 obtain ⟨yQ,S⟩:=R.EO e hi ho hmn hm0
 have hE:∀ id,id≠m→id≠i0→(up (up hp m (some (.row e 0 []))) i0 (some (.var (cs.set o (.row m 0 0))))) id=hp id:=fun id a b=>by rw [dg _ _ b,dg _ _ a]
 have Nx:bI (up (up hp m (some (.row e 0 []))) i0 (some (.var (cs.set o (.row m 0 0))))) us=bI hp us:=by
  funext id
  by_cases hid:id∈us.map (·.1)
  ·exact wo hid
  ·rw [zn hid,zn hid,hE id (fun h=>hid (h▸h2)) (fun h=>hid (h▸h1))]
 refine (H.2 C _ w yQ vs (fun q hq=>?_) (fun q hq=>?_) S.mem hvl (fun j s hj=>(hvs j s hj).mono S.gi)).mono ?_
 ·rcases List.mem_cons.1 hq with rfl | hq
  ·exact bX _ _ _
  ·rcases List.mem_cons.1 hq with rfl | hq
   ·show (up (up hp m _) i0 _) m=_
    rw [dg _ _ hne,bX]
   ·rw [hE _ (hm q hq).1 (hm q hq).2];exact hpre q (by simp [hq])
 ·rcases hnew q hq with ⟨hb,hmem⟩ | ⟨a,b⟩
  ·rcases List.mem_cons.1 hmem with he | hmem
   ·exact .inl ⟨_,by rw [(Prod.mk.inj he).1];exact .head _⟩
   ·exact .inl ⟨hb,by simp [hmem]⟩
  ·by_cases FI:q.1=m
   ·exact .inl ⟨.row e 0 [],by rw [FI];simp⟩
   ·refine .inr ⟨?_,b⟩
    rw [hE _ FI (fun h=>by rw [h,hi] at a;cases a)];exact a
 ·rintro e' w' ⟨v,aD,rfl,S2,hR⟩
  rw [Nx] at S2 hR
  exact ⟨v,aD,rfl,S.trans S2 (Nat.le_refl _),hR⟩
theorem JW:(true != true)=false:=rfl
theorem JV:(true != false)=true:=rfl
theorem JU:(false != true)=true:=rfl
theorem JT:(false != false)=false:=rfl
end Go.ay

namespace Go.ay
open Go
def eF (k j:Nat):Option Nat:=if j<k then some j else none
def pW (τ:Nat→Option Nat) (h:Hp):Nat→List (Option HB)→Prop
 | _,[]=>True
 | _,none::_=>False
 | j,some hb::r=>bV τ h (h j) (some hb)∧pW τ h (j+1) r
theorem Gv {τ:Nat→Option Nat} {h:Hp}:∀ {l:List (Option HB)} {j:Nat},pW τ h j l→∀ i,i<l.length→∃ hb hb',l[i]?=some (some hb')∧h (j+i)=some hb∧iD τ h hb hb'
 | [],j,_,i,hi=>by simp at hi
 | none::_,j,hk,i,hi=>hk.elim
 | some x::r,j,hk,i,hi=>by
   cases i with
   | zero=>
     obtain ⟨a,b,g1,g2,g3⟩:=hk.1.get
     cases g2
     exact ⟨a,x,rfl,g1,g3⟩
   | succ i=>
     obtain ⟨a,b,g1,g2,g3⟩:=Gv hk.2 i (by simpa using hi)
     exact ⟨a,b,by simpa using g1,by rwa [show j+(i+1)=j+1+i by omega],g3⟩
theorem sZ {n0:Nat} {env env':List (Nat×U)} {h:List (Option HB)} (h':List (Option HB)) (hn:n0≤h'.length) (hk:pW (eF h'.length) (ag h) 0 h')
 (he:∀ p∈env',Rn (eF h'.length) (ag h) (lk env p.1) p.2):cV n0 ⟨env,h⟩ ⟨env',h'⟩:=by
 refine Et (eF h'.length) hn (fun j i hj=>?_) (fun j hj=>?_) (fun j=>?_) (vO (fun x=>.dead x) he)
 ·unfold eF at hj;split at hj <;> cases hj;rfl
 ·unfold eF at hj;split at hj
  ·cases hj
  ·omega
 ·by_cases hj:j<h'.length
  ·obtain ⟨hb,hb',g1,g2,g3⟩:=Gv hk j hj
   rw [Nat.zero_add] at g2
   exact .inl ⟨hb,hb',by simp [eF,hj],g2,qA.2 g1,g3⟩
  ·refine .inr ⟨?_,.inl (by simp [eF,hj])⟩
   unfold ag
   rw [List.getElem?_eq_none (by omega)]
theorem Cs {τ:Nat→Option Nat} {h:Hp} {j e af len:Nat} {xs:List (List RV)} (hj:h j=some (.row e af (ah xs))) (gE:τ j=none) (hl:len=xs.length) (h1:∀ x∈xs,∀ r∈x,r.one=true):Rn τ h (.row j af len) (.rv (.sl e xs)):=by
 have:=xz (τ:=τ) hj gE (len:=len) (by omega) h1
 rw [hl,List.take_length] at this
 rw [hl];exact .fz _ _ this
theorem RO.RZ {w:World} {ok:Nat→Prop} {e:Nat} {v:Value} (h:RO w ok (.sl e []) v):RO w ok .bZ v∨RO w ok .jP v:=by
 cases h with
 | sl _ _ a cap c h0 hc hm he hr h1 hy=>
   cases a with
   | none=>have:=(h0 rfl).2;subst this;exact .inl .bZ
   | some a=>exact .inr (.jP a cap hm)
theorem Kg {P:Program} {f:FuncId} {e:Nat} {iE bs:List U} {pre us:List (Nat×HB)} {sv:U} (h1:aP P f (iE ++ .rv .bZ::bs) pre us sv) (h2:aP P f (iE ++ .rv .jP::bs) pre us sv):aP P f (iE ++ .rv (.sl e [])::bs) pre us sv:=by
 refine ⟨h1.1,fun C hp w aa vs hpre hnew R hvl hvs=>?_⟩
 have hj:=hvs iE.length (.rv (.sl e [])) (by simp)
 have key:∀ r:RV,RO w (aB C aa hp) r (vs.getD iE.length undef)→∀ (j:Nat) (s:U),(iE ++ .rv r::bs)[j]?=some s→Rp w (aB C aa hp) aa hp s (vs.getD j undef):=fun r hr j s hs=>by
  by_cases he:j=iE.length
  ·subst he
   simp at hs
   subst hs
   exact .rv _ _ hr
  ·refine hvs j s ?_
   by_cases hlt:j<iE.length
   ·rw [List.getElem?_append_left hlt] at hs ⊢;exact hs
   ·rw [List.getElem?_append_right (by omega)] at hs ⊢
    obtain ⟨k,hk⟩:∃ k,j - iE.length=k+1:=⟨j - iE.length - 1,by omega⟩
    rw [hk,List.getElem?_cons_succ] at hs ⊢
    exact hs
 cases hj with
 | rv _ _ hr=>
   rcases RO.RZ hr with hr | hr
   ·exact h1.2 C hp w aa vs hpre hnew R (by simpa using hvl) (key _ hr)
   ·exact h2.2 C hp w aa vs hpre hnew R (by simpa using hvl) (key _ hr)
end Go.ay

namespace Go.ay
open Go
section
variable {P:Program} {n0:Nat} {k:List It} {K:Ex→St→Prop} {env:List (Nat×U)} {h:List (Option HB)}
theorem Ki {a b:AC}:bw P n0 a b k K env h (.rv (.bool true))=G P n0 (.c a::k) K env h:=rfl
theorem Kh {a b:AC}:bw P n0 a b k K env h (.rv (.bool false))=G P n0 (.c b::k) K env h:=rfl
theorem ak {a b:AC} {t:Bool} (h1:t=true→G P n0 (.c a::k) K env h) (h2:t=false→G P n0 (.c b::k) K env h):bw P n0 a b k K env h (.rv (.bool t)):=by
 cases t
 ·exact h2 rfl
 ·exact h1 rfl
section
variable {ao:AO} {xs:List XO} {dst:Option Nat} {r:List bg} {aO:List Nat} {acc:List TE} {cv:List Nat}
theorem LL:br P n0 true ao xs dst r k K env h (.rv (.bool true))=sq P n0 ao (xs.map (fu (lk env))) dst r k K env h:=rfl
theorem LK:br P n0 true ao xs dst r k K env h (.rv (.bool false))=G P n0 (.o r::k) K (cZ dst (.aR []) env) h:=rfl
theorem LJ:br P n0 false ao xs dst r k K env h (.rv (.bool true))=G P n0 (.o r::k) K (cZ dst (.aR []) env) h:=rfl
theorem LI:br P n0 false ao xs dst r k K env h (.rv (.bool false))=sq P n0 ao (xs.map (fu (lk env))) dst r k K env h:=rfl
theorem LM {b:Bool}:br P n0 b ao xs dst r k K env h (.aR [])=G P n0 (.o r::k) K (cZ dst (.aR []) env) h:=rfl
theorem LR {b:Bool}:bt P n0 aO acc cv b ao xs dst r k K env h (.aR [])=G P n0 (.d aO (acc++[⟨cv,dst,[],[]⟩]) r::k) K (cZ dst (.aR []) env) h:=rfl
theorem aI {b t:Bool} (h1:t=b→sq P n0 ao (xs.map (fu (lk env))) dst r k K env h) (h2:t = !b→G P n0 (.o r::k) K (cZ dst (.aR []) env) h):br P n0 b ao xs dst r k K env h (.rv (.bool t)):=by
 cases t <;> cases b <;> first | exact h1 rfl | exact h2 rfl
theorem LQ:bt P n0 aO acc cv true ao xs dst r k K env h (.rv (.bool true))=sr P n0 aO acc cv ao (xs.map (fu (lk env))) dst r k K env h:=rfl
theorem LP:bt P n0 aO acc cv true ao xs dst r k K env h (.rv (.bool false))=G P n0 (.d aO (acc++[⟨cv,dst,[],[]⟩]) r::k) K (cZ dst (.aR []) env) h:=rfl
theorem LO:bt P n0 aO acc cv false ao xs dst r k K env h (.rv (.bool true))=G P n0 (.d aO (acc++[⟨cv,dst,[],[]⟩]) r::k) K (cZ dst (.aR []) env) h:=rfl
theorem LN:bt P n0 aO acc cv false ao xs dst r k K env h (.rv (.bool false))=sr P n0 aO acc cv ao (xs.map (fu (lk env))) dst r k K env h:=rfl
theorem aJ {b t:Bool} (h1:t=b→sr P n0 aO acc cv ao (xs.map (fu (lk env))) dst r k K env h) (h2:t = !b→G P n0 (.d aO (acc++[⟨cv,dst,[],[]⟩]) r::k) K (cZ dst (.aR []) env) h):bt P n0 aO acc cv b ao xs dst r k K env h (.rv (.bool t)):=by
 cases t <;> cases b <;> first | exact h1 rfl | exact h2 rfl
end
end
theorem Ra {x y:U}:bu [.rv (.bool true),x,y]=some (True,x,none,[]):=rfl
theorem QZ {x y:U}:bu [.rv (.bool false),x,y]=some (True,y,none,[]):=rfl
theorem gz {x y:Int}:(x == y)=decide (x=y):=rfl
theorem Jn {m:Int} (h1:0≤m) (h2:m≤4611686018427387904):IntKind.i64.wrap (0 - m) = -m:=by rw [wrap_i64 (by omega) (by omega)];omega
theorem DF {P:Program} {f:FuncId} {N:Nat} {ac:AC} {rs:List RR} (H:bC P f N ac rs) (σ:List Nat) (kk jk:List HB) (gf args:List U) (us:List (Nat×HB)) (sv:U) (hN:args.length≤N) (hA:aW (fun j=>σ[j]?) gf args) (hl:kk.length=σ.length) (xS:aQ (σ.map some)) (g1:kk.length=jk.length)
 (g2:∀ (j:Nat) (x y:HB),kk[j]?=some x→jk[j]?=some y→jW (fun j=>σ[j]?) x y)
 (hrun:∀ K:Ex→St→Prop,(∀ env h env' h' gU,cV σ.length ⟨env,h⟩ ⟨env',h'⟩→cw σ (σ.zip jk) us rs sv env' h' gU→K .normal ⟨env,h⟩∧K .ret ⟨env,h⟩)→G P σ.length [.c ac] K (kD 0 gf) (kk.map some)):aP P f args (σ.zip jk) us sv:=by
 refine wP H σ (kk.map some) gf hN (jA.1 hA) (by simpa using hl) (fun i j id h1 h2=>yA xS i j id (by simp [h1]) (by simp [h2])) (fun j id hj=>?_) (fun K hK=>hrun K (fun env h env' h' gU hE hr=>hK env h env' h' _ hE (EE hr)))
 have hlt:=(List.getElem?_eq_some_iff.1 hj).1
 have h1:=List.getElem?_eq_getElem (l:=kk) (i:=j) (by omega)
 have h2:=List.getElem?_eq_getElem (l:=jk) (i:=j) (by omega)
 refine ⟨_,_,by rw [List.getElem?_map,h1];rfl,?_,g2 j _ _ h1 h2⟩
 have hz:(σ.zip jk)[j]?=some (id,jk[j]'(by omega)):=by
  rw [List.getElem?_zip_eq_some];exact ⟨hj,h2⟩
 exact List.mem_of_getElem? hz
theorem Kf {P:Program} {f:FuncId} {args:List U} {pre pre' us:List (Nat×HB)} {sv:U} (h:aP P f args pre us sv) (hp:∀ q,q∈pre↔q∈pre'):aP P f args pre' us sv:=
 ⟨h.1,fun C gl w aa vs a b c d e=>h.2 C gl w aa vs (fun q hq=>a q ((hp q).1 hq)) (fun q hq=>(b q hq).imp (fun ⟨hb,hm⟩=>⟨hb,(hp _).2 hm⟩) id) c d e⟩
def ee (i:Nat) (os:List Nat):List (List U):=os.map fun o=>[.ptr i o]
theorem HK {i:Nat} {os:List Nat}:(ee i os).length=os.length:=by simp [ee]
theorem yR {τ:Nat→Option Nat} {h:Hp} {i j:Nat} {os:List Nat} (gE:τ i=some j):zA τ h (ee i os) (ee j os):=by
 refine ⟨by simp [ee],fun k x y hx hy=>?_⟩
 unfold ee at hx hy
 rw [List.getElem?_map] at hx hy
 cases hk:os[k]? with
 | none=>simp [hk] at hx
 | some o=>
   simp [hk] at hx hy
   subst hx;subst hy
   exact qQ.1 ⟨.ptr _ _ _ gE,trivial⟩
theorem JR {σ:Nat→Option Nat} {i j e v:Nat} {os:List Nat} (iS:σ i=some j):jW σ (.row e v (ee i os)) (.row e v (ee j os)):=by
 refine .row _ _ _ _ (by simp [ee]) (fun k x y hx hy=>?_)
 unfold ee at hx hy
 rw [List.getElem?_map] at hx hy
 cases hk:os[k]? with
 | none=>simp [hk] at hx
 | some o=>
   simp [hk] at hx hy
   subst hx;subst hy
   exact jA.1 ⟨.ptr _ _ _ iS,trivial⟩
theorem Dy {σ:Nat→Option Nat} {rs:List RV}:jW σ (.var (rs.map .rv)) (.var (rs.map .rv)):=.var _ _ (jA.1 (dA.2 trivial))
theorem JS {σ:Nat→Option Nat} {xs ys:List U} (h:aW σ xs ys):jW σ (.var xs) (.var ys):=.var _ _ (jA.1 h)
theorem JA {p:Nat→HB→HB→Prop} {a a' b b' c c':HB} (h0:p 0 a a') (h1:p 1 b b') (h2:p 2 c c'):∀ (j:Nat) (x y:HB),[a,b,c][j]?=some x→[a',b',c'][j]?=some y→p j x y:=by
 intro j x y hx hy
 match j with
 | 0=>simp at hx hy;subst hx;subst hy;exact h0
 | 1=>simp at hx hy;subst hx;subst hy;exact h1
 | 2=>simp at hx hy;subst hx;subst hy;exact h2
 | j+3=>simp at hx
theorem dK {P:Program} {f:FuncId} {N:Nat} {ac:AC} {rs:List RR} (H:bC P f N ac rs) (args:List U) (sv:U) (hN:args.length≤N) (hA:aW (fun j=>([]:List Nat)[j]?) args args)
 (hrun:∀ K:Ex→St→Prop,(∀ env h,bH (fun _=>none) (ag h) sv (bF (lk env) (ag h) rs)→K .normal ⟨env,h⟩∧K .ret ⟨env,h⟩)→G P 0 [.c ac] K (kD 0 args) []):aP P f args [] [] sv:=by
 refine wP H [] [] args hN (jA.1 hA) rfl (by simp) (by simp) (fun K hK=>hrun K (fun env h hr=>?_))
 unfold bH at hr
 split at hr
 ·rename_i p xs hres
  exact hK env h env h (fun _=>none) (cK _ _) ⟨by simp,by simp,by simp,by simp,by simp,p,xs,hres,hr.1,hr.2⟩
 ·exact hr.elim
theorem cm {τ:Nat→Option Nat} {h:Hp} {env:List (Nat×U)} {n:Nat} {r:RV} (hl:lk env n = .rv r):bH τ h (.rv r) (bF (lk env) h [.t n]):=by
 simp [bF,bH,bO,hl,bh]
theorem HO {τ:Nat→Option Nat} {h:Hp} {env:List (Nat×U)} {n m:Nat} {r q:RV} (hl:lk env n = .rv r) (hm:lk env m = .rv q):bH τ h (.aR [.rv r,.rv q]) (bF (lk env) h [.t n,.t m]):=by
 simp [bF,bH,bO,hl,hm,bh,cO,cc]
theorem EM {τ:Nat→Option Nat} {h:Hp}:∀ (bs:List RV),sL τ h (bs.map .rv) bs
 | []=>trivial
 | b::bs=>⟨.rv b,EM bs⟩
theorem GH {P:Program} {f:FuncId} {e id v n:Nat} {xs:List (List RV)} {bs:List RV} {r:RV} (H:aP P f (.rv (.sl e xs)::bs.map .rv) [] [] (.rv r)) (hf:fZ r) (hn:n=xs.length) (h1:∀ x∈xs,∀ r∈x,r.one=true) :
 aP P f (.row id v n::bs.map .rv) [(id,.row e v (ah xs))] [] (.rv r):=by
 refine zK (rs:=.sl e xs::bs) H (fun hp hpre=>⟨?_,?_⟩) (by simp) (.rv _ hf) (by simp)
 ·have:=xz (h:=hp) (τ:=fun _=>none) (j:=id) (e:=e) (af:=v) (len:=n) (xs:=xs) (hpre _ (.head _)) rfl (by omega) h1
  rwa [hn,List.take_length,← hn] at this
 ·exact EM bs
end Go.ay

namespace Go.ay
open Go
theorem xj {n0:Nat} {env:List (Nat×U)} {h:List (Option HB)} (n e v:Nat) (hn:lk env n = .rv .bZ):cV n0 ⟨env,h⟩ ⟨(n,.row h.length v 0)::env,h++[some (.row e v [])]⟩:=by
 intro C a w R
 obtain ⟨⟨aa,RF⟩,h1,h0⟩:=R
 have hnone:ag h h.length=none:=by unfold ag;rw [List.getElem?_eq_none (Nat.le_refl _)]
 have uQ:C.h0 h.length=none:=h0 _ h1
 have S:=RF.mem.ghost h.length e v (.inl ⟨hnone,uQ⟩)
 have iC:=RF.step S
 have hh:ag (h++[some (.row e v [])])=up (ag h) h.length (some (.row e v [])):=by
  have:=xL (h:=h) (q:=(h.length,.row e v [])) (Nat.le_refl _)
  rw [← this]
  unfold aY;rw [if_pos rfl]
 have hv:=RF.env n
 rw [hn] at hv
 refine ⟨⟨up aa h.length none,?_,fun m=>?_,iC.size,iC.defers⟩,?_,h0⟩
 ·show bR C (ag (h++[some (.row e v [])])) w (up aa h.length none)
  rw [hh];exact iC.mem
 ·show Rp w (aB C (up aa h.length none) (ag (h++[some (.row e v [])]))) (up aa h.length none) (ag (h++[some (.row e v [])])) (lk ((n,.row h.length v 0)::env) m) _
  rw [hh,vP]
  by_cases hm:m=n
  ·subst hm
   rw [bX]
   cases hv with
   | rv _ _ hr=>
     generalize a.tmps.getD m undef=v at hr
     cases hr
     refine .row _ _ _ _ rfl (by rw [bX];rfl) (fun e dh xs hx=>by rw [bX] at hx;cases hx;exact Nat.le_refl _) (fun e xs hx=>.inl ⟨bX _ _ _,rfl,rfl⟩)
  ·rw [dg _ _ hm];exact iC.env m
 ·show n0≤(h++[some (HB.row e v [])]).length
  have Mf:n0≤h.length:=h1
  simp;omega
theorem bR.LS {C:Ctx} {hp:Hp} {w:World} {aa:Nat→Option Nat} (R:bR C hp w aa) {i0 m k v:Nat} {xs:List (List U)} (e:Nat) (hi:hp i0=some (.row 1 v xs)) (ho:xs[k]?=some [.rv .bZ]) (hm:hp m=none) (hm0:C.h0 m=none) :
 ∃ aD,Step C hp (up (up hp m (some (.row e 0 []))) i0 (some (.row 1 v (xs.set k [.row m 0 0])))) w w aa aD:=by
 have S:=R.ghost m e 0 (.inl ⟨hm,hm0⟩)
 have hne:i0≠m:=fun h=>by subst h;rw [hm] at hi;cases hi
 have hi':(up hp m (some (.row e 0 []))) i0=some (.row 1 v xs):=by rw [dg _ _ hne];exact hi
 rcases S.mem.heap i0 _ hi' with ⟨_,e',af,hc⟩ | ⟨b,cur,t,h1,h2,h3⟩
 ·cases hc;simp at ho
 ·have S2:=S.mem.replace i0 (.row 1 v (xs.set k [.row m 0 0])) b cur t rfl rfl rfl (Nat.le_refl _) h2 (fun k _ _=>rfl) (.inl ⟨by rw [hi'];rfl,h1⟩) (fun hb hq=>by
   rw [hi'] at hq;cases hq
   exact ⟨Nat.le_refl _,fun _=>⟨rfl,h1.symm,fun b' _ cur t hc=>⟨cur,t,hc,rfl⟩⟩⟩) (fun hq=>by rw [hi'] at hq;cases hq) ⟨fun x hx=>by
   rcases List.mem_or_eq_of_mem_set hx with h | h
   ·exact h3.1 x h
   ·rw [h];rfl,by rw [List.length_set];exact h3.2.1,fun i x hx=>by
   rw [List.getElem?_set] at hx
   split at hx
   ·rename_i hik
    subst hik
    split at hx
    ·cases hx
     intro j y hy
     cases j with
     | succ j=>simp at hy
     | zero=>
       simp at hy
       subst hy
       obtain ⟨u,v1,v2,v3⟩:=h3.2.2 _ _ ho 0 _ rfl
       refine ⟨u,v1,v2,?_⟩
       cases v3 with
       | rv _ _ hr=>
         cases hr
         exact .row _ _ _ _ rfl (by rw [bX];rfl) (fun e dh xs hx=>by rw [bX] at hx;cases hx;exact Nat.le_refl _) (fun e xs hx=>.inl ⟨bX _ _ _,rfl,rfl⟩)
    ·cases hx
   ·exact h3.2.2 i x hx⟩
  exact ⟨_,S.trans S2 (Nat.le_refl _)⟩
def eg (n:Nat) (e:Nat):List (Option HB):=List.replicate n (some (.row e 0 []))
def dS (b n k:Nat):List (List U):=(List.range n).map fun p=>if p<k then [.row (b+p) 0 0] else [.rv .bZ]
theorem KR {n0:Nat} {env:List (Nat×U)} {h:List (Option HB)} {r v n e k:Nat} (hr:h[r]?=some (some (.row 1 v (dS h.length n k)))) (hk:k<n) :
 cV n0 ⟨env,h++eg k e⟩ ⟨env,(h.set r (some (.row 1 v (dS h.length n (k+1)))))++eg (k+1) e⟩:=by
 intro C a w R
 obtain ⟨⟨aa,RF⟩,h1,h0⟩:=R
 have hrl:r<h.length:=(List.getElem?_eq_some_iff.1 hr).1
 have hlen:(h++eg k e).length=h.length+k:=by simp [eg]
 have hnone:ag (h++eg k e) (h.length+k)=none:=by unfold ag;rw [List.getElem?_eq_none (by rw [hlen];exact Nat.le_refl _)]
 have uQ:C.h0 (h.length+k)=none:=h0 _ (by have:n0≤(h++eg k e).length:=h1;omega)
 have hi:ag (h++eg k e) r=some (.row 1 v (dS h.length n k)):=by
  unfold ag;rw [List.getElem?_append_left hrl,hr]
 have ho:(dS h.length n k)[k]?=some [.rv .bZ]:=by simp [dS,hk]
 have M:bR C (ag (h++eg k e)) w aa:=RF.mem
 obtain ⟨aD,S⟩:=M.LS e hi ho hnone uQ
 have rZ:(dS h.length n k).set k [.row (h.length+k) 0 0]=dS h.length n (k+1):=by
  refine List.ext_getElem (by simp [dS]) (fun i a1 a2=>?_)
  simp only [List.getElem_set,dS,List.getElem_map,List.getElem_range]
  by_cases hik:k=i
  ·subst hik;simp
  ·rw [if_neg hik]
   by_cases hlt:i<k
   ·rw [if_pos hlt,if_pos (by omega)]
   ·rw [if_neg hlt,if_neg (by omega)]
 have hh:ag ((h.set r (some (.row 1 v (dS h.length n (k+1)))))++eg (k+1) e)=up (up (ag (h++eg k e)) (h.length+k) (some (.row e 0 []))) r (some (.row 1 v ((dS h.length n k).set k [.row (h.length+k) 0 0]))):=by
  rw [rZ]
  funext j
  unfold ag up
  by_cases hj:j=r
  ·subst hj
   rw [if_pos rfl,List.getElem?_append_left (by simpa using hrl),List.getElem?_set]
   simp [hrl]
  ·rw [if_neg hj]
   by_cases tn:j=h.length+k
   ·subst tn
    rw [if_pos rfl,List.getElem?_append_right (by simp)]
    simp [eg]
   ·rw [if_neg tn]
    dsimp only
    by_cases hjl:j<h.length
    ·rw [List.getElem?_append_left (by simpa using hjl),List.getElem?_append_left hjl,List.getElem?_set_ne (Ne.symm hj)]
    ·rw [List.getElem?_append_right (by simp;omega),List.getElem?_append_right (by omega)]
     simp only [List.length_set,eg,List.getElem?_replicate]
     by_cases Fv:j - h.length<k
     ·rw [if_pos (by omega),if_pos Fv]
     ·rw [if_neg (by omega),if_neg Fv]
 have iC:=RF.step S
 refine ⟨⟨aD,?_,fun m=>?_,iC.size,iC.defers⟩,?_,h0⟩
 ·show bR C (ag _) w aD
  rw [hh];exact iC.mem
 ·show Rp w (aB C aD (ag _)) aD (ag _) _ _
  rw [hh];exact iC.env m
 ·show n0≤((h.set r _)++eg (k+1) e).length
  have:n0≤(h++eg k e).length:=h1
  simp [eg] at this ⊢;omega
theorem xh {n0:Nat} {env:List (Nat×U)} {h:List (Option HB)} {r v n e:Nat} (hr:h[r]?=some (some (.row 1 v (List.replicate n [.rv .bZ])))) :
 cV n0 ⟨env,h⟩ ⟨env,(h.set r (some (.row 1 v (dS h.length n n))))++eg n e⟩:=by
 have hrl:r<h.length:=(List.getElem?_eq_some_iff.1 hr).1
 have hz:dS h.length n 0=List.replicate n [.rv .bZ]:=by
  refine List.ext_getElem (by simp [dS]) (fun i h1 h2=>?_)
  simp [dS]
 have key:∀ k,k≤n→cV n0 ⟨env,h⟩ ⟨env,(h.set r (some (.row 1 v (dS h.length n k))))++eg k e⟩:=by
  intro k
  induction k with
  | zero=>
    intro _
    have:h.set r (some (.row 1 v (dS h.length n 0)))=h:=by
     rw [hz]
     refine List.ext_getElem? (fun i=>?_)
     rw [List.getElem?_set]
     by_cases hi:r=i
     ·subst hi;rw [if_pos rfl,if_pos hrl,hr]
     ·rw [if_neg hi]
    rw [this]
    simpa [eg] using cK n0 ⟨env,h⟩
  | succ k ih=>
    intro hk
    refine (ih (by omega)).trans ?_
    have hl:(h.set r (some (.row 1 v (dS h.length n k)))).length=h.length:=by simp
    have:=KR (n0:=n0) (env:=env) (h:=h.set r (some (.row 1 v (dS h.length n k)))) (r:=r) (v:=v) (n:=n) (e:=e) (k:=k) (by rw [hl,List.getElem?_set];simp [hrl]) (by omega)
    rw [hl,List.set_set] at this
    exact this
 exact key n (Nat.le_refl _)
end Go.ay

namespace Go.ay
open Go
inductive fo (n:Nat):U→Prop where
 | dead:fo n .dead
 | rv (r:RV):fo n (.rv r)
 | ptr (id off:Nat) (h:id<n):fo n (.ptr id off)
 | bJ (id af i off:Nat) (h:id<n):fo n (.bJ id af i off)
 | row (id af len:Nat) (h:id<n):fo n (.row id af len)
 | win (id af off len:Nat) (h:id<n):fo n (.win id af off len)
 | agg (cs:List U) (h:∀ (j:Nat) (y:U),cs[j]?=some y→fo n y):fo n (.agg cs)
 | aR (cs:List U) (h:∀ (j:Nat) (y:U),cs[j]?=some y→fo n y):fo n (.aR cs)
 | fn (f:FuncId) (cs:List U) (h:∀ (j:Nat) (y:U),cs[j]?=some y→fo n y):fo n (.fn f cs)
 | aX (t:TypeId) (x:U) (h:fo n x):fo n (.aX t x)
theorem fo.rn {n:Nat} {h:Hp} {x:U} (hc:fo n x):Rn (eF n) h x x:=by
 induction hc with
 | dead=>exact .dead _
 | rv r=>exact .fz _ _ (.rv r)
 | ptr id off h=>exact .ptr _ _ _ (by simp [eF,h])
 | bJ id af i off h=>exact .bJ _ _ _ _ _ (by simp [eF,h])
 | row id af len h=>exact .row _ _ _ _ (by simp [eF,h])
 | win id af off len h=>exact .win _ _ _ _ _ (by simp [eF,h])
 | agg cs h ih=>exact .agg _ _ rfl (fun i x y hx hy=>by rw [hx] at hy;cases hy;exact ih i x hx)
 | aR cs h ih=>exact .aR _ _ rfl (fun i x y hx hy=>by rw [hx] at hy;cases hy;exact ih i x hx)
 | fn f cs h ih=>exact .fn _ _ _ rfl (fun i x y hx hy=>by rw [hx] at hy;cases hy;exact ih i x hx)
 | aX t x h ih=>exact .aX _ _ _ ih
def iO (n:Nat):List U→Prop
 | []=>True
 | x::r=>fo n x∧iO n r
theorem iO.get {n:Nat}:∀ {l:List U},iO n l→∀ (j:Nat) (y:U),l[j]?=some y→fo n y
 | [],_,j,y,h=>by simp at h
 | x::r,hc,j,y,h=>by
   cases j with
   | zero=>simp at h;subst h;exact hc.1
   | succ j=>exact hc.2.get j y (by simpa using h)
theorem gh {n:Nat} {r:RV}:fo n (.rv r)↔True:=⟨fun _=>trivial,fun _=>.rv r⟩
theorem oD {n i o:Nat}:fo n (.ptr i o)↔i<n:=⟨fun h=>by cases h;assumption,fun h=>.ptr _ _ h⟩
theorem fq {n i v l:Nat}:fo n (.row i v l)↔i<n:=⟨fun h=>by cases h;assumption,fun h=>.row _ _ _ h⟩
theorem Kn {n:Nat} {rs:List RV}:iO n (rs.map .rv):=by
 induction rs with
 | nil=>trivial
 | cons r rs ih=>exact ⟨.rv r,ih⟩
def ox (n:Nat):HB→Prop
 | .var cs=>iO n cs
 | .row _ _ xs=>∀ (i:Nat) (x:List U),xs[i]?=some x→iO n x
theorem cg {n e v:Nat} {xs:List (List RV)}:ox n (.row e v (ah xs)):=fun i x hx=>by
 unfold ah at hx
 rw [List.getElem?_map] at hx
 cases hq:xs[i]? with
 | none=>simp [hq] at hx
 | some z=>simp [hq] at hx;subst hx;exact Kn
theorem ox.rn {n:Nat} {h:Hp} {hb:HB} (hc:ox n hb):iD (eF n) h hb hb:=by
 cases hb with
 | var cs=>exact .var _ _ ⟨rfl,fun i x y hx hy=>by rw [hx] at hy;cases hy;exact (iO.get hc i x hx).rn⟩
 | row e v xs=>exact .row _ _ _ _ rfl (fun i x y hx hy=>by
    rw [hx] at hy;cases hy
    exact ⟨rfl,fun j a b ha hb=>by rw [ha] at hb;cases hb;exact (iO.get (hc i x hx) j a ha).rn⟩)
def eM (n:Nat) (env:List (Nat×U)):List (Nat×U)→Prop
 | []=>True
 | (m,v)::r=>(v = .dead∨lk env m=v∧fo n v)∧eM n env r
theorem eM.get {n:Nat} {env:List (Nat×U)}:∀ {env':List (Nat×U)},eM n env env'→∀ p∈env',p.2 = .dead∨lk env p.1=p.2∧fo n p.2
 | [],_,p,hp=>by simp at hp
 | (m,v)::r,h,p,hp=>by
   rcases List.mem_cons.1 hp with rfl | hp
   ·exact h.1
   ·exact h.2.get p hp
def jz (P:HB→Prop):List (Option HB)→Prop
 | []=>True
 | some hb::r=>P hb∧jz P r
 | none::_=>False
theorem jz.get {P:HB→Prop}:∀ {l:List (Option HB)},jz P l→∀ j,j<l.length→∃ hb,l[j]?=some (some hb)∧P hb
 | [],_,j,hj=>by simp at hj
 | some hb::r,h,j,hj=>by
   cases j with
   | zero=>exact ⟨hb,rfl,h.1⟩
   | succ j=>obtain ⟨x,a,b⟩:=h.2.get j (by simpa using hj);exact ⟨x,by simpa using a,b⟩
 | none::r,h,_,_=>h.elim
theorem jz.of {P:HB→Prop}:∀ {l:List (Option HB)},(∀ (j:Nat) (x:Option HB),l[j]?=some x→∃ hb,x=some hb∧P hb)→jz P l
 | [],_=>trivial
 | x::r,h=>by
   obtain ⟨hb,rfl,hp⟩:=h 0 x rfl
   exact ⟨hp,jz.of fun j y hy=>h (j+1) y (by simpa using hy)⟩
theorem kg {n0:Nat} {env env':List (Nat×U)} {h' C:List (Option HB)} (hn:n0≤h'.length) (hC:jz (ox h'.length) h') (he:eM h'.length env env'):cV n0 ⟨env,h'++C⟩ ⟨env',h'⟩:=by
 refine Et (eF h'.length) hn (fun j i hj=>?_) (fun j hj=>?_) (fun j=>?_) (vO (fun x=>.dead x) (fun p hp=>?_))
 ·unfold eF at hj;split at hj <;> cases hj;rfl
 ·unfold eF at hj;split at hj
  ·cases hj
  ·omega
 ·by_cases hj:j<h'.length
  ·obtain ⟨hb,g1,g2⟩:=hC.get j hj
   exact .inl ⟨hb,hb,by simp [eF,hj],qA.2 (by rw [List.getElem?_append_left hj];exact g1),qA.2 g1,g2.rn⟩
  ·refine .inr ⟨?_,.inl (by simp [eF,hj])⟩
   unfold ag
   rw [List.getElem?_eq_none (by omega)]
 ·rcases he.get p hp with h | ⟨h1,h2⟩
  ·rw [h];exact .dead _
  ·rw [h1];exact h2.rn
structure gK (P:Program) (n:Nat) (t:TypeId) (rs:List RV):Prop where
 ty:gS P n t rs
theorem IY {P:Program} {f g:TypeId→List RV→Prop} (h:∀ t rs,f t rs→g t rs):∀ {fs:List Field} {rs:List RV},ug P f fs rs→ug P g fs rs
 | [],_,hf=>hf
 | _::_,_,⟨a,b,e,h1,h2⟩=>⟨a,b,e,h _ _ h1,IY h h2⟩
theorem IX {P:Program} {n:Nat} {t:TypeId} {k:IntKind} {rs:List RV} (hu:P.underlying t=some (.int k)) (h:gK P (n+1) t rs):∃ i,rs=[.int k i]∧(Lit.int k i).wf=true:=by
 have h:=h.ty;unfold gS at h;simp only [hu] at h;exact h
theorem Tm {P:Program} {n:Nat} {t:TypeId} {rs:List RV} (hu:P.underlying t=some .bool) (h:gK P (n+1) t rs):∃ b,rs=[.bool b]:=by
 have h:=h.ty;unfold gS at h;simp only [hu] at h;exact h
theorem Tn {P:Program} {n:Nat} {t e:TypeId} {rs:List RV} (hu:P.underlying t=some (.slice e)) (h:gK P (n+1) t rs):∃ xs,rs=[.sl (P.cellsOf e) xs]∧xs.length≤maxLen∧∀ x∈xs,gK P n e x:=by
 have h:=h.ty;unfold gS at h;simp only [hu] at h
 obtain ⟨xs,h1,h2,h3⟩:=h
 exact ⟨xs,h1,h2,fun x hx=>⟨h3 x hx⟩⟩
theorem CW {P:Program} {n:Nat} {t:TypeId} {fs:Array Field} {rs:List RV} (hu:P.underlying t=some (.struct fs)) (h:gK P (n+1) t rs):ug P (gK P n) fs.toList rs:=by
 have h:=h.ty;unfold gS at h;simp only [hu] at h
 exact IY (fun _ _ h=>⟨h⟩) h
theorem IW {P:Program} {n m:Nat} {t e:TypeId} {rs:List RV} (hu:P.underlying t=some (.array m e)) (h:gK P (n+1) t rs):∃ xs:List (List RV),rs=xs.flatten∧xs.length=m∧∀ x∈xs,gK P n e x:=by
 have h:=h.ty;unfold gS at h;simp only [hu] at h
 obtain ⟨xs,h1,h2,h3⟩:=h
 exact ⟨xs,h1,h2,fun x hx=>⟨h3 x hx⟩⟩
theorem QI {P:Program} {H:Type} {enc:TypeId×Value→H} {w:World} {r:Reach} {b0 n:Nat} {t:TypeId} {v:Value} {d:DataW H} {ps:List MemPlace} (hf:kT P n t=true) (hval:Value.okWide P w r b0 t v) (hd:DataW.Trod enc P w 0 (fun _=>true) true t v d ps) :
 ∃ rs,gK P n t rs∧∀ (ok:Nat→Prop) (aa:Nat→Option Nat) (hp:Hp),(∀ b,b<w.heap.size→ok b)→Rp w ok aa hp (sN P t rs) v:=by
 obtain ⟨rs,h1,h2⟩:=QH hf hval hd ⟨w,fun _=>True,fun _=>True,0,fun _=>.none,fun _=>.none⟩ (fun _=>.none)
 exact ⟨rs,⟨h1⟩,h2⟩
theorem JH {P:Program} {t:TypeId} {r:RV} (h:cG P t=some false):sN P t [r] = .rv r:=by
 unfold sN;rw [h];rfl
theorem Rg {hp:Hp} {a:Nat} {hb:HB} (h:hp a=some hb):aV hp [(a,hb)]:=fun q hq=>by simp at hq;subst hq;exact h
end Go.ay

namespace Go.ay
open Go
attribute [go_sem] Lw LH LC LD LG Lq Lt Lr LF Lv LZ LX Ma LY LW Lx Ls Ly LB Lz LA zM xZ Ce sq zO yb Ch sr bQ o1 o2 lq eK qW wM wD wN wO fits kU lz lu ye xw lC vM jQ qj wQ wF wI wK wJ zH sO qU qg wE vU ir xX eJ yc pV uK xo yB yz wZ yu yx yw xu qH vB vC tF rM xq xp qn uA yW qS lp uf wg jc jY vI kD lk cU cT cZ wk aY iY fu kJ CZ List.map_cons List.map_nil List.length_cons List.length_nil List.length_append List.length_map List.length_set List.set_cons_zero List.set_cons_succ List.cons_append List.nil_append List.append_nil List.getElem?_cons_zero List.getElem?_cons_succ List.getElem?_nil List.take_succ_cons List.take_zero List.drop_succ_cons List.drop_zero List.drop_nil List.take_nil Option.getD_some Option.getD_none Option.map_some Option.map_none true_and and_true Nat.zero_add Nat.add_zero decide_eq_true_eq Bool.false_eq_true aF Ic Ib RQ Ia Int.toNat_natCast JW JV JU JT Bool.not_true Bool.not_false Ta qV qo chunks Ki Kh LL LK LJ LI LQ LP LO LN LM LR Ra QZ
attribute [go_sem_proc] Nat.reduceEqDiff Nat.reduceAdd Nat.reduceSub Nat.reduceMul Nat.reduceLeDiff Nat.reduceLT reduceCtorEq Int.reduceToNat
attribute [go_sem_proc ↓] reduceIte
theorem PX (n:Nat):Int.ofNat (no_index (OfNat.ofNat n))=OfNat.ofNat n:=rfl
attribute [go_sem] PX
def fc (P:Program) (f:FuncId) (N:Nat) (rs:List RR):AC:=(xx P f N rs).getD .skip
theorem bP {P:Program} {f:FuncId} {N:Nat} {rs:List RR} (h:(xx P f N rs).isSome=true):bC P f N (fc P f N rs) rs:=by
 obtain ⟨c,hc⟩:=Option.isSome_iff_exists.1 h
 unfold fc;rw [hc];exact xy hc
end Go.ay

namespace Go.ay
open Go
structure Ln where
 kind:Int
 n:Int
 deriving DecidableEq,Inhabited
structure Q4 (α:Type) where
 a:α
 b:α
 c:α
 d:α
 deriving DecidableEq,Inhabited
structure au where
 shown:Bool
 position:Int
 off:Q4 Ln
 width:Ln
 height:Ln
 jN:Ln
 jL:Ln
 jM:Ln
 jK:Ln
 dF:Q4 Ln
 pad:Q4 Ln
 aK:Q4 Int
 Ct:Bool
 uX:Bool
 z:Int
 clip:Bool
 back:Int
 line:Int
 deriving DecidableEq,Inhabited
structure Nd where
 s:au
 parent:Int
 deriving DecidableEq,Inhabited
def Ln.cells (x:Ln):List RV:=[.int .i64 x.kind,.int .i64 x.n]
def Q4.ym (q:Q4 Ln):List RV:=[.int .i64 q.a.kind,.int .i64 q.a.n,.int .i64 q.b.kind,.int .i64 q.b.n,.int .i64 q.c.kind,.int .i64 q.c.n,.int .i64 q.d.kind,.int .i64 q.d.n]
def Q4.ints (q:Q4 Int):List RV:=[.int .i64 q.a,.int .i64 q.b,.int .i64 q.c,.int .i64 q.d]
def au.cells (s:au):List RV:=[.bool s.shown,.int .i64 s.position,
 .int .i64 s.off.a.kind,.int .i64 s.off.a.n,.int .i64 s.off.b.kind,.int .i64 s.off.b.n,.int .i64 s.off.c.kind,.int .i64 s.off.c.n,.int .i64 s.off.d.kind,.int .i64 s.off.d.n,
 .int .i64 s.width.kind,.int .i64 s.width.n,.int .i64 s.height.kind,.int .i64 s.height.n,.int .i64 s.jN.kind,.int .i64 s.jN.n,.int .i64 s.jL.kind,.int .i64 s.jL.n,.int .i64 s.jM.kind,.int .i64 s.jM.n,.int .i64 s.jK.kind,.int .i64 s.jK.n,
 .int .i64 s.dF.a.kind,.int .i64 s.dF.a.n,.int .i64 s.dF.b.kind,.int .i64 s.dF.b.n,.int .i64 s.dF.c.kind,.int .i64 s.dF.c.n,.int .i64 s.dF.d.kind,.int .i64 s.dF.d.n,
 .int .i64 s.pad.a.kind,.int .i64 s.pad.a.n,.int .i64 s.pad.b.kind,.int .i64 s.pad.b.n,.int .i64 s.pad.c.kind,.int .i64 s.pad.c.n,.int .i64 s.pad.d.kind,.int .i64 s.pad.d.n,
 .int .i64 s.aK.a,.int .i64 s.aK.b,.int .i64 s.aK.c,.int .i64 s.aK.d,
 .bool s.Ct,.bool s.uX,.int .i64 s.z,.bool s.clip,.int .i64 s.back,.int .i64 s.line]
abbrev au.sv (s:au):U:=.agg (s.cells.map .rv)
abbrev Ln.sv (x:Ln):U:=.agg (x.cells.map .rv)
def Nd.cells (x:Nd):List RV:=x.s.cells++[.int .i64 x.parent]
abbrev Nd.sv (x:Nd):U:=.agg (x.cells.map .rv)
def bk (l:List Nd):List (List RV):=l.map Nd.cells
def kG {α:Type} (q:Q4 α):Nat→α
 | 0=>q.a
 | 1=>q.b
 | 2=>q.c
 | _=>q.d
def Q4.list {α:Type} (q:Q4 α):List α:=[q.a,q.b,q.c,q.d]
def cM (s:au):List Ln:=s.off.list++[s.width,s.height,s.jN,s.jL,s.jM,s.jK]++s.dF.list++s.pad.list
theorem aE (s:au):(cM s).length=18:=rfl
def iT (l:List Ln):List (List RV):=l.map Ln.cells
def lD (x:Ln):Bool:=(decide (x.kind=0) && decide (x.n=0)) || decide (x.kind=1) || decide (x.kind=2)
def iW (p:Ln) (b:Int):Bool:=!(decide (p.kind=0) || decide (p.n<0) || decide (b<0))
def ue (s:au):Bool:=decide (s.position≥0) && decide (s.position≤3) && decide (s.back≥0) && decide (s.line≥0) && (s.uX || decide (s.z=0))
def gq (s:au):Bool:=(cM s).all lD && ([s.width,s.height,s.jN,s.jL,s.jM,s.jK].all fun x=>decide (0≤x.n)) &&
 (iW s.pad.a s.aK.a && iW s.pad.b s.aK.b && iW s.pad.c s.aK.c && iW s.pad.d s.aK.d) && ue s
def qD (n most:Int):Bool:=decide (-most≤n) && decide (n≤most)
def oS (x:Ln):Bool:=!((decide (x.kind=1) && !qD x.n 1099511627776) || (decide (x.kind=2) && !qD x.n 1000000))
def iz (s:au):Bool:=(cM s).all oS && (s.aK.list.all fun n=>decide (n≤1099511627776)) && (qD s.z 1073741824 && decide (s.back≤16777216) && decide (s.line≤16777216))
theorem aj (s:au):s.cells.length=48:=rfl
theorem aq (x:Nd):x.cells.length=49:=rfl
theorem ax (l:List Nd):(bk l).length=l.length:=by simp [bk]
theorem gR {l:List Nd} {i:Nat} (h:i<l.length):(bk l)[i]?.getD []=(l[i]'h).cells:=by simp [bk,h]
theorem aG (l:List Ln):(iT l).length=l.length:=by simp [iT]
theorem BI {l:List Ln} {i:Nat} (h:i<l.length):(iT l)[i]?.getD []=(l[i]'h).cells:=by simp [iT,h]
theorem lM (s:au):(s.cells.map U.rv)[0]?=some (.rv (.bool s.shown)):=rfl
theorem nc (s:au):(s.cells.drop 0)[0]?=some (.bool s.shown):=rfl
theorem jR (s:au):(s.cells.map U.rv)[1]?=some (.rv (.int .i64 s.position)):=rfl
theorem ng (s:au):(s.cells.drop 1)[0]?=some (.int .i64 s.position):=rfl
theorem lX (s:au):(s.cells.map U.rv)[2]?=some (.rv (.int .i64 s.off.a.kind)):=rfl
theorem ny (s:au):(s.cells.drop 2)[0]?=some (.int .i64 s.off.a.kind):=rfl
theorem mq (s:au):(s.cells.map U.rv)[3]?=some (.rv (.int .i64 s.off.a.n)):=rfl
theorem nK (s:au):(s.cells.drop 3)[0]?=some (.int .i64 s.off.a.n):=rfl
theorem mH (s:au):(s.cells.map U.rv)[4]?=some (.rv (.int .i64 s.off.b.kind)):=rfl
theorem nV (s:au):(s.cells.drop 4)[0]?=some (.int .i64 s.off.b.kind):=rfl
theorem mM (s:au):(s.cells.map U.rv)[5]?=some (.rv (.int .i64 s.off.b.n)):=rfl
theorem oe (s:au):(s.cells.drop 5)[0]?=some (.int .i64 s.off.b.n):=rfl
theorem mN (s:au):(s.cells.map U.rv)[6]?=some (.rv (.int .i64 s.off.c.kind)):=rfl
theorem og (s:au):(s.cells.drop 6)[0]?=some (.int .i64 s.off.c.kind):=rfl
theorem mO (s:au):(s.cells.map U.rv)[7]?=some (.rv (.int .i64 s.off.c.n)):=rfl
theorem oh (s:au):(s.cells.drop 7)[0]?=some (.int .i64 s.off.c.n):=rfl
theorem mP (s:au):(s.cells.map U.rv)[8]?=some (.rv (.int .i64 s.off.d.kind)):=rfl
theorem om (s:au):(s.cells.drop 8)[0]?=some (.int .i64 s.off.d.kind):=rfl
theorem mQ (s:au):(s.cells.map U.rv)[9]?=some (.rv (.int .i64 s.off.d.n)):=rfl
theorem oo (s:au):(s.cells.drop 9)[0]?=some (.int .i64 s.off.d.n):=rfl
theorem lN (s:au):(s.cells.map U.rv)[10]?=some (.rv (.int .i64 s.width.kind)):=rfl
theorem nh (s:au):(s.cells.drop 10)[0]?=some (.int .i64 s.width.kind):=rfl
theorem lO (s:au):(s.cells.map U.rv)[11]?=some (.rv (.int .i64 s.width.n)):=rfl
theorem ni (s:au):(s.cells.drop 11)[0]?=some (.int .i64 s.width.n):=rfl
theorem lP (s:au):(s.cells.map U.rv)[12]?=some (.rv (.int .i64 s.height.kind)):=rfl
theorem nj (s:au):(s.cells.drop 12)[0]?=some (.int .i64 s.height.kind):=rfl
theorem lQ (s:au):(s.cells.map U.rv)[13]?=some (.rv (.int .i64 s.height.n)):=rfl
theorem nk (s:au):(s.cells.drop 13)[0]?=some (.int .i64 s.height.n):=rfl
theorem lR (s:au):(s.cells.map U.rv)[14]?=some (.rv (.int .i64 s.jN.kind)):=rfl
theorem nq (s:au):(s.cells.drop 14)[0]?=some (.int .i64 s.jN.kind):=rfl
theorem lS (s:au):(s.cells.map U.rv)[15]?=some (.rv (.int .i64 s.jN.n)):=rfl
theorem nr (s:au):(s.cells.drop 15)[0]?=some (.int .i64 s.jN.n):=rfl
theorem lT (s:au):(s.cells.map U.rv)[16]?=some (.rv (.int .i64 s.jL.kind)):=rfl
theorem nt (s:au):(s.cells.drop 16)[0]?=some (.int .i64 s.jL.kind):=rfl
theorem lU (s:au):(s.cells.map U.rv)[17]?=some (.rv (.int .i64 s.jL.n)):=rfl
theorem nu (s:au):(s.cells.drop 17)[0]?=some (.int .i64 s.jL.n):=rfl
theorem lV (s:au):(s.cells.map U.rv)[18]?=some (.rv (.int .i64 s.jM.kind)):=rfl
theorem nv (s:au):(s.cells.drop 18)[0]?=some (.int .i64 s.jM.kind):=rfl
theorem lW (s:au):(s.cells.map U.rv)[19]?=some (.rv (.int .i64 s.jM.n)):=rfl
theorem nw (s:au):(s.cells.drop 19)[0]?=some (.int .i64 s.jM.n):=rfl
theorem lY (s:au):(s.cells.map U.rv)[20]?=some (.rv (.int .i64 s.jK.kind)):=rfl
theorem nA (s:au):(s.cells.drop 20)[0]?=some (.int .i64 s.jK.kind):=rfl
theorem lZ (s:au):(s.cells.map U.rv)[21]?=some (.rv (.int .i64 s.jK.n)):=rfl
theorem nB (s:au):(s.cells.drop 21)[0]?=some (.int .i64 s.jK.n):=rfl
theorem mb (s:au):(s.cells.map U.rv)[22]?=some (.rv (.int .i64 s.dF.a.kind)):=rfl
theorem nC (s:au):(s.cells.drop 22)[0]?=some (.int .i64 s.dF.a.kind):=rfl
theorem mc (s:au):(s.cells.map U.rv)[23]?=some (.rv (.int .i64 s.dF.a.n)):=rfl
theorem nD (s:au):(s.cells.drop 23)[0]?=some (.int .i64 s.dF.a.n):=rfl
theorem me (s:au):(s.cells.map U.rv)[24]?=some (.rv (.int .i64 s.dF.b.kind)):=rfl
theorem nE (s:au):(s.cells.drop 24)[0]?=some (.int .i64 s.dF.b.kind):=rfl
theorem mg (s:au):(s.cells.map U.rv)[25]?=some (.rv (.int .i64 s.dF.b.n)):=rfl
theorem nF (s:au):(s.cells.drop 25)[0]?=some (.int .i64 s.dF.b.n):=rfl
theorem mh (s:au):(s.cells.map U.rv)[26]?=some (.rv (.int .i64 s.dF.c.kind)):=rfl
theorem nG (s:au):(s.cells.drop 26)[0]?=some (.int .i64 s.dF.c.kind):=rfl
theorem mj (s:au):(s.cells.map U.rv)[27]?=some (.rv (.int .i64 s.dF.c.n)):=rfl
theorem nH (s:au):(s.cells.drop 27)[0]?=some (.int .i64 s.dF.c.n):=rfl
theorem mm (s:au):(s.cells.map U.rv)[28]?=some (.rv (.int .i64 s.dF.d.kind)):=rfl
theorem nI (s:au):(s.cells.drop 28)[0]?=some (.int .i64 s.dF.d.kind):=rfl
theorem mo (s:au):(s.cells.map U.rv)[29]?=some (.rv (.int .i64 s.dF.d.n)):=rfl
theorem nJ (s:au):(s.cells.drop 29)[0]?=some (.int .i64 s.dF.d.n):=rfl
theorem mu (s:au):(s.cells.map U.rv)[30]?=some (.rv (.int .i64 s.pad.a.kind)):=rfl
theorem nL (s:au):(s.cells.drop 30)[0]?=some (.int .i64 s.pad.a.kind):=rfl
theorem mw (s:au):(s.cells.map U.rv)[31]?=some (.rv (.int .i64 s.pad.a.n)):=rfl
theorem nM (s:au):(s.cells.drop 31)[0]?=some (.int .i64 s.pad.a.n):=rfl
theorem mz (s:au):(s.cells.map U.rv)[32]?=some (.rv (.int .i64 s.pad.b.kind)):=rfl
theorem nN (s:au):(s.cells.drop 32)[0]?=some (.int .i64 s.pad.b.kind):=rfl
theorem mA (s:au):(s.cells.map U.rv)[33]?=some (.rv (.int .i64 s.pad.b.n)):=rfl
theorem nO (s:au):(s.cells.drop 33)[0]?=some (.int .i64 s.pad.b.n):=rfl
theorem mB (s:au):(s.cells.map U.rv)[34]?=some (.rv (.int .i64 s.pad.c.kind)):=rfl
theorem nP (s:au):(s.cells.drop 34)[0]?=some (.int .i64 s.pad.c.kind):=rfl
theorem mC (s:au):(s.cells.map U.rv)[35]?=some (.rv (.int .i64 s.pad.c.n)):=rfl
theorem nQ (s:au):(s.cells.drop 35)[0]?=some (.int .i64 s.pad.c.n):=rfl
theorem mD (s:au):(s.cells.map U.rv)[36]?=some (.rv (.int .i64 s.pad.d.kind)):=rfl
theorem nR (s:au):(s.cells.drop 36)[0]?=some (.int .i64 s.pad.d.kind):=rfl
theorem mE (s:au):(s.cells.map U.rv)[37]?=some (.rv (.int .i64 s.pad.d.n)):=rfl
theorem nS (s:au):(s.cells.drop 37)[0]?=some (.int .i64 s.pad.d.n):=rfl
theorem mF (s:au):(s.cells.map U.rv)[38]?=some (.rv (.int .i64 s.aK.a)):=rfl
theorem nT (s:au):(s.cells.drop 38)[0]?=some (.int .i64 s.aK.a):=rfl
theorem mG (s:au):(s.cells.map U.rv)[39]?=some (.rv (.int .i64 s.aK.b)):=rfl
theorem nU (s:au):(s.cells.drop 39)[0]?=some (.int .i64 s.aK.b):=rfl
theorem mI (s:au):(s.cells.map U.rv)[40]?=some (.rv (.int .i64 s.aK.c)):=rfl
theorem nW (s:au):(s.cells.drop 40)[0]?=some (.int .i64 s.aK.c):=rfl
theorem mJ (s:au):(s.cells.map U.rv)[41]?=some (.rv (.int .i64 s.aK.d)):=rfl
theorem nX (s:au):(s.cells.drop 41)[0]?=some (.int .i64 s.aK.d):=rfl
theorem mK (s:au):(s.cells.map U.rv)[42]?=some (.rv (.bool s.Ct)):=rfl
theorem nY (s:au):(s.cells.drop 42)[0]?=some (.bool s.Ct):=rfl
theorem kL (s:au):(s.cells.map U.rv)[43]?=some (.rv (.bool s.uX)):=rfl
theorem nZ (s:au):(s.cells.drop 43)[0]?=some (.bool s.uX):=rfl
theorem kM (s:au):(s.cells.map U.rv)[44]?=some (.rv (.int .i64 s.z)):=rfl
theorem oa (s:au):(s.cells.drop 44)[0]?=some (.int .i64 s.z):=rfl
theorem mL (s:au):(s.cells.map U.rv)[45]?=some (.rv (.bool s.clip)):=rfl
theorem ob (s:au):(s.cells.drop 45)[0]?=some (.bool s.clip):=rfl
theorem jS (s:au):(s.cells.map U.rv)[46]?=some (.rv (.int .i64 s.back)):=rfl
theorem oc (s:au):(s.cells.drop 46)[0]?=some (.int .i64 s.back):=rfl
theorem jT (s:au):(s.cells.map U.rv)[47]?=some (.rv (.int .i64 s.line)):=rfl
theorem od (s:au):(s.cells.drop 47)[0]?=some (.int .i64 s.line):=rfl
theorem mR (s:au):((s.cells.map U.rv).drop 10).take 2=s.width.cells.map U.rv:=rfl
theorem mS (s:au):((s.cells.map U.rv).drop 12).take 2=s.height.cells.map U.rv:=rfl
theorem mT (s:au):((s.cells.map U.rv).drop 14).take 2=s.jN.cells.map U.rv:=rfl
theorem mU (s:au):((s.cells.map U.rv).drop 16).take 2=s.jL.cells.map U.rv:=rfl
theorem mV (s:au):((s.cells.map U.rv).drop 18).take 2=s.jM.cells.map U.rv:=rfl
theorem mX (s:au):((s.cells.map U.rv).drop 20).take 2=s.jK.cells.map U.rv:=rfl
theorem mW (s:au):((s.cells.map U.rv).drop 2).take 8=s.off.ym.map U.rv:=rfl
theorem mY (s:au):((s.cells.map U.rv).drop 22).take 8=s.dF.ym.map U.rv:=rfl
theorem mZ (s:au):((s.cells.map U.rv).drop 30).take 8=s.pad.ym.map U.rv:=rfl
theorem jU (s:au):((s.cells.map U.rv).drop 38).take 4=s.aK.ints.map U.rv:=rfl
theorem kK (s:au):(s.cells.map U.rv).take 48=s.cells.map U.rv:=rfl
theorem lK (s:au):((s.cells.map U.rv).drop 0).take 48=s.cells.map U.rv:=rfl
theorem oA {α:Type} {p:α→Bool} {l:List α} {k:Nat} (h:k<l.length) (hk:(l.drop k).all p=l.all p) (hp:p (l[k]'h)=true):(l.drop (k+1)).all p=l.all p:=by
 rw [← hk,List.drop_eq_getElem_cons h,List.all_cons,hp,Bool.true_and]
theorem oz {α:Type} {p:α→Bool} {l:List α} {k:Nat} (h:k<l.length) (hk:(l.drop k).all p=l.all p) (hp:p (l[k]'h)=false):l.all p=false:=by
 rw [← hk,List.drop_eq_getElem_cons h,List.all_cons,hp,Bool.false_and]
theorem oy {α:Type} {p:α→Bool} {l:List α} {k:Nat} (h:l.length≤k) (hk:(l.drop k).all p=l.all p):l.all p=true:=by
 rw [← hk,List.drop_of_length_le h];rfl
theorem tK (x:Nd):(x.cells.map U.rv)[48]?=some (.rv (.int .i64 x.parent)):=rfl
theorem qb (x:Nd):x.cells.take 49=x.cells:=rfl
theorem Tj (s:au):∀ r∈s.cells,r.one=true:=by
 intro r hr
 simp -implicitDefEqProofs only [au.cells,List.mem_cons,List.not_mem_nil,or_false] at hr
 repeat' rcases hr with rfl | hr
 all_goals first | rfl | (subst hr;rfl)
theorem Qv (x:Nd):∀ r∈x.cells,r.one=true:=by
 intro r hr
 rcases List.mem_append.1 hr with hr | hr
 ·exact Tj _ r hr
 ·simp at hr;rw [hr];rfl
theorem yy (l:List Nd):∀ x∈bk l,∀ r∈x,r.one=true:=by
 intro x hx
 obtain ⟨n,_,rfl⟩:=List.mem_map.1 hx
 exact Qv n
def aS (ys:List Int):List (List RV):=ys.map fun n=>[.int .i64 n]
theorem av (l:List Int):(aS l).length=l.length:=by simp [aS]
theorem FW {l:List Int} {i:Nat} (h:i<l.length):(aS l)[i]?.getD []=[.int .i64 (l[i]'h)]:=by simp [aS,h]
theorem qG (l:List Int):∀ x∈aS l,∀ r∈x,r.one=true:=by
 intro x hx r hr
 obtain ⟨n,_,rfl⟩:=List.mem_map.1 hx
 simp at hr;rw [hr];rfl
theorem ff {l:List Int} {i:Nat} (h:i<l.length):(aS l)[i]?.getD []=[.int .i64 (l.getD i 0)]:=by simp [aS,h]
theorem iu {ys:List Int} {k:Nat} {v:Int}:(ah (aS ys)).set k [.rv (.int .i64 v)]=ah (aS (ys.set k v)):=by simp [ah,aS,List.map_set]
theorem yU {n:Nat}:List.replicate n [U.rv (.int .i64 0)]=ah (aS (List.replicate n 0)):=by simp [ah,aS]
theorem qR {ys:List Int} {v:Int}:ah (aS ys)++[[.rv (.int .i64 v)]]=ah (aS (ys++[v])):=by simp [ah,aS]
theorem dr {k:Nat} (h:k<4611686018427387904):IntKind.i64.wrap ((k:Int)+1)=((k+1:Nat):Int):=by
 rw [wrap_i64 (by omega) (by omega)];omega
theorem uj {k:Nat} (h:0<k) (h2:k<4611686018427387904):IntKind.i64.wrap ((k:Int) - 1)=((k - 1:Nat):Int):=by
 rw [wrap_i64 (by omega) (by omega)];omega
end Go.ay

namespace Go.ay
open Go Go.Proofs
theorem CX {n:Nat} {rs:List RV} (h:gK Go.Proofs.Try.prog (n+1) 3 rs):∃ i,rs=[.int .i64 i]:=by
 obtain ⟨i,h,_⟩:=IX Try.underlying3 h
 exact ⟨i,h⟩
theorem qY {n:Nat} {rs:List RV} (h:gK Go.Proofs.Try.prog (n+1) 2 rs):∃ i,rs=[.int .i64 i]:=by
 obtain ⟨i,h,_⟩:=IX Try.underlying2 h
 exact ⟨i,h⟩
theorem zl {n:Nat} {rs:List RV} (h:gK Go.Proofs.Try.prog (n+1) 4 rs):∃ b,rs=[.bool b]:=by
 exact Tm Try.underlying4 h
theorem oY {n:Nat} {rs:List RV} (h:gK Go.Proofs.Try.prog (n+2) 39 rs):∃ x:Ln,rs=x.cells:=by
 have h:=CW Try.underlying39 h
 obtain ⟨_,_,rfl,h1,_,_,rfl,h2,rfl⟩:=h
 obtain ⟨i,rfl⟩:=CX h1
 obtain ⟨j,rfl⟩:=qY h2
 exact ⟨⟨i,j⟩,rfl⟩
theorem GJ {α:Type} {xs:List α} (h:xs.length=4):∃ a b c d,xs=[a,b,c,d]:=by
 match xs,h with
 | [a,b,c,d],_=>exact ⟨a,b,c,d,rfl⟩
theorem CY {n:Nat} {rs:List RV} (h:gK Go.Proofs.Try.prog (n+3) 40 rs):∃ q:Q4 Ln,rs=q.ym:=by
 obtain ⟨xs,rfl,hl,hx⟩:=IW Try.underlying40 h
 obtain ⟨a,b,c,d,rfl⟩:=GJ hl
 obtain ⟨a,rfl⟩:=oY (hx a (by simp))
 obtain ⟨b,rfl⟩:=oY (hx b (by simp))
 obtain ⟨c,rfl⟩:=oY (hx c (by simp))
 obtain ⟨d,rfl⟩:=oY (hx d (by simp))
 exact ⟨⟨a,b,c,d⟩,rfl⟩
theorem Tl {n:Nat} {rs:List RV} (h:gK Go.Proofs.Try.prog (n+2) 41 rs):∃ q:Q4 Int,rs=q.ints:=by
 obtain ⟨xs,rfl,hl,hx⟩:=IW Try.underlying41 h
 obtain ⟨a,b,c,d,rfl⟩:=GJ hl
 obtain ⟨a,rfl⟩:=qY (hx a (by simp))
 obtain ⟨b,rfl⟩:=qY (hx b (by simp))
 obtain ⟨c,rfl⟩:=qY (hx c (by simp))
 obtain ⟨d,rfl⟩:=qY (hx d (by simp))
 exact ⟨⟨a,b,c,d⟩,rfl⟩
theorem Tp {n:Nat} {rs:List RV} (h:gK Go.Proofs.Try.prog (n+4) 43 rs):∃ s:au,rs=s.cells:=by
 have h:=CW Try.underlying43 h
 obtain ⟨_,_,rfl,h1,_,_,rfl,h2,_,_,rfl,h3,_,_,rfl,h4,_,_,rfl,h5,_,_,rfl,h6,_,_,rfl,h7,_,_,rfl,h8,_,_,rfl,h9,_,_,rfl,Mg,_,_,rfl,Mh,_,_,rfl,h12,_,_,rfl,Mi,_,_,rfl,Mj,_,_,rfl,Mk,_,_,rfl,Ml,_,_,rfl,Mm,_,_,rfl,Mn,rfl⟩:=h
 obtain ⟨b1,rfl⟩:=zl h1
 obtain ⟨i2,rfl⟩:=CX h2
 obtain ⟨q3,rfl⟩:=CY h3
 obtain ⟨x4,rfl⟩:=oY h4
 obtain ⟨x5,rfl⟩:=oY h5
 obtain ⟨x6,rfl⟩:=oY h6
 obtain ⟨x7,rfl⟩:=oY h7
 obtain ⟨x8,rfl⟩:=oY h8
 obtain ⟨x9,rfl⟩:=oY h9
 obtain ⟨Ri,rfl⟩:=CY Mg
 obtain ⟨Rj,rfl⟩:=CY Mh
 obtain ⟨Rk,rfl⟩:=Tl h12
 obtain ⟨JK,rfl⟩:=zl Mi
 obtain ⟨JL,rfl⟩:=zl Mj
 obtain ⟨i15,rfl⟩:=qY Mk
 obtain ⟨JM,rfl⟩:=zl Ml
 obtain ⟨i17,rfl⟩:=qY Mm
 obtain ⟨i18,rfl⟩:=qY Mn
 exact ⟨⟨b1,i2,q3,x4,x5,x6,x7,x8,x9,Ri,Rj,Rk,JK,JL,i15,JM,i17,i18⟩,rfl⟩
theorem To {n:Nat} {rs:List RV} (h:gK Go.Proofs.Try.prog (n+5) 45 rs):∃ x:Nd,rs=x.cells:=by
 have h:=CW Try.underlying45 h
 obtain ⟨_,_,rfl,h1,_,_,rfl,h2,rfl⟩:=h
 obtain ⟨s,rfl⟩:=Tp h1
 obtain ⟨i,rfl⟩:=CX h2
 exact ⟨⟨s,i⟩,rfl⟩
theorem GK {α:Type} {f:α→List RV}:∀ {xs:List (List RV)},(∀ x∈xs,∃ a,x=f a)→∃ l:List α,xs=l.map f
 | [],_=>⟨[],rfl⟩
 | x::xs,h=>by
   obtain ⟨a,rfl⟩:=h x (by simp)
   obtain ⟨l,rfl⟩:=GK (xs:=xs) fun y hy=>h y (by simp [hy])
   exact ⟨a::l,rfl⟩
theorem Kk:Program.cellsOf Go.Proofs.Try.prog 45=49:=by kernel_rfl
theorem Jy:cG Go.Proofs.Try.prog 22=some false:=by kernel_rfl
theorem QG {rs:List RV} (h:gK Go.Proofs.Try.prog 6 22 rs):∃ l:List Nd,sN Go.Proofs.Try.prog 22 rs = .rv (.sl 49 (bk l)):=by
 obtain ⟨xs,rfl,_,hx⟩:=Tn Try.underlying22 h
 obtain ⟨l,rfl⟩:=GK fun x hx'=>To (hx x hx')
 refine ⟨l,?_⟩
 rw [JH Jy,Kk];rfl
end Go.ay

namespace Go.ay
open Go
theorem Pp:bC Go.Proofs.Try.prog 52 48 (fc Go.Proofs.Try.prog 52 48 [(.c 2 4 true)]) [(.c 2 4 true)]:=bP (by kernel_rfl)
structure Rc where
 x0:Int
 y0:Int
 x1:Int
 y1:Int
 deriving DecidableEq,Inhabited
def Rc.cells (x:Rc):List RV:=[.int .i64 x.x0,.int .i64 x.y0,.int .i64 x.x1,.int .i64 x.y1]
abbrev Rc.sv (x:Rc):U:=.agg (x.cells.map .rv)
def cL (l:List Rc):List (List RV):=l.map Rc.cells
theorem Cl (l:List Rc):(cL l).length=l.length:=by simp [cL]
theorem tW (x:Rc):x.cells.length=4:=rfl
theorem Rr (x:Rc):∀ r∈x.cells,r.one=true:=by
 intro r hr
 simp -implicitDefEqProofs only [Rc.cells,List.mem_cons,List.not_mem_nil,or_false] at hr
 rcases hr with rfl | rfl | rfl | rfl <;> rfl
theorem Rq (l:List Rc):∀ x∈cL l,∀ r∈x,r.one=true:=by
 intro x hx
 obtain ⟨n,_,rfl⟩:=List.mem_map.1 hx
 exact Rr n
structure Bx where
 made:Bool
 x:Int
 y:Int
 w:Int
 h:Int
 off:Q4 Int
 dF:Q4 Int
 pad:Q4 Int
 aK:Q4 Int
 deriving DecidableEq,Inhabited
def Bx.cells (b:Bx):List RV:=[.bool b.made,.int .i64 b.x,.int .i64 b.y,.int .i64 b.w,.int .i64 b.h,
 .int .i64 b.off.a,.int .i64 b.off.b,.int .i64 b.off.c,.int .i64 b.off.d,.int .i64 b.dF.a,.int .i64 b.dF.b,.int .i64 b.dF.c,.int .i64 b.dF.d,
 .int .i64 b.pad.a,.int .i64 b.pad.b,.int .i64 b.pad.c,.int .i64 b.pad.d,.int .i64 b.aK.a,.int .i64 b.aK.b,.int .i64 b.aK.c,.int .i64 b.aK.d]
abbrev Bx.sv (x:Bx):U:=.agg (x.cells.map .rv)
def cJ (l:List Bx):List (List RV):=l.map Bx.cells
theorem zI (l:List Bx):(cJ l).length=l.length:=by simp [cJ]
theorem ql (x:Bx):x.cells.length=21:=rfl
theorem Kb (x:Bx):∀ r∈x.cells,r.one=true:=by
 intro r hr
 simp -implicitDefEqProofs only [Bx.cells,List.mem_cons,List.not_mem_nil,or_false] at hr
 repeat' rcases hr with rfl | hr
 all_goals first | rfl | (subst hr;rfl)
theorem Ka (l:List Bx):∀ x∈cJ l,∀ r∈x,r.one=true:=by
 intro x hx
 obtain ⟨n,_,rfl⟩:=List.mem_map.1 hx
 exact Kb n
def Bx.BU (b:Bx):List Int:=[b.x,b.y,b.w,b.h,b.pad.a,b.pad.b,b.pad.c,b.pad.d,b.aK.a,b.aK.b,b.aK.c,b.aK.d]
def iG (b:Bx):Bool:=b.BU.all fun n=>!(decide (n < -1125899906842624) || decide (n>1125899906842624))
def Ak (r:Rc):Bool:=decide (r.x0≥r.x1) || decide (r.y0≥r.y1)
def FE (r:Rc) (x y:Int):Bool:=decide (r.x0≤x) && decide (x<r.x1) && decide (r.y0≤y) && decide (y<r.y1)
def cQ:Rc:=⟨0,0,0,0⟩
def Hj (a b:Int):Int:=if b>a then b else a
def Hi (a b:Int):Int:=if b<a then b else a
def FV (a b:Rc):Rc:=⟨Hj a.x0 b.x0,Hj a.y0 b.y0,Hi a.x1 b.x1,Hi a.y1 b.y1⟩
def BQ (a b:Rc):Rc:=if Ak (FV a b)=true then cQ else FV a b
def Ui (a b:Rc):Bool:=Ak a || (FE b a.x0 a.y0 && FE b (IntKind.i64.wrap (a.x1 - 1)) (IntKind.i64.wrap (a.y1 - 1)))
def fV (b:Bx):Rc:=if b.made=true then ⟨b.x+b.aK.d,b.y+b.aK.a,b.x+b.aK.d+b.pad.d+b.w+b.pad.b,b.y+b.aK.a+b.pad.a+b.h+b.pad.c⟩ else cQ
theorem Ap {b:Bx} (h:iG b=true):(-1125899906842624≤b.x∧b.x≤1125899906842624)∧(-1125899906842624≤b.y∧b.y≤1125899906842624)∧(-1125899906842624≤b.w∧b.w≤1125899906842624)∧(-1125899906842624≤b.h∧b.h≤1125899906842624)∧
 (-1125899906842624≤b.pad.a∧b.pad.a≤1125899906842624)∧(-1125899906842624≤b.pad.b∧b.pad.b≤1125899906842624)∧(-1125899906842624≤b.pad.c∧b.pad.c≤1125899906842624)∧(-1125899906842624≤b.pad.d∧b.pad.d≤1125899906842624)∧
 (-1125899906842624≤b.aK.a∧b.aK.a≤1125899906842624)∧(-1125899906842624≤b.aK.b∧b.aK.b≤1125899906842624)∧(-1125899906842624≤b.aK.c∧b.aK.c≤1125899906842624)∧(-1125899906842624≤b.aK.d∧b.aK.d≤1125899906842624):=by
 simp [iG,Bx.BU] at h;omega
theorem IF (b:Bx) (hb:iG b=true):aP Go.Proofs.Try.prog 52 [b.sv] [] [] (fV b).sv:=by
 refine dK Pp [b.sv] _ (by simp) (by simp [aW,bS,dA,bD,bU,au.sv,Ln.sv,Nd.sv]) (fun K hK=>?_)
 have hf:=Ap hb
 conv in fc _ _ _ _=>reduce
 simp -implicitDefEqProofs only [Bx.sv,Bx.cells,go_sem,Int.reduceNegSucc]
 have w1:IntKind.i64.wrap (b.x+b.aK.d)=b.x+b.aK.d:=wrap_i64 (by omega) (by omega)
 have w2:IntKind.i64.wrap (b.y+b.aK.a)=b.y+b.aK.a:=wrap_i64 (by omega) (by omega)
 have w3:IntKind.i64.wrap (b.x+b.aK.d+b.pad.d)=b.x+b.aK.d+b.pad.d:=wrap_i64 (by omega) (by omega)
 have w4:IntKind.i64.wrap (b.x+b.aK.d+b.pad.d+b.w)=b.x+b.aK.d+b.pad.d+b.w:=wrap_i64 (by omega) (by omega)
 have w5:IntKind.i64.wrap (b.x+b.aK.d+b.pad.d+b.w+b.pad.b)=b.x+b.aK.d+b.pad.d+b.w+b.pad.b:=wrap_i64 (by omega) (by omega)
 have w6:IntKind.i64.wrap (b.y+b.aK.a+b.pad.a)=b.y+b.aK.a+b.pad.a:=wrap_i64 (by omega) (by omega)
 have w7:IntKind.i64.wrap (b.y+b.aK.a+b.pad.a+b.h)=b.y+b.aK.a+b.pad.a+b.h:=wrap_i64 (by omega) (by omega)
 have w8:IntKind.i64.wrap (b.y+b.aK.a+b.pad.a+b.h+b.pad.c)=b.y+b.aK.a+b.pad.a+b.h+b.pad.c:=wrap_i64 (by omega) (by omega)
 clear hf hb
 cases hm:b.made with
 | false=>
   repeat' (first | (simp -implicitDefEqProofs only [go_sem,Int.reduceNegSucc]) | (with_reducible refine aC ?_) | ((first | refine ak (fun hg=>?_) (fun hg=>?_) | refine aI (fun hg=>?_) (fun hg=>?_) | refine aJ (fun hg=>?_) (fun hg=>?_)) <;> try simp -implicitDefEqProofs only [hg,Bool.not_true,Bool.not_false]) | ((with_reducible apply And.intro);focus (first | trivial | omega | decide | (simp -implicitDefEqProofs only [maxLen];omega) | (simp [maxLen,aj,aq,ax,aG,av,aF,aE] <;> omega))) | fail)
   refine (hK _ _ ?_).2
   rw [show fV b=cQ from if_neg (by simp [hm])]
   clear w1 w2 w3 w4 w5 w6 w7 w8
   simp [cw,aQ,newL,cD,ct,bH,bF,lk,bO,bV,cj,bW,cU,cT,ag,cC,cO,bh,bT,cn,de,cS,dc,cc,cB,cz,go_sem,Int.reduceNegSucc,cQ,Rc.cells]
 | true=>
   repeat' (first | (simp -implicitDefEqProofs only [go_sem,Int.reduceNegSucc,w1,w2,w3,w4,w5,w6,w7,w8]) | (with_reducible refine aC ?_) | ((first | refine ak (fun hg=>?_) (fun hg=>?_) | refine aI (fun hg=>?_) (fun hg=>?_) | refine aJ (fun hg=>?_) (fun hg=>?_)) <;> try simp -implicitDefEqProofs only [hg,Bool.not_true,Bool.not_false]) | ((with_reducible apply And.intro);focus (first | trivial | omega | decide | (simp -implicitDefEqProofs only [maxLen];omega) | (simp [maxLen,aj,aq,ax,aG,av,aF,aE] <;> omega))) | fail)
   refine (hK _ _ ?_).2
   rw [show fV b=⟨b.x+b.aK.d,b.y+b.aK.a,b.x+b.aK.d+b.pad.d+b.w+b.pad.b,b.y+b.aK.a+b.pad.a+b.h+b.pad.c⟩ from if_pos hm]
   simp -implicitDefEqProofs only [Rc.sv,Rc.cells,List.map]
   generalize b.x+b.aK.d+b.pad.d+b.w+b.pad.b=n3
   generalize b.y+b.aK.a+b.pad.a+b.h+b.pad.c=n4
   generalize b.x+b.aK.d=n1
   generalize b.y+b.aK.a=n2
   clear w1 w2 w3 w4 w5 w6 w7 w8
   simp [cw,aQ,newL,cD,ct,bH,bF,lk,bO,bV,cj,bW,cU,cT,ag,cC,cO,bh,bT,cn,de,cS,dc,cc,cB,cz,go_sem,Int.reduceNegSucc]
end Go.ay

namespace Go.ay
open Go
def aU (l:List Nd) (n:Nat):Int:=(l.getD n default).parent
theorem kH {l:List Nd} {n:Nat} (h:n<l.length):(l[n]'h).parent=aU l n:=by simp [aU,h]
def WF (l:List Nd) (k:Nat):Prop:=aU l 0 = -1∧∀ j,0<j→j<k→0≤aU l j∧aU l j<j
theorem WF.mono {l:List Nd} {k m:Nat} (h:WF l k) (hm:m≤k):WF l m:=⟨h.1,fun j a b=>h.2 j a (by omega)⟩
def aL (l:List Nd) (n:Nat):List Nat:=if h:0≤aU l n∧aU l n<n then n::aL l (aU l n).toNat else [n]
termination_by n
decreasing_by omega
theorem kI {l:List Nd} {n:Nat} (h:0≤aU l n∧aU l n<n):aL l n=n::aL l (aU l n).toNat:=by
 rw [aL,dif_pos h]
theorem qe {l:List Nd} {n:Nat} (h:¬ (0≤aU l n∧aU l n<n)):aL l n=[n]:=by
 rw [aL,dif_neg h]
theorem yP {l:List Nd}:aL l 0=[0]:=qe (by omega)
theorem tS {l:List Nd} {n:Nat}:∃ r,aL l n=n::r:=by
 by_cases h:0≤aU l n∧aU l n<n
 ·exact ⟨_,kI h⟩
 ·exact ⟨_,qe h⟩
theorem tT {l:List Nd}:∀ n,(aL l n).length≤n+1:=by
 intro n
 induction n using Nat.strongRecOn with
 | _ n ih=>
   by_cases h:0≤aU l n∧aU l n<n
   ·rw [kI h];have:=ih (aU l n).toNat (by omega);simp;omega
   ·rw [qe h];simp
theorem oT {l:List Nd}:∀ n x,x∈aL l n→x≤n:=by
 intro n
 induction n using Nat.strongRecOn with
 | _ n ih=>
   intro x hx
   by_cases h:0≤aU l n∧aU l n<n
   ·rw [kI h] at hx
    rcases List.mem_cons.1 hx with rfl | hx
    ·omega
    ·have:=ih (aU l n).toNat (by omega) x hx;omega
   ·rw [qe h] at hx;simp at hx;omega
def gL (p:List Nat) (i:Nat):Int:=match p[i]? with
 | some x=>x
 | none=>-1
theorem uu {p:List Nat} {i:Nat} (h:i<p.length):gL p i=((p[i]'h:Nat):Int):=by simp [gL,h]
theorem JJ {p:List Nat} {i:Nat} (h:p.length≤i):gL p i = -1:=by
 unfold gL;rw [List.getElem?_eq_none h]
theorem qk {p:List Nat} {i:Nat}:0≤gL p i↔i<p.length:=by
 by_cases h:i<p.length
 ·rw [uu h];simp [h]
 ·rw [JJ (by omega)];simp;omega
theorem uv {l:List Nd} {n:Nat}:gL (aL l n) 0=n:=by
 obtain ⟨r,h⟩:=tS (l:=l) (n:=n)
 simp [gL,h]
theorem yI {l:List Nd} {k:Nat} (hw:WF l k):∀ n,n<k→∀ i,(h:i<(aL l n).length)→aU l ((aL l n)[i]'h)=gL (aL l n) (i+1):=by
 intro n
 induction n using Nat.strongRecOn with
 | _ n ih=>
   intro hn i hi
   by_cases h:0≤aU l n∧aU l n<n
   ·have hp:=kI h
    cases i with
    | zero=>
      simp -implicitDefEqProofs only [hp,List.getElem_cons_zero]
      rw [show gL (n::aL l (aU l n).toNat) (0+1)=gL (aL l (aU l n).toNat) 0 from by simp [gL],uv]
      omega
    | succ i=>
      simp -implicitDefEqProofs only [hp,List.length_cons] at hi
      have:=ih (aU l n).toNat (by omega) (by omega) i (by omega)
      simp -implicitDefEqProofs only [hp,List.getElem_cons_succ]
      rw [show gL (n::aL l (aU l n).toNat) (i+1+1)=gL (aL l (aU l n).toNat) (i+1) from by simp [gL]]
      exact this
   ·have hp:=qe h
    have h0:n=0:=by
     rcases Nat.eq_zero_or_pos n with h0 | h0
     ·exact h0
     ·exact absurd (hw.2 n h0 hn) h
    subst h0
    simp -implicitDefEqProofs only [hp,List.length_singleton] at hi
    obtain rfl:i=0:=by omega
    simp -implicitDefEqProofs only [hp,List.getElem_cons_zero]
    rw [hw.1];rfl
theorem tU {l:List Nd} {k n i:Nat} (hn:n<k) (h:i<(aL l n).length):(aL l n)[i]'h<k:=by
 have:=oT n _ (List.getElem_mem h);omega
theorem Ck {l:List Nd}:∀ n i,(h:i<(aL l n).length)→(aL l n).drop i=aL l ((aL l n)[i]'h):=by
 intro n
 induction n using Nat.strongRecOn with
 | _ n ih=>
   intro i hi
   by_cases h:0≤aU l n∧aU l n<n
   ·have hp:=kI h
    cases i with
    | zero=>simp [hp]
    | succ i=>
      simp -implicitDefEqProofs only [hp,List.length_cons] at hi
      simp -implicitDefEqProofs only [hp,List.drop_succ_cons,List.getElem_cons_succ]
      exact ih _ (by omega) i (by omega)
   ·have hp:=qe h
    simp -implicitDefEqProofs only [hp,List.length_singleton] at hi
    obtain rfl:i=0:=by omega
    simp [hp]
def jV (l:List Nd) (k:Nat):Option Nat:=(aL l (k - 1)).findIdx? fun (j:Nat)=>decide ((j:Int)=aU l k)
def fU (l:List Nd) (k:Nat):Bool:=decide (k=0) || (jV l k).isSome
def iw (l:List Nd):Bool:=decide (0<l.length) && decide (aU l 0 = -1) && (List.range l.length).all (fU l)
def ew (l:List Nd):Bool:=iw l && l.all fun x=>gq x.s
theorem Da {l:List Nd} {k:Nat} (h:(jV l k).isSome=true):0≤aU l k∧aU l k≤((k - 1:Nat):Int)∧(aU l k).toNat∈aL l (k - 1):=by
 obtain ⟨i,hi⟩:=Option.isSome_iff_exists.1 h
 unfold jV at hi
 rw [List.findIdx?_eq_some_iff_getElem] at hi
 obtain ⟨hlt,hp,_⟩:=hi
 simp at hp
 have h1:=List.getElem_mem hlt
 have h2:=oT _ _ h1
 refine ⟨by omega,by omega,?_⟩
 rw [← hp];simp
theorem Tv {l:List Nd} {k:Nat} (h0:0≤aU l k) (h:(aU l k).toNat∈aL l (k - 1)):(jV l k).isSome=true:=by
 unfold jV
 rw [List.findIdx?_isSome,List.any_eq_true]
 exact ⟨_,h,by simp;omega⟩
theorem Tt {l:List Nd} {k i:Nat} (h:i<(aL l (k - 1)).length) (hp:(((aL l (k - 1))[i]'h:Nat):Int)=aU l k) (hn:∀ j,(h:j<(aL l (k - 1)).length)→j<i→(((aL l (k - 1))[j]'h:Nat):Int)≠aU l k):jV l k=some i:=by
 unfold jV
 rw [List.findIdx?_eq_some_iff_getElem]
 exact ⟨h,by simpa using hp,fun j hj=>by simpa using hn j (by omega) hj⟩
theorem Tu {l:List Nd} {k:Nat} (hn:∀ j,(h:j<(aL l (k - 1)).length)→(((aL l (k - 1))[j]'h:Nat):Int)≠aU l k):jV l k=none:=by
 unfold jV
 rw [List.findIdx?_eq_none_iff]
 intro x hx
 obtain ⟨j,hj,rfl⟩:=List.getElem_of_mem hx
 simpa using hn j hj
theorem Jl {l:List Nd} {k:Nat} (h0:aU l 0 = -1) (h:∀ j,j<k→fU l j=true):WF l k:=by
 refine ⟨h0,fun j hj hk=>?_⟩
 have:=h j hk
 simp [fU] at this
 rcases this with h | h
 ·omega
 ·have:=Da h;omega
structure cP (l:List Nd):Prop where
 pos:0<l.length
 root:aU l 0 = -1
 up:∀ j,0<j→j<l.length→0≤aU l j∧aU l j<j∧(aU l j).toNat∈aL l (j - 1)
theorem cP.wf {l:List Nd} (h:cP l):WF l l.length:=⟨h.root,fun j a b=>⟨(h.up j a b).1,(h.up j a b).2.1⟩⟩
theorem vZ {l:List Nd}:iw l=true↔cP l:=by
 simp -implicitDefEqProofs only [iw,Bool.and_eq_true,decide_eq_true_eq,List.all_eq_true,List.mem_range]
 constructor
 ·rintro ⟨⟨h1,h2⟩,h3⟩
  refine ⟨h1,h2,fun j hj hl=>?_⟩
  have:=h3 j hl
  simp [fU] at this
  rcases this with h | h
  ·omega
  ·obtain ⟨a,b,c⟩:=Da h
   exact ⟨a,by omega,c⟩
 ·intro h
  refine ⟨⟨h.pos,h.root⟩,fun j hj=>?_⟩
  rcases Nat.eq_zero_or_pos j with h0 | h0
  ·simp [fU,h0]
  ·obtain ⟨a,b,c⟩:=h.up j h0 hj
   simp [fU,Tv a c]
def depth (l:List Nd) (n:Nat):Nat:=(aL l n).length
theorem Ag {l:List Nd} {k n:Nat} (hw:WF l k) (h0:0<n) (hn:n<k):depth l n=depth l (aU l n).toNat+1:=by
 unfold depth;rw [kI (hw.2 n h0 hn)];simp
theorem Ah {l:List Nd}:depth l 0=1:=by simp [depth,yP]
def gX (l:List Nd):Int:=if ew l=false then 2 else if (decide (l.length>65535) || (List.range l.length).any (fun k=>decide (depth l k>256)) || l.any fun x=>!iz x.s)=true then 3 else 0
end Go.ay

namespace Go.ay
open Go
def aZ (l:List Nd) (k p:Nat):List Nat:=(List.range k).filter fun j=>decide (0<j) && decide (aU l j=p)
def gF (l:List Nd) (p:Nat):List Nat:=aZ l l.length p
theorem vH {l:List Nd} {p:Nat}:aZ l 0 p=[]:=rfl
theorem vG {l:List Nd} {k p:Nat}:aZ l (k+1) p=aZ l k p++if 0<k∧aU l k=p then [k] else []:=by
 by_cases h:0<k∧aU l k=p
 ·simp [aZ,List.range_succ,h]
 ·rw [if_neg h]
  have:(decide (0<k) && decide (aU l k=p))=false:=by
   rw [Bool.eq_false_iff];simpa using h
  simp [aZ,List.range_succ,this]
theorem yf {l:List Nd} {k p:Nat}:(aZ l k p).length≤k:=by
 have:=List.length_filter_le (fun j=>decide (0<j) && decide (aU l j=p)) (List.range k)
 simpa [aZ] using this
theorem vQ {l:List Nd} {c p:Nat}:c∈gF l p↔0<c∧c<l.length∧aU l c=p:=by
 simp [gF,aZ];omega
def gZ (l:List Nd) (n:Nat):Nat:=match (gF l n).getLast? with
 | none=>n+1
 | some c=>if h:n<c∧c<l.length then gZ l c else n+1
termination_by l.length - n
decreasing_by omega
theorem Am {l:List Nd} {n:Nat} (h:gF l n=[]):gZ l n=n+1:=by
 rw [gZ,h];rfl
theorem Al {l:List Nd} {n c:Nat} (h:(gF l n).getLast?=some c) (h1:n<c) (h2:c<l.length):gZ l n=gZ l c:=by
 rw [gZ,h];simp [h1,h2]
def oX (l:List Nd) (n:Nat):Bool:=(l.getD n default).s.shown
theorem Cz {l:List Nd} {n:Nat} (h:n<l.length):(l[n]'h).s.shown=oX l n:=by simp [oX,h]
def iU (l:List Nd) (n:Nat):Bool:=(aL l n).all (oX l)
theorem BM {l:List Nd}:iU l 0=oX l 0:=by simp [iU,yP]
theorem BL {l:List Nd} {k n:Nat} (hw:WF l k) (h0:0<n) (hn:n<k):iU l n=(oX l n && iU l (aU l n).toNat):=by
 unfold iU;rw [kI (hw.2 n h0 hn)];rfl
end Go.ay

namespace Go.ay
open Go
theorem vR {l:List Nd} {n:Nat}:n∈aL l n:=by obtain ⟨r,h⟩:=tS (l:=l) (n:=n);simp [h]
theorem yO {l:List Nd} {a n:Nat} (h:a∈aL l n):∀ x,x∈aL l a→x∈aL l n:=by
 obtain ⟨i,hi,rfl⟩:=List.getElem_of_mem h
 intro x hx
 rw [← Ck n i hi] at hx
 exact List.mem_of_mem_drop hx
theorem tI {l:List Nd} {k n m:Nat} (hw:WF l m) (h0:0<k) (hk:k<m):n∈aL l k↔n=k∨n∈aL l (aU l k).toNat:=by
 rw [kI (hw.2 k h0 hk)];simp
theorem Qs {l:List Nd} {n:Nat}:n∈aL l 0↔n=0:=by rw [yP];simp
theorem cP.step {l:List Nd} (h:cP l) {n k:Nat} (hk:k<l.length) (hn:n<k) (hm:n∈aL l k):n∈aL l (k - 1):=by
 rw [tI h.wf (by omega) hk] at hm
 rcases hm with hm | hm
 ·omega
 ·exact yO (h.up k (by omega) hk).2.2 n hm
theorem cP.Dx {l:List Nd} (h:cP l) {n:Nat}:∀ k j,k<l.length→n∈aL l k→n≤j→j≤k→n∈aL l j:=by
 intro k
 induction k using Nat.strongRecOn with
 | _ k ih=>
   intro j hk hm h1 h2
   rcases Nat.lt_or_ge j k with tn | tn
   ·exact ih (k - 1) (by omega) j (by omega) (h.step hk (by omega) hm) h1 (by omega)
   ·obtain rfl:j=k:=by omega
    exact hm
theorem cP.child {l:List Nd} (h:cP l) {n:Nat}:∀ k,k<l.length→n∈aL l k→n≠k→∃ c,c∈gF l n∧c∈aL l k:=by
 intro k
 induction k using Nat.strongRecOn with
 | _ k ih=>
   intro hk hm hne
   rcases Nat.eq_zero_or_pos k with h0 | h0
   ·subst h0;rw [Qs] at hm;exact absurd hm hne
   ·obtain ⟨p1,p2,_⟩:=h.up k h0 hk
    rw [tI h.wf h0 hk] at hm
    rcases hm with hm | hm
    ·exact absurd hm hne
    ·by_cases hp:n=(aU l k).toNat
     ·exact ⟨k,vQ.2 ⟨h0,hk,by omega⟩,vR⟩
     ·obtain ⟨c,c1,c2⟩:=ih (aU l k).toNat (by omega) (by omega) hm hp
      exact ⟨c,c1,(tI h.wf h0 hk).2 (.inr c2)⟩
theorem PG {l:List Nd} {n c:Nat} (h:(gF l n).getLast?=some c):∀ x∈gF l n,x≤c:=by
 have key:∀ k,∀ c,(aZ l k n).getLast?=some c→∀ x∈aZ l k n,x≤c:=by
  intro k
  induction k with
  | zero=>intro c h;simp [vH] at h
  | succ k ih=>
    intro c h x hx
    rw [vG] at h hx
    by_cases hc:0<k∧aU l k=n
    ·rw [if_pos hc] at h hx
     simp at h
     subst h
     rcases List.mem_append.1 hx with hx | hx
     ·simp [aZ] at hx;omega
     ·simp at hx;omega
    ·rw [if_neg hc,List.append_nil] at h hx
     exact ih c h x hx
 exact key _ c h
theorem cP.ends {l:List Nd} (h:cP l):∀ m n,l.length - n=m→n<l.length→n<gZ l n∧gZ l n≤l.length∧∀ k,k<l.length→(n∈aL l k↔n≤k∧k<gZ l n):=by
 intro m
 induction m using Nat.strongRecOn with
 | _ m ih=>
   intro n hm hn
   cases hl:(gF l n).getLast? with
   | none=>
     have dw:gF l n=[]:=List.getLast?_eq_none_iff.1 hl
     rw [Am dw]
     refine ⟨by omega,hn,fun k hk=>⟨fun hm=>?_,fun hb=>?_⟩⟩
     ·refine ⟨oT _ _ hm,?_⟩
      apply Classical.byContradiction
      intro hc
      obtain ⟨c,c1,_⟩:=h.child k hk hm (by omega)
      rw [dw] at c1;simp at c1
     ·obtain rfl:k=n:=by omega
      exact vR
   | some c=>
     have va:c∈gF l n:=List.mem_of_getLast? hl
     obtain ⟨c1,c2,c3⟩:=vQ.1 va
     have hnc:n<c:=by have:=(h.up c c1 c2).2.1;omega
     rw [Al hl hnc c2]
     obtain ⟨e1,e2,e3⟩:=ih (l.length - c) (by omega) c rfl c2
     have FD:n∈aL l c:=(tI h.wf c1 c2).2 (.inr (by rw [c3,Int.toNat_natCast];exact vR))
     refine ⟨by omega,e2,fun k hk=>⟨fun hm=>?_,fun hb=>?_⟩⟩
     ·refine ⟨oT _ _ hm,?_⟩
      rcases Nat.lt_or_ge k (c+1) with hkc | hkc
      ·omega
      ·obtain ⟨c',d1,d2⟩:=h.child k hk hm (by omega)
       have hle:=PG hl c' d1
       obtain ⟨g1,g2,g3⟩:=vQ.1 d1
       by_cases Fc:c'=c
       ·subst Fc;exact ((e3 k hk).1 d2).2
       ·have:=h.Dx k c hk d2 (by omega) (by omega)
        rw [tI h.wf c1 c2,c3,Int.toNat_natCast] at this
        rcases this with t | t
        ·omega
        ·have:=oT _ _ t
         have:=(h.up c' g1 g2).2.1
         omega
     ·rcases Nat.lt_or_ge k c with hkc | hkc
      ·exact h.Dx c k c2 FD hb.1 (by omega)
      ·exact yO ((e3 k hk).2 ⟨hkc,hb.2⟩) n FD
theorem cP.below {l:List Nd} (h:cP l) {n k:Nat} (hn:n<l.length) (hk:k<l.length):n∈aL l k↔n≤k∧k<gZ l n:=(h.ends _ n rfl hn).2.2 k hk
end Go.ay

namespace Go.ay
open Go
theorem Pw:bC Go.Proofs.Try.prog 108 21 (fc Go.Proofs.Try.prog 108 21 [(.t 2)]) [(.t 2)]:=bP (by kernel_rfl)
theorem Pz:bC Go.Proofs.Try.prog 107 14 (fc Go.Proofs.Try.prog 107 14 [(.t 4)]) [(.t 4)]:=bP (by kernel_rfl)
theorem SW (x:Ln):aP Go.Proofs.Try.prog 108 [x.sv] [] [] (.rv (.bool (lD x))):=by
 refine eY Pw [] [] [] [x.sv] [x.sv] [] _ (by simp) (by simp [aW,Ln.sv,Ln.cells,bS,bD]) rfl (by simp [aQ]) (by simp [cI]) (fun K hK=>?_)
 conv in fc _ _ _ _=>reduce
 simp -implicitDefEqProofs only [Ln.sv,Ln.cells,go_sem,Int.reduceNegSucc]
 repeat' (first | (simp -implicitDefEqProofs only [go_sem,Int.reduceNegSucc]) | (with_reducible refine aC ?_) | ((first | refine ak (fun hg=>?_) (fun hg=>?_) | refine aI (fun hg=>?_) (fun hg=>?_) | refine aJ (fun hg=>?_) (fun hg=>?_)) <;> try simp -implicitDefEqProofs only [hg,Bool.not_true,Bool.not_false]) | ((with_reducible apply And.intro);focus (first | trivial | omega | decide | (simp -implicitDefEqProofs only [maxLen];omega) | (simp [maxLen,aj,aq,ax,aG,av,aF,aE] <;> omega))) | fail)
 all_goals (try ((first | refine (hK _ _ _ _ [] (cK _ _) ?_).2 | refine (hK _ _ ?_).2 | refine (hK _ _ _ _ [] (cK _ _) ?_).1 | refine (hK _ _ ?_).1 | fail);clear hK;(simp_all [cw,aQ,newL,cD,ct,bH,bF,lk,bO,bV,cj,bW,cU,cT,ag,cC,cO,bh,bT,cn,de,cS,dc,cc,cB,cz,gz,lD]) <;> try omega))
theorem CJ (n m:Int) (hm:0≤m) (hm2:m<4611686018427387904):aP Go.Proofs.Try.prog 107 [.rv (.int .i64 n),.rv (.int .i64 m)] [] [] (.rv (.bool (qD n m))):=by
 refine sR Pz [.int .i64 n,.int .i64 m] _ (by simp) (fun K hK=>?_)
 have e1:IntKind.i64.wrap (0 - m) = -m:=by rw [wrap_i64 (by omega) (by omega)];omega
 conv in fc _ _ _ _=>reduce
 simp -implicitDefEqProofs only [e1,go_sem,Int.reduceNegSucc]
 repeat' (first | (simp -implicitDefEqProofs only [go_sem,Int.reduceNegSucc]) | (with_reducible refine aC ?_) | ((first | refine ak (fun hg=>?_) (fun hg=>?_) | refine aI (fun hg=>?_) (fun hg=>?_) | refine aJ (fun hg=>?_) (fun hg=>?_)) <;> try simp -implicitDefEqProofs only [hg,Bool.not_true,Bool.not_false]) | ((with_reducible apply And.intro);focus (first | trivial | omega | decide | (simp -implicitDefEqProofs only [maxLen];omega) | (simp [maxLen,aj,aq,ax,aG,av,aF,aE] <;> omega))) | fail)
 all_goals (try ((first | refine (hK _ _ _ _ [] (cK _ _) ?_).2 | refine (hK _ _ ?_).2 | refine (hK _ _ _ _ [] (cK _ _) ?_).1 | refine (hK _ _ ?_).1 | fail);clear hK;(simp_all [cw,aQ,newL,cD,ct,bH,bF,lk,bO,bV,cj,bW,cU,cT,ag,cC,cO,bh,bT,cn,de,cS,dc,cc,cB,cz,gz,qD]) <;> try omega))
end Go.ay

namespace Go.ay
open Go
theorem Py:bC Go.Proofs.Try.prog 116 15 (fc Go.Proofs.Try.prog 116 15 []) []:=bP (by kernel_rfl)
theorem Px:bC Go.Proofs.Try.prog 106 43 (fc Go.Proofs.Try.prog 106 43 [(.t 2)]) [(.t 2)]:=bP (by kernel_rfl)
def upto (o:Nat) (k:Nat):List Nat:=(List.range k).map fun q=>o+q*2
theorem Tz {o k:Nat}:upto o (k+1)=upto o k++[o+k*2]:=by simp [upto,List.range_succ]
theorem Jg {o k:Nat}:(upto o k).length=k:=by simp [upto]
theorem CH (i j m o v:Nat) (cs:List RV) (os:List Nat) (h1:i≠j) (h2:i≠m) (h3:j≠m) (hb:os.length<1000) :
 aP Go.Proofs.Try.prog 116 [.ptr i o,.ptr j 0] [(i,.var (cs.map .rv)),(j,.var [.row m v os.length]),(m,.row 1 v (ee i os))] [(j,.var [.row m (v+4) (os.length+4)]),(m,.row 1 (v+4) (ee i (os++upto o 4)))] (.aR []):=by
 refine DF Py [i,j,m] [.var (cs.map .rv),.var [.row 2 v os.length],.row 1 v (ee 0 os)] [.var (cs.map .rv),.var [.row m v os.length],.row 1 v (ee i os)] [.ptr 0 o,.ptr 1 0] _ _ _ (by simp) (by simp [aW,eB,dP,bD,bS,fC,bU,fN,fM,cI,er,aQ]) rfl (by simp [aQ,h1,h2,h3]) rfl (JA Dy (JS (by simp [aW,eB,dP,bD,bS,fC,bU,fN,fM,cI,er,aQ,dP])) (JR rfl)) (fun K hK=>?_)
 conv in fc _ _ _ _=>reduce
 simp -implicitDefEqProofs only [go_sem,Int.reduceNegSucc]
 refine dm (ι:=Nat) (fun k=>[(4,.rv (.int .i64 k)),(0,.ptr 0 o),(1,.ptr 1 0)]) (fun k=>[some (.var (cs.map .rv)),some (.var [.row 2 (v+k) (os.length+k)]),some (.row 1 (v+k) (ee 0 (os++upto o k)))]) (fun k=>k≤4) (fun k=>4 - k) 0 (by simp) (by simpa [upto] using bB (by simp [lk])) (fun k hk K' hN hX hR=>?_)
 simp -implicitDefEqProofs only [go_sem,Int.reduceNegSucc]
 refine ak (fun hg=>?_) (fun hg=>?_)
 ·have aA:k<4:=by simp at hg;omega
  have d1:List.take (os.length+k) (ee 0 (os++upto o k))++[[U.ptr 0 (o+k*2)]]=ee 0 (os++upto o (k+1)):=by
   rw [Tz,List.take_of_length_le (by simp [HK,Jg])]
   simp [ee]
  simp -implicitDefEqProofs only [HK,List.length_append,Jg,go_sem,Int.reduceNegSucc]
  repeat' (first | (simp -implicitDefEqProofs only [go_sem,Int.reduceNegSucc]) | (with_reducible refine aC ?_) | ((first | refine ak (fun hg=>?_) (fun hg=>?_) | refine aI (fun hg=>?_) (fun hg=>?_) | refine aJ (fun hg=>?_) (fun hg=>?_)) <;> try simp -implicitDefEqProofs only [hg,Bool.not_true,Bool.not_false]) | ((with_reducible apply And.intro);focus (first | trivial | omega | decide | (simp -implicitDefEqProofs only [maxLen];omega) | (simp [maxLen,aj,aq,ax,aG,av,aF,aE] <;> omega))) | fail)
  rw [d1,dr (by omega)]
  refine hN (k+1) _ _ (by omega) (by omega) (sZ _ (by simp) ?_ ?_)
  ·simp [pW,ag,bV,cc,bT,eF,yR,cz,Nat.add_assoc]
  ·simp [lk,bh,cn,eF]
 ·have aA:k=4:=by simp at hg;omega
  subst aA
  simp -implicitDefEqProofs only [go_sem,Int.reduceNegSucc]
  refine hX _ _ _ ?_
  repeat' (first | (simp -implicitDefEqProofs only [go_sem,Int.reduceNegSucc]) | (with_reducible refine aC ?_) | ((first | refine ak (fun hg=>?_) (fun hg=>?_) | refine aI (fun hg=>?_) (fun hg=>?_) | refine aJ (fun hg=>?_) (fun hg=>?_)) <;> try simp -implicitDefEqProofs only [hg,Bool.not_true,Bool.not_false]) | ((with_reducible apply And.intro);focus (first | trivial | omega | decide | (simp -implicitDefEqProofs only [maxLen];omega) | (simp [maxLen,aj,aq,ax,aG,av,aF,aE] <;> omega))) | fail)
  refine (hK _ _ _ _ [] (cK _ _) ?_).1
  simp [cw,aQ,newL,cD,ct,bH,bF,lk,bO,bV,cj,bW,cU,cT,ag,cC,cO,bh,bT,cn,de,cS,dc,cc,cB,cz,h1,h2,h3,Ne.symm h1,Ne.symm h2,Ne.symm h3,bT,yR,cz]
theorem SG (i j m o:Nat) (cs:List RV) (h1:i≠j) (h2:i≠m) (h3:j≠m) :
 aP Go.Proofs.Try.prog 116 [.ptr i o,.ptr j 0] [(j,.var [.rv .bZ]),(i,.var (cs.map .rv))] [(j,.var [.row m 4 4]),(m,.row 1 4 (ee i (upto o 4)))] (.aR []):=by
 have:=CH i j m o 0 cs [] h1 h2 h3 (by simp)
 simp -implicitDefEqProofs only [List.length_nil,Nat.zero_add,List.nil_append] at this
 refine DG (e:=1) (o:=0) (m:=m) rfl (by simp [h1,h2]) (Ne.symm h3) (by simp) (by simp) (Kf this ?_)
 intro q
 simp [ee]
 constructor
 ·rintro (h | h | h) <;> simp [h]
 ·rintro (h | h | h) <;> simp [h]
def kB:List Nat:=[2,4,6,8,10,12,14,16,18,20,22,24,26,28,30,32,34,36]
theorem ID (i m:Nat) (s:au) (h1:i≠m) :
 aP Go.Proofs.Try.prog 106 [.ptr i 0] [(i,.var (s.cells.map .rv))] [(m,.row 1 13 (ee i kB))] (.row m 13 18):=by
 refine DF Px [i] [.var (s.cells.map .rv)] [.var (s.cells.map .rv)] [.ptr 0 0] _ _ _ (by simp) (by simp [aW,eB,dP,bD,bS,fC,bU,fN,fM,cI,er,aQ]) rfl (by simp [aQ]) rfl (fun j x y hx hy=>by
  match j with
  | 0=>simp at hx hy;subst hx;subst hy;exact Dy
  | j+1=>simp at hx) (fun K hK=>?_)
 conv in fc _ _ _ _=>reduce
 simp -implicitDefEqProofs only [go_sem,Int.reduceNegSucc]
 refine ck (SG 0 1 2 2 s.cells (by decide) (by decide) (by decide)) (by simp [aV,ag]) (by simp [bf,aY]) ?_
 repeat' (first | (simp -implicitDefEqProofs only [go_sem,Int.reduceNegSucc]) | (with_reducible refine aC ?_) | ((first | refine ak (fun hg=>?_) (fun hg=>?_) | refine aI (fun hg=>?_) (fun hg=>?_) | refine aJ (fun hg=>?_) (fun hg=>?_)) <;> try simp -implicitDefEqProofs only [hg,Bool.not_true,Bool.not_false]) | ((with_reducible apply And.intro);focus (first | trivial | omega | decide | (simp -implicitDefEqProofs only [maxLen];omega) | (simp [maxLen,aj,aq,ax,aG,av,aF,aE] <;> omega))) | fail)
 rw [show List.take 4 (ee 0 (upto 2 4))++[[U.ptr 0 10],[U.ptr 0 12],[U.ptr 0 14],[U.ptr 0 16],[U.ptr 0 18],[U.ptr 0 20]]=ee 0 [2,4,6,8,10,12,14,16,18,20] from rfl]
 refine ck (CH 0 1 2 22 5 s.cells [2,4,6,8,10,12,14,16,18,20] (by decide) (by decide) (by decide) (by decide)) (by simp [aV,ag]) (by simp [bf,aY]) ?_
 repeat' (first | (simp -implicitDefEqProofs only [go_sem,Int.reduceNegSucc]) | (with_reducible refine aC ?_) | ((first | refine ak (fun hg=>?_) (fun hg=>?_) | refine aI (fun hg=>?_) (fun hg=>?_) | refine aJ (fun hg=>?_) (fun hg=>?_)) <;> try simp -implicitDefEqProofs only [hg,Bool.not_true,Bool.not_false]) | ((with_reducible apply And.intro);focus (first | trivial | omega | decide | (simp -implicitDefEqProofs only [maxLen];omega) | (simp [maxLen,aj,aq,ax,aG,av,aF,aE] <;> omega))) | fail)
 refine ck (CH 0 1 2 30 9 s.cells [2,4,6,8,10,12,14,16,18,20,22,24,26,28] (by decide) (by decide) (by decide) (by decide)) (by simp [aV,ag,upto,List.range_succ]) (by simp [bf,aY]) ?_
 repeat' (first | (simp -implicitDefEqProofs only [go_sem,Int.reduceNegSucc]) | (with_reducible refine aC ?_) | ((first | refine ak (fun hg=>?_) (fun hg=>?_) | refine aI (fun hg=>?_) (fun hg=>?_) | refine aJ (fun hg=>?_) (fun hg=>?_)) <;> try simp -implicitDefEqProofs only [hg,Bool.not_true,Bool.not_false]) | ((with_reducible apply And.intro);focus (first | trivial | omega | decide | (simp -implicitDefEqProofs only [maxLen];omega) | (simp [maxLen,aj,aq,ax,aG,av,aF,aE] <;> omega))) | fail)
 refine (hK _ _ _ _ [none,some m,none] (cK _ _) ?_).2
 rw [show 2::4::6::8::10::12::14::16::18::20::22::24::26::28::upto 30 4=kB from rfl]
 simp [cw,aQ,newL,cD,ct,bH,bF,lk,bO,bV,cj,bW,cU,cT,ag,cC,cO,bh,bT,cn,de,cS,dc,cc,cB,cz,h1,Ne.symm h1,bT,yR,cz]
end Go.ay

namespace Go.ay
open Go
theorem Pu:bC Go.Proofs.Try.prog 85 94 (fc Go.Proofs.Try.prog 85 94 [(.t 2)]) [(.t 2)]:=bP (by kernel_rfl)
theorem Pv:bC Go.Proofs.Try.prog 78 63 (fc Go.Proofs.Try.prog 78 63 [(.t 2)]) [(.t 2)]:=bP (by kernel_rfl)
theorem GF (s:au) {k:Nat} (h:k<18):∃ o,kB[k]?=some o∧((s.cells.map U.rv).drop o).take 2=((cM s)[k]'h).cells.map U.rv∧o+2≤48:=by
 have:k=0∨k=1∨k=2∨k=3∨k=4∨k=5∨k=6∨k=7∨k=8∨k=9∨k=10∨k=11∨k=12∨k=13∨k=14∨k=15∨k=16∨k=17:=by omega
 rcases this with rfl | rfl | rfl | rfl | rfl | rfl | rfl | rfl | rfl | rfl | rfl | rfl | rfl | rfl | rfl | rfl | rfl | rfl <;> exact ⟨_,rfl,rfl,by decide⟩
theorem PR (s:au) {k o:Nat} (h:k<18) (ho:kB[k]?=some o):(s.cells.map U.rv)[o]?=some (.rv (.int .i64 ((cM s)[k]'h).kind))∧(s.cells.map U.rv)[o+1]?=some (.rv (.int .i64 ((cM s)[k]'h).n)):=by
 have:k=0∨k=1∨k=2∨k=3∨k=4∨k=5∨k=6∨k=7∨k=8∨k=9∨k=10∨k=11∨k=12∨k=13∨k=14∨k=15∨k=16∨k=17:=by omega
 rcases this with rfl | rfl | rfl | rfl | rfl | rfl | rfl | rfl | rfl | rfl | rfl | rfl | rfl | rfl | rfl | rfl | rfl | rfl <;>(cases ho;exact ⟨rfl,rfl⟩)
theorem HJ {k:Nat} {i o:Nat} (h:kB[k]?=some o):(ee i kB)[k]?.getD []=[.ptr i o]:=by
 simp [ee,List.getElem?_map,h]
def qT (s:au):List Ln:=[s.width,s.height,s.jN,s.jL,s.jM,s.jK]
def qO (s:au) (k:Nat):Bool:=(List.range k).all fun j=>iW (kG s.pad j) (kG s.aK j)
theorem QT (s:au) (k:Nat):qO s (k+1)=(qO s k && iW (kG s.pad k) (kG s.aK k)):=by simp [qO,List.range_succ]
theorem QS (s:au):qO s 4=(iW s.pad.a s.aK.a && iW s.pad.b s.aK.b && iW s.pad.c s.aK.c && iW s.pad.d s.aK.d):=by
 simp [qO,List.range_succ,kG,Bool.and_assoc]
theorem II (s:au):aP Go.Proofs.Try.prog 85 [s.sv] [] [] (.rv (.bool (gq s))):=by
 refine dK Pu [s.sv] _ (by simp) (by simp [aW,bS,dA,bD,bU,au.sv,Ln.sv,Nd.sv]) (fun K hK=>?_)
 have bad:∀ e h,lk e 2 = .rv (.bool false)→gq s=false→K .ret ⟨e,h⟩:=fun e h l2 hf=>(hK _ _ (cm (by rw [l2,hf]))).2
 conv in fc _ _ _ _=>reduce
 simp -implicitDefEqProofs only [au.sv,go_sem,Int.reduceNegSucc]
 refine ck (ID 0 1 s (by decide)) (by simp [aV,ag]) (by simp [bf,aY]) ?_
 simp -implicitDefEqProofs only [go_sem,Int.reduceNegSucc]
 refine dm (ι:=Nat) (fun k=>[(10,.rv (.int .i64 k)),(9,.rv (.int .i64 18)),(8,.row 1 13 18),(1,.ptr 0 0)]) (fun k=>[some (.var (s.cells.map .rv)),some (.row 1 13 (ee 0 kB))]) (fun k=>k≤18∧((cM s).drop k).all lD=(cM s).all lD) (fun k=>18 - k) 0 (by simp) (bB (by simp [lk])) (fun k hk K' hN hX hR=>?_)
 obtain ⟨dn,hk2⟩:=hk
 simp -implicitDefEqProofs only [go_sem,Int.reduceNegSucc]
 refine ak (fun hg=>?_) (fun hg=>?_)
 ·have aA:k<18:=by simp at hg;omega
  obtain ⟨o,ho,pR,Nk⟩:=GF s aA
  have eE:=HJ (i:=0) ho
  have Bd:(ee 0 kB).length=18:=rfl
  have bY:=SW ((cM s)[k]'aA);repeat' (first | (simp -implicitDefEqProofs only [go_sem,Int.reduceNegSucc,eE,Bd,pR]) | (with_reducible refine aC ?_) | (with_reducible first | refine aM bY ?_ | refine aN bY ?_) | ((first | refine ak (fun hg=>?_) (fun hg=>?_) | refine aI (fun hg=>?_) (fun hg=>?_) | refine aJ (fun hg=>?_) (fun hg=>?_)) <;> try simp -implicitDefEqProofs only [hg,Bool.not_true,Bool.not_false]) | ((with_reducible apply And.intro);focus (first | trivial | omega | decide | (simp -implicitDefEqProofs only [maxLen];omega) | (simp [maxLen,aj,aq,ax,aG,av,aF,aE] <;> omega))) | fail)
  ·refine hR _ _ (bad _ _ rfl ?_)
   simp -implicitDefEqProofs only [gq,oz aA hk2 (by simpa using hg),Bool.false_and]
  ·rw [dr (by omega)]
   exact hN (k+1) _ _ ⟨by omega,oA aA hk2 (by simpa using hg)⟩ (by omega) (bB (by simp [lk]))
 ·have aA:k=18:=by simp at hg;omega
  subst aA
  have hall:=oy (by rw [aE];omega) hk2
  simp -implicitDefEqProofs only [go_sem,Int.reduceNegSucc]
  refine hX _ _ _ ?_
  repeat' (first | (simp -implicitDefEqProofs only [go_sem,Int.reduceNegSucc,lM,nc,jR,ng,lX,ny,mq,nK,mH,nV,mM,oe,mN,og,mO,oh,mP,om,mQ,oo,lN,nh,lO,ni,lP,nj,lQ,nk,lR,nq,lS,nr,lT,nt,lU,nu,lV,nv,lW,nw,lY,nA,lZ,nB,mb,nC,mc,nD,me,nE,mg,nF,mh,nG,mj,nH,mm,nI,mo,nJ,mu,nL,mw,nM,mz,nN,mA,nO,mB,nP,mC,nQ,mD,nR,mE,nS,mF,nT,mG,nU,mI,nW,mJ,nX,mK,nY,kL,nZ,kM,oa,mL,ob,jS,oc,jT,od,mW,mR,mS,mT,mU,mV,mX,mY,mZ,jU,lK,kK,aj,Ln.cells]) | (with_reducible refine aC ?_) | ((first | refine ak (fun hg=>?_) (fun hg=>?_) | refine aI (fun hg=>?_) (fun hg=>?_) | refine aJ (fun hg=>?_) (fun hg=>?_)) <;> try simp -implicitDefEqProofs only [hg,Bool.not_true,Bool.not_false]) | ((with_reducible apply And.intro);focus (first | trivial | omega | decide | (simp -implicitDefEqProofs only [maxLen];omega) | (simp [maxLen,aj,aq,ax,aG,av,aF,aE] <;> omega))) | fail)
  refine dm (ι:=Nat) (fun k=>[(34,.rv (.int .i64 k)),(33,.rv (.int .i64 6)),(32,.row 2 0 6),(1,.ptr 0 0)]) (fun k=>[some (.var (s.cells.map .rv)),some (.row 1 13 (ee 0 kB)),some (.row 2 0 (ah (iT (qT s))))]) (fun k=>k≤6∧((qT s).drop k).all (fun x=>decide (0≤x.n))=(qT s).all (fun x=>decide (0≤x.n))) (fun k=>6 - k) 0 (by simp) (bB (by simp [lk])) (fun k hk K' hN hX hR=>?_)
  obtain ⟨dn,hk2⟩:=hk
  simp -implicitDefEqProofs only [go_sem,Int.reduceNegSucc]
  refine ak (fun hg=>?_) (fun hg=>?_)
  ·have aA:k<6:=by simp at hg;omega
   have hx:=BI (l:=qT s) aA
   have Nc:(iT (qT s)).length=6:=rfl
   repeat' (first | (simp -implicitDefEqProofs only [go_sem,Int.reduceNegSucc,hx,Nc,Ln.cells]) | (with_reducible refine aC ?_) | ((first | refine ak (fun hg=>?_) (fun hg=>?_) | refine aI (fun hg=>?_) (fun hg=>?_) | refine aJ (fun hg=>?_) (fun hg=>?_)) <;> try simp -implicitDefEqProofs only [hg,Bool.not_true,Bool.not_false]) | ((with_reducible apply And.intro);focus (first | trivial | omega | decide | (simp -implicitDefEqProofs only [maxLen];omega) | (simp [maxLen,aj,aq,ax,aG,av,aF,aE] <;> omega))) | fail)
   ·refine hR _ _ (bad _ _ rfl ?_)
    simp -implicitDefEqProofs only [gq]
    rw [show [s.width,s.height,s.jN,s.jL,s.jM,s.jK]=qT s from rfl,oz aA hk2 (by simp at hg ⊢;omega)]
    simp
   ·rw [dr (by omega)]
    exact hN (k+1) _ _ ⟨by omega,oA aA hk2 (by simp at hg ⊢;omega)⟩ (by omega) (sZ _ (by simp) (by simp [pW,ag,bV,cz,yR,cC,eF]) (by simp [lk,bh,cn,bT,eF]))
  ·have aA:k=6:=by simp at hg;omega
   subst aA
   have Mv:=oy (by simp [qT]) hk2
   simp -implicitDefEqProofs only [go_sem,Int.reduceNegSucc]
   refine hX _ _ _ ?_
   repeat' (first | (simp -implicitDefEqProofs only [go_sem,Int.reduceNegSucc]) | (with_reducible refine aC ?_) | ((first | refine ak (fun hg=>?_) (fun hg=>?_) | refine aI (fun hg=>?_) (fun hg=>?_) | refine aJ (fun hg=>?_) (fun hg=>?_)) <;> try simp -implicitDefEqProofs only [hg,Bool.not_true,Bool.not_false]) | ((with_reducible apply And.intro);focus (first | trivial | omega | decide | (simp -implicitDefEqProofs only [maxLen];omega) | (simp [maxLen,aj,aq,ax,aG,av,aF,aE] <;> omega))) | fail)
   refine dm (ι:=Nat) (fun k=>[(42,.rv (.int .i64 k)),(1,.ptr 0 0)]) (fun k=>[some (.var (s.cells.map .rv))]) (fun k=>k≤4∧qO s k=true) (fun k=>4 - k) 0 (by simp [qO]) (sZ _ (by simp) (by simp [pW,ag,bV,cz,eF]) (by simp [lk,bh,cn,bT,eF])) (fun k hk K' hN hX hR=>?_)
   obtain ⟨dn,hk2⟩:=hk
   simp -implicitDefEqProofs only [go_sem,Int.reduceNegSucc]
   refine ak (fun hg=>?_) (fun hg=>?_)
   ·have aA:k<4:=by simp at hg;omega
    have hn:iW (kG s.pad k) (kG s.aK k)=true→qO s (k+1)=true:=fun h=>by rw [QT,hk2,h];rfl
    have hb:iW (kG s.pad k) (kG s.aK k)=false→gq s=false:=fun h=>by
     have:k=0∨k=1∨k=2∨k=3:=by omega
     rcases this with rfl | rfl | rfl | rfl <;> simp_all [gq,kG]
    have:k=0∨k=1∨k=2∨k=3:=by omega
    rcases this with rfl | rfl | rfl | rfl
    all_goals
     repeat' (first | (simp -implicitDefEqProofs only [go_sem,Int.reduceNegSucc,lM,nc,jR,ng,lX,ny,mq,nK,mH,nV,mM,oe,mN,og,mO,oh,mP,om,mQ,oo,lN,nh,lO,ni,lP,nj,lQ,nk,lR,nq,lS,nr,lT,nt,lU,nu,lV,nv,lW,nw,lY,nA,lZ,nB,mb,nC,mc,nD,me,nE,mg,nF,mh,nG,mj,nH,mm,nI,mo,nJ,mu,nL,mw,nM,mz,nN,mA,nO,mB,nP,mC,nQ,mD,nR,mE,nS,mF,nT,mG,nU,mI,nW,mJ,nX,mK,nY,kL,nZ,kM,oa,mL,ob,jS,oc,jT,od,mW,mR,mS,mT,mU,mV,mX,mY,mZ,jU,lK,kK,aj]) | (with_reducible refine aC ?_) | ((first | refine ak (fun hg=>?_) (fun hg=>?_) | refine aI (fun hg=>?_) (fun hg=>?_) | refine aJ (fun hg=>?_) (fun hg=>?_)) <;> try simp -implicitDefEqProofs only [hg,Bool.not_true,Bool.not_false]) | ((with_reducible apply And.intro);focus (first | trivial | omega | decide | (simp -implicitDefEqProofs only [maxLen];omega) | (simp [maxLen,aj,aq,ax,aG,av,aF,aE] <;> omega))) | fail)
    all_goals first
     | (refine hR _ _ (bad _ _ rfl (hb ?_));clear hN hX hR hb hn bad hK;simp_all [iW,kG,gz];done)
     | (rw [dr (by omega)];refine hN _ _ _ ⟨by omega,hn ?_⟩ (by omega) (bB (by simp [lk]));clear hN hX hR hb hn bad hK;simp_all [iW,kG,gz];done)
   ·have aA:k=4:=by simp at hg;omega
    subst aA
    rw [QS] at hk2
    simp -implicitDefEqProofs only [go_sem,Int.reduceNegSucc]
    refine hX _ _ _ ?_
    have fin:∀ e h,lk e 2 = .rv (.bool (ue s))→K .ret ⟨e,h⟩:=fun e h l2=>(hK _ _ (cm (by rw [l2,gq,hall,hk2];rw [show [s.width,s.height,s.jN,s.jL,s.jM,s.jK]=qT s from rfl,Mv];rfl))).2
    clear hK hN hX hR bad
    repeat' (first | (simp -implicitDefEqProofs only [go_sem,Int.reduceNegSucc,lM,nc,jR,ng,lX,ny,mq,nK,mH,nV,mM,oe,mN,og,mO,oh,mP,om,mQ,oo,lN,nh,lO,ni,lP,nj,lQ,nk,lR,nq,lS,nr,lT,nt,lU,nu,lV,nv,lW,nw,lY,nA,lZ,nB,mb,nC,mc,nD,me,nE,mg,nF,mh,nG,mj,nH,mm,nI,mo,nJ,mu,nL,mw,nM,mz,nN,mA,nO,mB,nP,mC,nQ,mD,nR,mE,nS,mF,nT,mG,nU,mI,nW,mJ,nX,mK,nY,kL,nZ,kM,oa,mL,ob,jS,oc,jT,od,mW,mR,mS,mT,mU,mV,mX,mY,mZ,jU,lK,kK,aj]) | (with_reducible refine aC ?_) | ((first | refine ak (fun hg=>?_) (fun hg=>?_) | refine aI (fun hg=>?_) (fun hg=>?_) | refine aJ (fun hg=>?_) (fun hg=>?_)) <;> try simp -implicitDefEqProofs only [hg,Bool.not_true,Bool.not_false]) | ((with_reducible apply And.intro);focus (first | trivial | omega | decide | (simp -implicitDefEqProofs only [maxLen];omega) | (simp [maxLen,aj,aq,ax,aG,av,aF,aE] <;> omega))) | fail)
    all_goals (refine fin _ _ ?_;(simp_all [lk,ue,gz]) <;>(try (intros;omega)))
theorem SU (s:au):aP Go.Proofs.Try.prog 78 [s.sv] [] [] (.rv (.bool (iz s))):=by
 refine dK Pv [s.sv] _ (by simp) (by simp [aW,bS,dA,bD,bU,au.sv,Ln.sv,Nd.sv]) (fun K hK=>?_)
 have bad:∀ e h,lk e 2 = .rv (.bool false)→iz s=false→K .ret ⟨e,h⟩:=fun e h l2 hf=>(hK _ _ (cm (by rw [l2,hf]))).2
 conv in fc _ _ _ _=>reduce
 simp -implicitDefEqProofs only [au.sv,go_sem,Int.reduceNegSucc]
 refine ck (ID 0 1 s (by decide)) (by simp [aV,ag]) (by simp [bf,aY]) ?_
 simp -implicitDefEqProofs only [go_sem,Int.reduceNegSucc]
 refine dm (ι:=Nat) (fun k=>[(9,.rv (.int .i64 k)),(8,.rv (.int .i64 18)),(7,.row 1 13 18),(1,.ptr 0 0)]) (fun k=>[some (.var (s.cells.map .rv)),some (.row 1 13 (ee 0 kB))]) (fun k=>k≤18∧((cM s).drop k).all oS=(cM s).all oS) (fun k=>18 - k) 0 (by simp) (bB (by simp [lk])) (fun k hk K' hN hX hR=>?_)
 obtain ⟨dn,hk2⟩:=hk
 simp -implicitDefEqProofs only [go_sem,Int.reduceNegSucc]
 refine ak (fun hg=>?_) (fun hg=>?_)
 ·have aA:k<18:=by simp at hg;omega
  obtain ⟨o,ho,pR,Nk⟩:=GF s aA
  have eE:=HJ (i:=0) ho
  have Bd:(ee 0 kB).length=18:=rfl
  obtain ⟨hc0,qy⟩:=PR s aA ho
  have Bb:o<48:=by omega
  have Nl:o+1<48:=by omega
  have gW:∀ e h,lk e 2 = .rv (.bool false)→oS ((cM s)[k]'aA)=false→K .ret ⟨e,h⟩:=fun e h l2 hf=>bad e h l2 (by simp -implicitDefEqProofs only [iz,oz aA hk2 hf,Bool.false_and])
  have nx:∀ e h,oS ((cM s)[k]'aA)=true→cV 0 ⟨e,h⟩ ⟨[(9,.rv (.int .i64 (k+1:Nat))),(8,.rv (.int .i64 18)),(7,.row 1 13 18),(1,.ptr 0 0)],[some (.var (s.cells.map .rv)),some (.row 1 13 (ee 0 kB))]⟩→K' .normal ⟨e,h⟩:=fun e h hf he=>hN (k+1) _ _ ⟨by omega,oA aA hk2 hf⟩ (by omega) he
  have wu:=dr (k:=k) (by omega)
  generalize (cM s)[k]'aA=x at *
  have y_2:=CJ x.n 1099511627776 (by decide) (by decide);have di:=CJ x.n 1000000 (by decide) (by decide);repeat' (first | (simp -implicitDefEqProofs only [go_sem,Int.reduceNegSucc,eE,Bd,hc0,qy,wu]) | (with_reducible refine aC ?_) | (with_reducible first | refine aM y_2 ?_ | refine aN y_2 ?_) | (with_reducible first | refine aM di ?_ | refine aN di ?_) | ((first | refine ak (fun hg=>?_) (fun hg=>?_) | refine aI (fun hg=>?_) (fun hg=>?_) | refine aJ (fun hg=>?_) (fun hg=>?_)) <;> try simp -implicitDefEqProofs only [hg,Bool.not_true,Bool.not_false]) | ((with_reducible apply And.intro);focus (first | trivial | omega | decide | (simp -implicitDefEqProofs only [maxLen];omega) | (simp [maxLen,aj,aq,ax,aG,av,aF,aE] <;> omega))) | fail)
  all_goals first
   | (refine hR _ _ (gW _ _ rfl ?_);clear hN hX hR bad gW nx hK;simp_all [oS,gz];done)
   | (refine nx _ _ ?_ (bB (by simp [lk]));clear hN hX hR bad gW nx hK;simp_all [oS,gz];done)
 ·have aA:k=18:=by simp at hg;omega
  subst aA
  have hall:=oy (by rw [aE];omega) hk2
  simp -implicitDefEqProofs only [go_sem,Int.reduceNegSucc]
  refine hX _ _ _ ?_
  repeat' (first | (simp -implicitDefEqProofs only [go_sem,Int.reduceNegSucc,lM,nc,jR,ng,lX,ny,mq,nK,mH,nV,mM,oe,mN,og,mO,oh,mP,om,mQ,oo,lN,nh,lO,ni,lP,nj,lQ,nk,lR,nq,lS,nr,lT,nt,lU,nu,lV,nv,lW,nw,lY,nA,lZ,nB,mb,nC,mc,nD,me,nE,mg,nF,mh,nG,mj,nH,mm,nI,mo,nJ,mu,nL,mw,nM,mz,nN,mA,nO,mB,nP,mC,nQ,mD,nR,mE,nS,mF,nT,mG,nU,mI,nW,mJ,nX,mK,nY,kL,nZ,kM,oa,mL,ob,jS,oc,jT,od,mW,mR,mS,mT,mU,mV,mX,mY,mZ,jU,lK,kK,aj]) | (with_reducible refine aC ?_) | ((first | refine ak (fun hg=>?_) (fun hg=>?_) | refine aI (fun hg=>?_) (fun hg=>?_) | refine aJ (fun hg=>?_) (fun hg=>?_)) <;> try simp -implicitDefEqProofs only [hg,Bool.not_true,Bool.not_false]) | ((with_reducible apply And.intro);focus (first | trivial | omega | decide | (simp -implicitDefEqProofs only [maxLen];omega) | (simp [maxLen,aj,aq,ax,aG,av,aF,aE] <;> omega))) | fail)
  refine dm (ι:=Nat) (fun k=>[(44,.rv (.int .i64 k)),(43,.agg (s.aK.ints.map .rv)),(1,.ptr 0 0)]) (fun k=>[some (.var (s.cells.map .rv))]) (fun k=>k≤4∧(s.aK.list.drop k).all (fun n=>decide (n≤1099511627776))=s.aK.list.all (fun n=>decide (n≤1099511627776))) (fun k=>4 - k) 0 (by simp) (sZ _ (by simp) (by simp [pW,ag,bV,cz,eF]) (by simp [lk,bh,cn,bT,cS,cz,eF])) (fun k hk K' hN hX hR=>?_)
  obtain ⟨dn,hk2⟩:=hk
  simp -implicitDefEqProofs only [go_sem,Int.reduceNegSucc]
  refine ak (fun hg=>?_) (fun hg=>?_)
  ·have aA:k<4:=by simp at hg;omega
   have hx:(s.aK.ints.map U.rv)[k*1]?.getD .dead = .rv (.int .i64 (s.aK.list[k]'aA)):=by
    have:k=0∨k=1∨k=2∨k=3:=by omega
    rcases this with rfl | rfl | rfl | rfl <;> rfl
   have Nb:s.aK.ints.length=4:=rfl
   repeat' (first | (simp -implicitDefEqProofs only [go_sem,Int.reduceNegSucc,hx,Nb]) | (with_reducible refine aC ?_) | ((first | refine ak (fun hg=>?_) (fun hg=>?_) | refine aI (fun hg=>?_) (fun hg=>?_) | refine aJ (fun hg=>?_) (fun hg=>?_)) <;> try simp -implicitDefEqProofs only [hg,Bool.not_true,Bool.not_false]) | ((with_reducible apply And.intro);focus (first | trivial | omega | decide | (simp -implicitDefEqProofs only [maxLen];omega) | (simp [maxLen,aj,aq,ax,aG,av,aF,aE] <;> omega))) | fail)
   ·refine hR _ _ (bad _ _ rfl ?_)
    simp -implicitDefEqProofs only [iz]
    rw [oz (l:=s.aK.list) aA hk2 (by simp at hg ⊢;omega)]
    simp
   ·rw [dr (by omega)]
    exact hN (k+1) _ _ ⟨by omega,oA (l:=s.aK.list) aA hk2 (by simp at hg ⊢;omega)⟩ (by omega) (bB (by simp [lk]))
  ·have aA:k=4:=by simp at hg;omega
   subst aA
   have hb:=oy (l:=s.aK.list) (by simp [Q4.list]) hk2
   simp -implicitDefEqProofs only [go_sem,Int.reduceNegSucc]
   refine hX _ _ _ ?_
   have fin:∀ e h,lk e 2 = .rv (.bool (qD s.z 1073741824 && decide (s.back≤16777216) && decide (s.line≤16777216)))→K .ret ⟨e,h⟩:=fun e h l2=>(hK _ _ (cm (by rw [l2,iz,hall,hb];rfl))).2
   clear hK hN hX hR bad
   have dH:=CJ s.z 1073741824 (by decide) (by decide);repeat' (first | (simp -implicitDefEqProofs only [go_sem,Int.reduceNegSucc,lM,nc,jR,ng,lX,ny,mq,nK,mH,nV,mM,oe,mN,og,mO,oh,mP,om,mQ,oo,lN,nh,lO,ni,lP,nj,lQ,nk,lR,nq,lS,nr,lT,nt,lU,nu,lV,nv,lW,nw,lY,nA,lZ,nB,mb,nC,mc,nD,me,nE,mg,nF,mh,nG,mj,nH,mm,nI,mo,nJ,mu,nL,mw,nM,mz,nN,mA,nO,mB,nP,mC,nQ,mD,nR,mE,nS,mF,nT,mG,nU,mI,nW,mJ,nX,mK,nY,kL,nZ,kM,oa,mL,ob,jS,oc,jT,od,mW,mR,mS,mT,mU,mV,mX,mY,mZ,jU,lK,kK,aj]) | (with_reducible refine aC ?_) | (with_reducible first | refine aM dH ?_ | refine aN dH ?_) | ((first | refine ak (fun hg=>?_) (fun hg=>?_) | refine aI (fun hg=>?_) (fun hg=>?_) | refine aJ (fun hg=>?_) (fun hg=>?_)) <;> try simp -implicitDefEqProofs only [hg,Bool.not_true,Bool.not_false]) | ((with_reducible apply And.intro);focus (first | trivial | omega | decide | (simp -implicitDefEqProofs only [maxLen];omega) | (simp [maxLen,aj,aq,ax,aG,av,aF,aE] <;> omega))) | fail)
   all_goals (refine fin _ _ ?_;(simp_all [lk,gz]) <;>(try (intros;omega)))
end Go.ay
