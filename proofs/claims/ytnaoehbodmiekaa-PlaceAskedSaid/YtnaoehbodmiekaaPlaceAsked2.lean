/- Part 2 of the proof: EngO, EngP, EngQ, EngR, EngS, EngT, EngU, EngV, EngW, EngX, EngY, EngZ, EngZa, EngZb, EngZc, EngZd, K0, KF, KJ, T0, T1, T2, K1, K2. -/
import Derived.Test.YtnaoehbodmiekaaPlaceAsked1
import Derived.ProofKit
import Derived.OpenShut
import Derived.Below
import Derived.Test.YtnaoehbodmiekaaProg
import Derived.KernelRfl
set_option linter.unusedSimpArgs false
set_option linter.unusedVariables false
set_option maxRecDepth 100000
set_option maxHeartbeats 16000000
namespace Go.aG
open Go
structure St where
 env:List (Nat×U)
 h:List (Option HB)
def lk:List (Nat×U)→Nat→U
 | [],_=>.dead
 | (m,v)::r,n=>if m=n then v else lk r n
def ag (h:List (Option HB)) (id:Nat):Option HB:=match h[id]? with
 | some x=>x
 | none=>none
def cu (dst:Option Nat) (v:U) (env:List (Nat×U)):List (Nat×U):=match dst with
 | some d=>(d,v)::env
 | none=>env
def aT (h:List (Option HB)) (q:Nat×HB):List (Option HB):=if q.1=h.length then h++[some q.2] else h.set q.1 (some q.2)
def th (h:List (Option HB)):Option (Nat×HB)→List (Option HB)
 | none=>h
 | some q=>aT h q
def fO:List (Option HB)→List (Nat×HB)→List (Option HB)
 | h,[]=>h
 | h,q::r=>fO (aT h q) r
def aW (pre:List (Nat×HB)):List (Option HB)→List (Nat×HB)→Prop
 | _,[]=>True
 | h,q::r=>(q.1=h.length∨(q.1<h.length∧∃ hb,(q.1,hb)∈pre))∧aW pre (aT h q) r
theorem sM (env:List (Nat×U)) (d:Nat) (v:U):lk ((d,v)::env)=up (lk env) d v:=by
 funext n
 simp only [lk,up]
 by_cases h:d=n
 ·simp [h]
 ·rw [if_neg h,if_neg (Ne.symm h)]
theorem qR (h:List (Option HB)) (q:Nat×HB):h.length≤(aT h q).length:=by
 unfold aT;split <;> simp
theorem uX {h:List (Option HB)} {q:Nat×HB} (hq:q.1≤h.length):ag (aT h q)=up (ag h) q.1 (some q.2):=by
 funext id
 unfold aT ag up
 by_cases he:q.1=h.length
 ·rw [if_pos he]
  by_cases hi:id=q.1
  ·subst hi;simp [he]
  ·rw [if_neg hi]
   show _=(match h[id]? with | some x=>x | none=>none)
   by_cases hl:id<h.length
   ·rw [List.getElem?_append_left hl]
   ·rw [List.getElem?_append_right (by omega),List.getElem?_eq_none (l:=h) (by omega),List.getElem?_eq_none (by simp;omega)]
 ·rw [if_neg he,List.getElem?_set]
  by_cases hi:id=q.1
  ·subst hi
   have:q.1<h.length:=by omega
   simp [this]
  ·rw [if_neg (Ne.symm hi),if_neg hi]
theorem rZ {pre:List (Nat×HB)}:∀ {us:List (Nat×HB)} {h:List (Option HB)},aW pre h us→ag (fO h us)=bf (ag h) us∧h.length≤(fO h us).length
 | [],h,_=>⟨rfl,Nat.le_refl _⟩
 | q::r,h,hk=>by
   obtain ⟨h1,h2⟩:=hk
   have hle:q.1≤h.length:=by rcases h1 with h1 | ⟨h1,_⟩ <;> omega
   obtain ⟨g1,g2⟩:=rZ h2
   refine ⟨?_,Nat.le_trans (qR h q) g2⟩
   obtain ⟨id,hb⟩:=q
   rw [fO,g1,uX hle];rfl
structure ee (C:Ctx) (n0:Nat) (s:St) (a:Act) (w:World):Prop where
 rep:∃ aa,eC C (lk s.env) (ag s.h) a w aa
 sJ:n0≤s.h.length
 h0:∀ id,n0≤id→C.h0 id=none
theorem CG {C:Ctx} {n0:Nat} {s:St} {a:Act} {w:World} (R:ee C n0 s a w) {pre:List (Nat×HB)}:∀ {us:List (Nat×HB)} {h:List (Option HB)},s.h.length≤h.length→aW pre h us→oy C (ag s.h) pre us
 | [],h,_,_=>fun q hq=>by simp at hq
 | p::r,h,hl,hk=>fun q hq=>by
   rcases List.mem_cons.1 hq with rfl | hq
   ·rcases hk.1 with h1 | ⟨_,h1⟩
    ·refine .inr ⟨?_,R.h0 _ (by have:=R.sJ;omega)⟩
     unfold ag
     rw [List.getElem?_eq_none (by omega)]
    ·exact .inl h1
   ·exact CG R (h:=aT h p) (by have:=qR h p;omega) hk.2 q hq
theorem Dc {w:World} {ok:Nat→Prop} {aa:Nat→Option Nat} {hp:Hp}:Rp w ok aa hp (.aM []) undef:=.aM [] [] rfl (fun j y hj=>by simp at hj)
theorem MW {w:World} {ok:Nat→Prop} {aa:Nat→Option Nat} {hp:Hp} {v:Value} (h:Rp w ok aa hp (.aM []) v):v=undef:=by
 cases h with
 | aM _ vs hl _=>
   have:vs=[]:=List.eq_nil_of_length_eq_zero (by simpa using hl)
   subst this;rfl
def eZ (en:Nat→U):Option (Nat×Bool)→Option Bool
 | none=>some true
 | some (d,b)=>match en d with
   | .rv (.bool t)=>some (t == b)
   | .aM []=>some false
   | _=>none
def ng (P:Program) (f:FuncId) (args:List U) (h:List (Option HB)) (K:U→List (Option HB)→Prop):Prop:=
 ∃ pre us sv,aI P f args pre us sv∧aS (ag h) pre∧aW pre h us∧K sv (fO h us)
def tZ (P:Program) (h:List (Option HB)) (K:U→List (Option HB)→Prop):List U→Prop
 | .fn f caps::args=>ng P f (args++caps) h K
 | .bT f caps::args=>ng P f (caps++args) h K
 | _=>False
def sE (P:Program) (name:String) (h:List (Option HB)) (K:U→List (Option HB)→Prop):List U→Prop
 | s::args=>match lC s with
   | some (t,x)=>match lD P t name with
     | some (f,none)=>ng P f (x::args) h K
     | some (f,some (n,agg))=>match dD n agg (ag h) x with
       | some (p,y,_,_)=>p∧ng P f (y::args) h K
       | none=>False
     | none=>False
   | none=>False
 | _=>False
def vL (h:List (Option HB)) (K:U→List (Option HB)→Prop):XR→Prop
 | some (p,sv,u,_)=>p∧K sv (th h u)
 | none=>False
def pn (P:Program) (ao:AO) (args:List U) (h:List (Option HB)) (K:U→List (Option HB)→Prop):Prop:=
 match ao with
 | .call f=>ng P f args h K
 | .kX=>tZ P h K args
 | .inv name=>sE P name h K args
 | ao=>vL h K (bz ao args (ag h) h.length)
def RW (P:Program) (K:St→Prop):List aR→St→Prop
 | [],s=>K s
 | op::r,s=>match eZ (lk s.env) op.guard with
   | some true=>pn P op.ao (op.xs.map (dM (lk s.env))) s.h fun sv h'=>RW P K r ⟨cu op.dst sv s.env,h'⟩
   | some false=>RW P K r ⟨cu op.dst (.aM []) s.env,s.h⟩
   | none=>False
theorem Cv {n:Nat} {agg:Bool} {hp:Hp} {x y:U} {p:Prop} {u:Option (Nat×HB)} {rd:List Nat} (h:dD n agg hp x=some (p,y,u,rd)):∀ id∈rd,(hp id).isSome=true:=by
 unfold dD at h
 repeat' split at h
 all_goals first | (cases h;done) | (cases h;simp [*])
def qI (h:List (Option HB)) (rd:List Nat):List (Nat×HB):=rd.filterMap fun id=>(ag h id).map fun hb=>(id,hb)
theorem BS {P:Program} {o:Oper} {name:String} {s x y:U} {t:TypeId} {args:List U} {f:FuncId} {n:Nat} {agg:Bool} {cH:List Operand} (hc:eY P o.op=some (.inv name,cH)) (hi:lC s=some (t,x)) (hf:lD P t name=some (f,some (n,agg))) {h:List (Option HB)} {p:Prop} {u:Option (Nat×HB)} {rd:List Nat} (hE:dD n agg (ag h) x=some (p,y,u,rd)) (ah:p)
 {pre us:List (Nat×HB)} {sv:U} (H:aI P f (y::args) pre us sv) (h2:aS (ag h) pre) (h3:aW pre h us):lU P o (s::args) (qI h rd++pre) us sv∧aS (ag h) (qI h rd++pre)∧aW (qI h rd++pre) h us:=by
 have hrd:=Cv hE
 have hpre:aS (ag h) (qI h rd++pre):=fun q hq=>by
  rcases List.mem_append.1 hq with hq | hq
  ·obtain ⟨id,_,hid⟩:=List.mem_filterMap.1 hq
   cases cj:ag h id with
   | none=>simp [cj] at hid
   | some hb=>simp [cj] at hid;subst hid;exact cj
  ·exact h2 q hq
 have Ma:∀ {us:List (Nat×HB)} {h':List (Option HB)},aW pre h' us→aW (qI h rd++pre) h' us:=by
  intro us
  induction us with
  | nil=>intro h' _;trivial
  | cons q r ih=>
    intro h' hk
    refine ⟨hk.1.imp (fun h=>h) (fun ⟨a,hb,hm⟩=>⟨a,hb,List.mem_append.2 (.inr hm)⟩),ih hk.2⟩
 refine ⟨yP hc hi hf (y:=y) (fun hp hP=>?_) (vM:=pre) (fun q hq=>List.mem_append.2 (.inr hq)) H (fun C hp hnew hP q hq=>?_),hpre,Ma h3⟩
 ·refine ⟨p,u,rd,Cu hE (fun id hid=>?_),ah⟩
  obtain ⟨hb,mc⟩:=Option.isSome_iff_exists.1 (hrd id hid)
  rw [mc]
  exact hP (id,hb) (List.mem_append.2 (.inl (List.mem_filterMap.2 ⟨id,hid,by simp [mc]⟩)))
 ·rcases hnew q hq with ⟨hb,hm⟩ | hn
  ·rcases List.mem_append.1 hm with hm | hm
   ·
    have:∀ {us:List (Nat×HB)} {h':List (Option HB)},aW pre h' us→∀ q∈us,(∃ hb,(q.1,hb)∈pre)∨h'.length≤q.1:=by
     intro us
     induction us with
     | nil=>intro h' _ q hq;simp at hq
     | cons r l ih=>
       intro h' hk q hq
       rcases List.mem_cons.1 hq with rfl | hq
       ·rcases hk.1 with h1 | ⟨_,h1⟩
        ·exact .inr (by omega)
        ·exact .inl h1
       ·rcases ih hk.2 q hq with h1 | h1
        ·exact .inl h1
        ·exact .inr (by have:=qR h' r;omega)
    rcases this h3 q hq with h1 | h1
    ·exact .inl h1
    ·exfalso
     obtain ⟨id,_,hid⟩:=List.mem_filterMap.1 hm
     cases cj:ag h id with
     | none=>simp [cj] at hid
     | some hb'=>
       simp [cj] at hid
       have:id<h.length:=by
        unfold ag at cj
        cases hl:h[id]? with
        | none=>simp [hl] at cj
        | some x=>exact (List.getElem?_eq_some_iff.1 hl).1
       omega
   ·exact .inl ⟨hb,hm⟩
  ·exact .inr hn
theorem Mf {P:Program} {o:Oper} {ao:AO} {cH:List Operand} (hc:eY P o.op=some (ao,cH)) {args:List U} {h:List (Option HB)} {K:U→List (Option HB)→Prop} (hW:pn P ao args h K) :
 ∃ pre us sv,lU P o args pre us sv∧aS (ag h) pre∧aW pre h us∧K sv (fO h us):=by
 unfold pn at hW
 split at hW
 ·obtain ⟨pre,us,sv,h1,h2,h3,h4⟩:=hW
  exact ⟨pre,us,sv,CJ hc h1,h2,h3,h4⟩
 ·unfold tZ at hW
  split at hW
  ·obtain ⟨pre,us,sv,h1,h2,h3,h4⟩:=hW
   exact ⟨pre,us,sv,CM hc h1,h2,h3,h4⟩
  ·obtain ⟨pre,us,sv,h1,h2,h3,h4⟩:=hW
   exact ⟨pre,us,sv,CL hc h1,h2,h3,h4⟩
  ·exact hW.elim
 ·unfold sE at hW
  split at hW
  ·rename_i s dV
   split at hW
   ·rename_i t x hi
    split at hW
    ·rename_i f hf
     obtain ⟨pre,us,sv,h1,h2,h3,h4⟩:=hW
     exact ⟨pre,us,sv,yP hc hi hf (y:=x) (fun hp hP=>rfl) (fun q hq=>hq) h1 (fun C hp hn _=>hn),h2,h3,h4⟩
    ·rename_i f n agg hf
     split at hW
     ·rename_i p y u rd hE
      obtain ⟨ah,pre,us,sv,h1,h2,h3,h4⟩:=hW
      obtain ⟨g1,g2,g3⟩:=BS hc hi hf hE ah h1 h2 h3
      exact ⟨_,us,sv,g1,g2,g3,h4⟩
     ·exact hW.elim
    ·exact hW.elim
   ·exact hW.elim
  ·exact hW.elim
 ·unfold vL at hW
  split at hW
  ·rename_i p sv u rd hE
   obtain ⟨hp,hK⟩:=hW
   have sr:ag h h.length=none:=by unfold ag;rw [List.getElem?_eq_none (Nat.le_refl _)]
   refine ⟨_,tf u,sv,CN hc hE hp sr,fun q hq=>?_,?_,?_⟩
   ·obtain ⟨id,_,hid⟩:=List.mem_filterMap.1 hq
    cases cj:ag h id with
    | none=>simp [cj] at hid
    | some hb=>simp [cj] at hid;subst hid;exact cj
   ·cases u with
    | none=>trivial
    | some q=>
      have ur:=yO hE
      refine ⟨?_,trivial⟩
      rcases ur.1 q rfl with h1 | h1
      ·exact .inl h1
      ·right
       have hs:=ur.2 _ h1
       obtain ⟨hb,mc⟩:=Option.isSome_iff_exists.1 hs
       refine ⟨?_,hb,List.mem_filterMap.2 ⟨q.1,h1,by simp [mc]⟩⟩
       unfold ag at mc
       cases hl:h[q.1]? with
       | none=>simp [hl] at mc
       | some x=>exact (List.getElem?_eq_some_iff.1 hl).1
   ·cases u with
    | none=>exact hK
    | some q=>exact hK
  ·exact hW.elim
theorem xx {C:Ctx} {en:Nat→U} {hp:Hp} {a:Act} {w:World} {aa:Nat→Option Nat} (RF:eC C en hp a w aa) {ops:Array Oper} {o:Oper} {N:Nat} {P:Program} {op:aR} (hc:gU P ops N o=some op) {b:Bool} (h:eZ en op.guard=some b):Region.wanted o (yielded ops a.tmps)=b:=by
 unfold gU at hc
 split at hc
 ·cases hc
 ·split at hc
  ·cases hc
  ·split at hc
   ·split at hc
    ·rename_i hg
     cases hc
     simp only [eZ,Option.some.injEq] at h
     simp [Region.wanted,hg,← h]
    ·rename_i j b' hg
     split at hc
     ·rename_i d hd
      cases hc
      simp only [eZ] at h
      split at h
      ·rename_i t ht
       simp only [Option.some.injEq] at h
       have:=RF.env d
       rw [ht] at this
       have hv:=pF this
       have IK:a.tmps[d]?=some (.bool t):=by
        rw [Array.getD_eq_getD_getElem?] at hv
        cases hx:a.tmps[d]? with
        | none=>simp [hx,undef] at hv
        | some x=>simp [hx] at hv;rw [hv]
       simp only [Region.wanted,hg,yielded,hd,Option.bind_some,IK]
       rw [← h];cases t <;> cases b' <;> rfl
      ·rename_i ht
       simp only [Option.some.injEq] at h
       have:=RF.env d
       rw [ht] at this
       have hv:=MW this
       have hno:yielded ops a.tmps j=none:=by
        simp only [yielded,hd,Option.bind_some]
        rw [Array.getD_eq_getD_getElem?] at hv
        cases hx:a.tmps[d]? with
        | none=>rfl
        | some x=>simp [hx] at hv;rw [hv];rfl
       simp only [Region.wanted,hg,hno]
       rw [← h];rfl
      ·cases h
     ·cases hc
   ·cases hc
theorem wV {P:Program} {ops:Array Oper} {N:Nat} {o:Oper} {op:aR} (hc:gU P ops N o=some op):∃ cH,eY P o.op=some (op.ao,cH)∧pV cH=some op.xs∧o.dst=op.dst∧∀ d,op.dst=some d→d<N:=by
 unfold gU at hc
 split at hc
 ·cases hc
 ·rename_i ao xs hao
  split at hc
  ·cases hc
  ·rename_i ys hys
   split at hc
   ·rename_i hd
    split at hc
    ·cases hc
     exact ⟨xs,hao,hys,rfl,fun d gX=>by have xF:o.dst=some d:=gX;rw [xF] at hd;simpa using hd⟩
    ·split at hc
     ·cases hc
      exact ⟨xs,hao,hys,rfl,fun d gX=>by have xF:o.dst=some d:=gX;rw [xF] at hd;simpa using hd⟩
     ·cases hc
   ·cases hc
theorem eC.CV {C:Ctx} {env:List (Nat×U)} {hp:Hp} {a:Act} {w:World} {aa:Nat→Option Nat} (R:eC C (lk env) hp a w aa) {dst:Option Nat} (hd:∀ d,dst=some d→d<C.N) {s:U} {v:Value} (h:Rp w (an C aa hp) aa hp s v) :
 eC C (lk (cu dst s env)) hp (a.put dst v) w aa:=by
 cases dst with
 | none=>exact R
 | some d=>
   have:=R.put (hd d rfl) h
   rw [← sM] at this;exact this
theorem Dl {P:Program} {C:Ctx} {n0:Nat} {ops:Array Oper} {K:St→Prop} {Q:Exit→Act→World→Prop} (hK:∀ s a w,K s→ee C n0 s a w→Q .normal a w) :
 ∀ (l:List aR) (is:List Nat) (s:St) (a:Act) (w:World),is.length=l.length→(∀ (j i:Nat) (op:aR),is[j]?=some i→l[j]?=some op→∃ o,ops[i]?=some o∧gU P ops C.N o=some op)→
  RW P K l s→ee C n0 s a w→wpOps P ops Q is a w
 | [],[],s,a,w,_,_,h,R=>hK s a w h R
 | [],_::_,s,a,w,hl,_,_,_=>by simp at hl
 | _::_,[],s,a,w,hl,_,_,_=>by simp at hl
 | op::l,i::is,s,a,w,hl,hc,h,R=>by
   obtain ⟨o,ho,fY⟩:=hc 0 i op rfl rfl
   obtain ⟨cH,nD,mM,qh,qi⟩:=wV fY
   have ih:=Dl (P:=P) (ops:=ops) hK l is
   have hl':is.length=l.length:=by simpa using hl
   have gW:∀ (j i:Nat) (op:aR),is[j]?=some i→l[j]?=some op→∃ o,ops[i]?=some o∧gU P ops C.N o=some op:=fun j i op h1 h2=>hc (j+1) i op (by simpa using h1) (by simpa using h2)
   simp only [wpOps,ho]
   unfold RW at h
   cases hg:eZ (lk s.env) op.guard with
   | none=>simp [hg] at h
   | some b=>
     obtain ⟨aa,RF⟩:=R.rep
     have hw:=xx RF fY hg
     cases b with
     | false=>
       rw [hg] at h
       rw [if_neg (by rw [hw];simp)]
       refine ih _ _ _ hl' gW h ⟨⟨aa,?_⟩,R.sJ,R.h0⟩
       rw [qh]
       exact RF.CV qi Dc
     | true=>
       rw [hg] at h
       rw [if_pos hw]
       left
       obtain ⟨pre,us,sv,h1,h2,h3,h4⟩:=Mf nD h
       obtain ⟨g1,g2⟩:=rZ h3
       refine h1 C (ag s.h) w aa a _ _ _ _ nD h2 (CG R (Nat.le_refl _) h3) RF.mem (tJ RF mM) (fun v w' au hS hR=>?_)
       refine ih _ _ _ hl' gW h4 ⟨⟨au,?_⟩,Nat.le_trans R.sJ g2,R.h0⟩
       rw [qh]
       have fu:=RF.step hS
       rw [← g1] at fu hR
       exact fu.CV qi hR
end Go.aG

namespace Go.aG
open Go
structure TE where
 bQ:List Nat
 dst:Option Nat
 pre:List Nat
 us:List Nat
def ie:List XO→List Nat
 | []=>[]
 | .t n::r=>n::ie r
 | .c _::r=>ie r
def lK (op:aR):List Nat:=match op.guard with
 | some (d,_)=>d::ie op.xs
 | none=>ie op.xs
def oH (a b:List Nat):Bool:=a.all fun x=>!b.contains x
def kS (x y:TE):Bool:=
 (match x.dst with
  | some d=>!y.bQ.contains d && !(y.dst == some d)
  | none=>true) &&
 (match y.dst with
  | some d=>!x.bQ.contains d
  | none=>true) && oH x.us y.pre && oH x.us y.us && oH y.us x.pre
def Am (aL:List (List Nat)) (i:Nat) (x:TE):Nat→List TE→Bool
 | _,[]=>true
 | j,y::r=>((aL.getD j []).contains i || kS x y) && Am aL i x (j+1) r
def FA (aL:List (List Nat)):Nat→List TE→Bool
 | _,[]=>true
 | i,x::r=>Am aL i x (i+1) r && FA aL (i+1) r
def ey (o:Oper):List Nat:=(o.after.toList.filter (fun e=>Region.binds .any e)).map (·.on)
inductive EN where
 | skip
 | run (args:List U) (pre us:List (Nat×HB)) (sv:U)
def yL (op:aR) (s:St):EN→St
 | .skip=>⟨cu op.dst (.aM []) s.env,s.h⟩
 | .run _ _ us sv=>⟨cu op.dst sv s.env,fO s.h us⟩
def dJ (op:aR):EN→TE
 | .skip=>⟨lK op,op.dst,[],[]⟩
 | .run _ pre us _=>⟨lK op,op.dst,pre.map (·.1),us.map (·.1)⟩
def Tr (P:Program) (ops:Array Oper):Nat→List aR→St→List EN→St→Prop
 | _,[],s,[],s'=>s=s'
 | i,op::l,s,e::es,s'=>(match e with
    | .skip=>eZ (lk s.env) op.guard=some false
    | .run args pre us sv=>eZ (lk s.env) op.guard=some true∧args=op.xs.map (dM (lk s.env))∧(∀ o,ops[i]?=some o→lU P o args pre us sv)∧aS (ag s.h) pre∧aW pre s.h us)∧Tr P ops (i+1) l (yL op s e) es s'
 | _,_,_,_,_=>False
def bW:List aR→List EN→St→Nat→St
 | op::l,e::es,s,i+1=>bW l es (yL op s e) i
 | _,_,s,_=>s
theorem Tr.length {P:Program} {ops:Array Oper}:∀ {l:List aR} {i:Nat} {s s':St} {es:List EN},Tr P ops i l s es s'→es.length=l.length
 | [],i,s,s',[],_=>rfl
 | [],i,s,s',_::_,h=>h.elim
 | _::_,i,s,s',[],h=>h.elim
 | op::l,i,s,s',e::es,h=>by simp [Tr.length h.2]
theorem Tr.last {P:Program} {ops:Array Oper}:∀ {l:List aR} {i:Nat} {s s':St} {es:List EN},Tr P ops i l s es s'→bW l es s l.length=s'
 | [],i,s,s',[],h=>h
 | [],i,s,s',_::_,h=>h.elim
 | _::_,i,s,s',[],h=>h.elim
 | op::l,i,s,s',e::es,h=>by simpa [bW] using Tr.last h.2
theorem Tr.at_ {P:Program} {ops:Array Oper}:∀ {l:List aR} {i:Nat} {s s':St} {es:List EN},Tr P ops i l s es s'→∀ (j:Nat) (op:aR),l[j]?=some op→∃ e,es[j]?=some e∧bW l es s (j+1)=yL op (bW l es s j) e∧(match e with
 | .skip=>eZ (lk (bW l es s j).env) op.guard=some false
 | .run args pre us sv=>eZ (lk (bW l es s j).env) op.guard=some true∧args=op.xs.map (dM (lk (bW l es s j).env))∧(∀ o,ops[i+j]?=some o→lU P o args pre us sv)∧aS (ag (bW l es s j).h) pre∧aW pre (bW l es s j).h us)
 | [],i,s,s',es,h,j,op,hj=>by simp at hj
 | _::_,i,s,s',[],h,_,_,_=>h.elim
 | PW::l,i,s,s',e::es,h,j,op,hj=>by
   cases j with
   | zero=>
     simp at hj;subst hj
     refine ⟨e,rfl,?_,?_⟩
     ·cases l <;> cases es <;> rfl
     ·have:=h.1
      cases e <;> exact this
   | succ j=>
     have:=Tr.at_ h.2 j op (by simpa using hj)
     obtain ⟨e',h1,h2,h3⟩:=this
     refine ⟨e',by simpa using h1,h2,?_⟩
     rw [show i+(j+1)=i+1+j by omega]
     exact h3
theorem DM {l:List aR} {es:List EN} {s:St} (P:Program) (ops:Array Oper) {i:Nat} {s':St} (h:Tr P ops i l s es s'):∀ j,j≤l.length→s.h.length≤(bW l es s j).h.length:=fun j=>by
 induction j with
 | zero=>intro _;cases l <;> cases es <;> exact Nat.le_refl _
 | succ j ih=>
   intro hj
   obtain ⟨e,h1,h2,h3⟩:=h.at_ j _ (List.getElem?_eq_getElem (by omega))
   rw [h2]
   refine Nat.le_trans (ih (by omega)) ?_
   cases e with
   | skip=>exact Nat.le_refl _
   | run args pre us sv=>exact (rZ h3.2.2.2.2).2
def cnt (L:Nat→Bool):Nat→Nat
 | 0=>0
 | n+1=>cnt L n+(if L n then 0 else 1)
theorem Ah {L L':Nat→Bool}:∀ {n:Nat},(∀ i,i<n→L' i=L i)→cnt L' n=cnt L n
 | 0,_=>rfl
 | n+1,h=>by rw [cnt,cnt,Ah (fun i hi=>h i (by omega)),h n (by omega)]
theorem Aj {L L':Nat→Bool} {j:Nat} (hj:L j=false) (hj':L' j=true) (ho:∀ i,i≠j→L' i=L i):∀ {n:Nat},j<n→cnt L n=cnt L' n+1
 | n+1,h=>by
   rw [cnt,cnt]
   by_cases hn:j=n
   ·subst hn
    rw [Ah (L:=L) (L':=L') (fun i hi=>ho i (by omega)),hj,hj'];simp
   ·rw [Aj hj hj' ho (n:=n) (by omega),ho n (fun e=>hn e.symm)];omega
theorem Ak {L:Nat→Bool}:∀ {n:Nat},cnt L n=0→∀ i,i<n→L i=true
 | n+1,h,i,hi=>by
   rw [cnt] at h
   by_cases hn:i=n
   ·subst hn;cases hL:L i with
    | true=>rfl
    | false=>simp [hL] at h
   ·exact Ak (n:=n) (by omega) i (by omega)
theorem Ag (L:Nat→Bool):∀ n,cnt L n≤n
 | 0=>Nat.le_refl _
 | n+1=>by rw [cnt];have:=Ag L n;split <;> omega
theorem tj {hp ah:Hp}:∀ {us:List (Nat×HB)} {id:Nat},id∈us.map (·.1)→bf hp us id=bf ah us id
 | [],id,h=>by simp at h
 | (i,hb)::r,id,h=>by
   by_cases hr:id∈r.map (·.1)
   ·rw [bf,bf];exact tj hr
   ·have hi:id=i:=by
     rcases List.mem_cons.1 h with h | h
     ·exact h
     ·exact absurd h hr
    subst hi
    have hne:∀ q∈r,q.1≠id:=fun q hq he=>hr (List.mem_map.2 ⟨q,hq,he⟩)
    rw [bf,bf,pJ hne,pJ hne,bJ,bJ]
theorem qL {α:Type} (f:Nat→α) (wr:Nat→Prop) (hs:∀ i,¬ wr i→f (i+1)=f i) {k j:Nat} (va:k≤j) (h:∀ i,k≤i→i<j→¬ wr i):f j=f k:=by
 induction j with
 | zero=>have:k=0:=by omega
         rw [this]
 | succ j ih=>
   by_cases he:k=j+1
   ·rw [he]
   ·rw [hs j (h j (by omega) (by omega)),ih (by omega) (fun i h1 h2=>h i h1 (by omega))]
theorem uv {a b:List Nat} (h:oH a b=true) {x:Nat} (ha:x∈a) (hb:x∈b):False:=by
 unfold oH at h
 rw [List.all_eq_true] at h
 have:=h x ha
 simp at this
 exact this hb
structure eo (P:Program) (ops:Array Oper) (N:Nat) (l:List aR) (es:List EN) (s0 s1:St) (aL:List (List Nat)):Prop where
 tr:Tr P ops 0 l s0 es s1
 size:ops.size=l.length
 comp:∀ (i:Nat) (op:aR),l[i]?=some op→∃ o,ops[i]?=some o∧gU P ops N o=some op
 back:∀ (i:Nat) (o:Oper),ops[i]?=some o→∀ k∈ey o,k<i
 EO:∀ (i:Nat) (o:Oper),ops[i]?=some o→∀ k∈aL.getD i [],∃ (L:List Nat),(∀ x∈L,x∈ey o)∧(k∈L∨∃ x∈L,k∈aL.getD x [])
 ok:∀ (a b:Nat) (yQ yR:aR) (ea eb:EN),a<b→l[a]?=some yQ→l[b]?=some yR→es[a]?=some ea→es[b]?=some eb→a∈aL.getD b []∨kS (dJ yQ ea) (dJ yR eb)=true
section
variable {P:Program} {ops:Array Oper} {N:Nat} {l:List aR} {es:List EN} {s0 s1:St} {aL:List (List Nat)}
def nh (ops:Array Oper) (L:Nat→Bool):Prop:=∀ (i:Nat) (o:Oper),ops[i]?=some o→L i=true→∀ k∈ey o,L k=true
theorem eo.tK (H:eo P ops N l es s0 s1 aL) {L:Nat→Bool} (hc:nh ops L):∀ (i:Nat) (o:Oper),ops[i]?=some o→(∀ k∈ey o,L k=true)→∀ k∈aL.getD i [],L k=true:=by
 intro i
 induction i using Nat.strongRecOn with
 | _ i ih=>
   intro o ho hn k hk
   obtain ⟨ls,h1,h2⟩:=H.EO i o ho k hk
   rcases h2 with h2 | ⟨x,hx,h2⟩
   ·exact hn k (h1 k h2)
   ·have eH:=H.back i o ho x (h1 x hx)
    have hxs:x<ops.size:=by have:=(Array.getElem?_eq_some_iff.1 ho).1;omega
    have BD:=Array.getElem?_eq_getElem hxs
    exact ih x eH _ BD (hc x _ BD (hn x (h1 x hx))) k h2
structure Inv (l:List aR) (es:List EN) (s0:St) (L:Nat→Bool) (en:Nat→U) (hp:Hp):Prop where
 env:∀ m,∃ k,k≤l.length∧en m=lk (bW l es s0 k).env m∧(∀ (i:Nat) (op:aR),i<k→l[i]?=some op→op.dst=some m→L i=true)∧(∀ (i:Nat) (op:aR),k≤i→l[i]?=some op→op.dst=some m→L i=false)
 heap:∀ id,∃ k,k≤l.length∧hp id=ag (bW l es s0 k).h id∧(∀ (i:Nat) (op:aR) (e:EN),i<k→l[i]?=some op→es[i]?=some e→id∈(dJ op e).us→L i=true)∧(∀ (i:Nat) (op:aR) (e:EN),k≤i→l[i]?=some op→es[i]?=some e→id∈(dJ op e).us→L i=false)
theorem eo.xh (H:eo P ops N l es s0 s1 aL) (m i:Nat) (h:∀ op,l[i]?=some op→op.dst≠some m):lk (bW l es s0 (i+1)).env m=lk (bW l es s0 i).env m:=by
 cases hi:l[i]? with
 | none=>
   have hlen:∀ (l:List aR) (es:List EN) (s:St) (i:Nat),l.length≤i→bW l es s (i+1)=bW l es s i:=by
    intro l
    induction l with
    | nil=>intro es s i _;cases i <;> rfl
    | cons op l ih=>
      intro es s i hi
      cases es with
      | nil=>cases i <;> rfl
      | cons e es=>
        cases i with
        | zero=>simp at hi
        | succ i=>simp only [bW];exact ih es _ i (by simpa using hi)
   rw [hlen l es s0 i (List.getElem?_eq_none_iff.1 hi)]
 | some op=>
   obtain ⟨e,_,h2,_⟩:=H.tr.at_ i op hi
   rw [h2]
   have hd:=h op hi
   have hput:∀ v,lk (cu op.dst v (bW l es s0 i).env) m=lk (bW l es s0 i).env m:=fun v=>by
    cases gX:op.dst with
    | none=>rfl
    | some d=>
      rw [gX] at hd
      rw [cu,sM,cv _ _ (fun e=>hd (by rw [e]))]
   cases e <;> exact hput _
theorem eo.xI (H:eo P ops N l es s0 s1 aL) (id i:Nat) (h:∀ op e,l[i]?=some op→es[i]?=some e→id∉(dJ op e).us):ag (bW l es s0 (i+1)).h id=ag (bW l es s0 i).h id:=by
 cases hi:l[i]? with
 | none=>
   have hlen:∀ (l:List aR) (es:List EN) (s:St) (i:Nat),l.length≤i→bW l es s (i+1)=bW l es s i:=by
    intro l
    induction l with
    | nil=>intro es s i _;cases i <;> rfl
    | cons op l ih=>
      intro es s i hi
      cases es with
      | nil=>cases i <;> rfl
      | cons e es=>
        cases i with
        | zero=>simp at hi
        | succ i=>simp only [bW];exact ih es _ i (by simpa using hi)
   rw [hlen l es s0 i (List.getElem?_eq_none_iff.1 hi)]
 | some op=>
   obtain ⟨e,he,h2,h3⟩:=H.tr.at_ i op hi
   rw [h2]
   have hd:=h op e hi he
   cases e with
   | skip=>rfl
   | run args pre us sv=>
     obtain ⟨_,_,_,_,hk⟩:=h3
     show ag (fO (bW l es s0 i).h us) id=_
     rw [(rZ hk).1]
     exact pJ (fun q hq he=>hd (List.mem_map.2 ⟨q,hq,he⟩))
theorem eo.Ei (H:eo P ops N l es s0 s1 aL) {L:Nat→Bool} (hc:nh ops L) {j:Nat} {op:aR} {o:Oper} (hj:l[j]?=some op) (ho:ops[j]?=some o) (hL:L j=false) (hn:∀ k∈ey o,L k=true)
 {m:Nat} (hm:m∈lK op∨op.dst=some m) (i:Nat) (bD:aR) (hi:l[i]?=some bD) (hd:bD.dst=some m):(i<j→L i=true)∧(j<i→L i=false):=by
 obtain ⟨e,he,_⟩:=H.tr.at_ j op hj
 have hlen:=H.tr.length
 have eS:i<es.length:=by rw [hlen];exact (List.getElem?_eq_some_iff.1 hi).1
 have dF:=List.getElem?_eq_getElem eS
 have hdt:∀ e,(dJ bD e).dst=some m:=fun e=>by cases e <;> exact hd
 have BH:∀ e,(dJ op e).bQ=lK op:=fun e=>by cases e <;> rfl
 have Bi:∀ e,(dJ op e).dst=op.dst:=fun e=>by cases e <;> rfl
 refine ⟨fun hij=>?_,fun hji=>?_⟩
 ·rcases H.ok i j bD op _ e hij hi hj dF he with h | h
  ·exact H.tK hc j o ho hn i h
  ·exfalso
   simp only [kS,Bool.and_eq_true] at h
   have ha:=h.1.1.1.1
   rw [hdt] at ha
   rw [BH,Bi] at ha
   rcases hm with hm | hm
   ·simp [hm] at ha
   ·simp [hm] at ha
 ·cases xy:L i with
  | false=>rfl
  | true=>
    exfalso
    rcases H.ok j i op bD e _ hji hj hi he dF with h | h
    ·have ff:=Array.getElem?_eq_getElem (xs:=ops) (i:=i) (by rw [H.size,← hlen];exact eS)
     have:=H.tK hc i _ ff (hc i _ ff xy) j h
     rw [hL] at this;cases this
    ·simp only [kS,Bool.and_eq_true] at h
     have hb:=h.1.1.1.2
     have ha:=h.1.1.1.1
     rw [hdt] at hb
     rw [BH] at hb
     rw [Bi,hdt] at ha
     rcases hm with hm | hm
     ·simp [hm] at hb
     ·simp [hm] at ha
theorem eo.MR (H:eo P ops N l es s0 s1 aL) {L:Nat→Bool} (hc:nh ops L) {en:Nat→U} {hp:Hp} (I:Inv l es s0 L en hp) {j:Nat} {op:aR} {o:Oper} (hj:l[j]?=some op) (ho:ops[j]?=some o) (hL:L j=false) (hn:∀ k∈ey o,L k=true)
 {m:Nat} (hm:m∈lK op∨op.dst=some m):en m=lk (bW l es s0 j).env m:=by
 obtain ⟨k,hk,h1,h2,h3⟩:=I.env m
 rw [h1]
 have hw:=H.Ei hc hj ho hL hn hm
 by_cases va:k≤j
 ·refine (qL (fun i=>lk (bW l es s0 i).env m) (fun i=>∃ bD,l[i]?=some bD∧bD.dst=some m) (fun i hi=>H.xh m i (fun op ho hd=>hi ⟨op,ho,hd⟩)) va (fun i hi1 hi2 ⟨bD,ho,hd⟩=>?_)).symm
  have:=h3 i bD hi1 ho hd
  rw [(hw i bD ho hd).1 hi2] at this;cases this
 ·refine qL (fun i=>lk (bW l es s0 i).env m) (fun i=>∃ bD,l[i]?=some bD∧bD.dst=some m) (fun i hi=>H.xh m i (fun op ho hd=>hi ⟨op,ho,hd⟩)) (by omega) (fun i hi1 hi2 ⟨bD,ho,hd⟩=>?_)
  have:=h2 i bD hi2 ho hd
  by_cases hij:i=j
  ·subst hij;rw [hL] at this;cases this
  ·rw [(hw i bD ho hd).2 (by omega)] at this;cases this
theorem eo.Ej (H:eo P ops N l es s0 s1 aL) {L:Nat→Bool} (hc:nh ops L) {j:Nat} {op:aR} {e:EN} {o:Oper} (hj:l[j]?=some op) (he:es[j]?=some e) (ho:ops[j]?=some o) (hL:L j=false) (hn:∀ k∈ey o,L k=true)
 {id:Nat} (hm:id∈(dJ op e).pre∨id∈(dJ op e).us) (i:Nat) (bD:aR) (ei:EN) (hi:l[i]?=some bD) (dF:es[i]?=some ei) (hd:id∈(dJ bD ei).us):(i<j→L i=true)∧(j<i→L i=false):=by
 have hlen:=H.tr.length
 refine ⟨fun hij=>?_,fun hji=>?_⟩
 ·rcases H.ok i j bD op _ e hij hi hj dF he with h | h
  ·exact H.tK hc j o ho hn i h
  ·exfalso
   simp only [kS,Bool.and_eq_true] at h
   rcases hm with hm | hm
   ·exact uv h.1.1.2 hd hm
   ·exact uv h.1.2 hd hm
 ·cases xy:L i with
  | false=>rfl
  | true=>
    exfalso
    rcases H.ok j i op bD e _ hji hj hi he dF with h | h
    ·have eS:i<es.length:=(List.getElem?_eq_some_iff.1 dF).1
     have ff:=Array.getElem?_eq_getElem (xs:=ops) (i:=i) (by rw [H.size,← hlen];exact eS)
     have:=H.tK hc i _ ff (hc i _ ff xy) j h
     rw [hL] at this;cases this
    ·simp only [kS,Bool.and_eq_true] at h
     rcases hm with hm | hm
     ·exact uv h.2 hd hm
     ·exact uv h.1.2 hm hd
theorem eo.CW (H:eo P ops N l es s0 s1 aL) {L:Nat→Bool} (hc:nh ops L) {en:Nat→U} {hp:Hp} (I:Inv l es s0 L en hp) {j:Nat} {op:aR} {e:EN} {o:Oper} (hj:l[j]?=some op) (he:es[j]?=some e) (ho:ops[j]?=some o) (hL:L j=false) (hn:∀ k∈ey o,L k=true)
 {id:Nat} (hm:id∈(dJ op e).pre∨id∈(dJ op e).us):hp id=ag (bW l es s0 j).h id:=by
 obtain ⟨k,hk,h1,h2,h3⟩:=I.heap id
 rw [h1]
 have hw:=H.Ej hc hj he ho hL hn hm
 by_cases va:k≤j
 ·refine (qL (fun i=>ag (bW l es s0 i).h id) (fun i=>∃ bD ei,l[i]?=some bD∧es[i]?=some ei∧id∈(dJ bD ei).us) (fun i hi=>H.xI id i (fun op e ho he hd=>hi ⟨op,e,ho,he,hd⟩)) va (fun i hi1 hi2 ⟨bD,ei,ho,dF,hd⟩=>?_)).symm
  have:=h3 i bD ei hi1 ho dF hd
  rw [(hw i bD ei ho dF hd).1 hi2] at this;cases this
 ·refine qL (fun i=>ag (bW l es s0 i).h id) (fun i=>∃ bD ei,l[i]?=some bD∧es[i]?=some ei∧id∈(dJ bD ei).us) (fun i hi=>H.xI id i (fun op e ho he hd=>hi ⟨op,e,ho,he,hd⟩)) (by omega) (fun i hi1 hi2 ⟨bD,ei,ho,dF,hd⟩=>?_)
  have:=h2 i bD ei hi2 ho dF hd
  by_cases hij:i=j
  ·subst hij;rw [hL] at this;cases this
  ·rw [(hw i bD ei ho dF hd).2 (by omega)] at this;cases this
def fM (L:Nat→Bool) (j:Nat):Nat→Bool:=fun i=>if i=j then true else L i
theorem eo.BT (H:eo P ops N l es s0 s1 aL) {L:Nat→Bool} (hc:nh ops L) {en:Nat→U} {hp:Hp} (I:Inv l es s0 L en hp) {j:Nat} {op:aR} {e:EN} {o:Oper} (hj:l[j]?=some op) (he:es[j]?=some e) (ho:ops[j]?=some o) (hL:L j=false) (hn:∀ k∈ey o,L k=true)
 {mI:Nat→U} {ah:Hp} (h1:∀ m,op.dst=some m→mI m=lk (bW l es s0 (j+1)).env m) (h2:∀ m,op.dst≠some m→mI m=en m) (h3:∀ id,id∈(dJ op e).us→ah id=ag (bW l es s0 (j+1)).h id) (h4:∀ id,id∉(dJ op e).us→ah id=hp id) :
 Inv l es s0 (fM L j) mI ah:=by
 have hjl:=(List.getElem?_eq_some_iff.1 hj).1
 have wo:∀ i,L i=true→fM L j i=true:=fun i h=>by unfold fM;split <;> simp [h]
 refine ⟨fun m=>?_,fun id=>?_⟩
 ·by_cases hm:op.dst=some m
  ·have hw:=H.Ei hc hj ho hL hn (.inr hm)
   refine ⟨j+1,by omega,h1 m hm,fun i bD hi ho hd=>?_,fun i bD hi ho hd=>?_⟩
   ·by_cases hij:i=j
    ·subst hij;simp [fM]
    ·exact wo i ((hw i bD ho hd).1 (by omega))
   ·unfold fM
    rw [if_neg (by omega)]
    exact (hw i bD ho hd).2 (by omega)
  ·obtain ⟨k,g1,g2,g3,g4⟩:=I.env m
   refine ⟨k,g1,(h2 m hm).trans g2,fun i bD hi ho hd=>wo i (g3 i bD hi ho hd),fun i bD hi ff hd=>?_⟩
   unfold fM
   by_cases hij:i=j
   ·subst hij;rw [hj] at ff;cases ff;exact absurd hd hm
   ·rw [if_neg hij];exact g4 i bD hi ff hd
 ·by_cases hm:id∈(dJ op e).us
  ·have hw:=H.Ej hc hj he ho hL hn (.inr hm)
   refine ⟨j+1,by omega,h3 id hm,fun i bD ei hi ho dF hd=>?_,fun i bD ei hi ho dF hd=>?_⟩
   ·by_cases hij:i=j
    ·subst hij;simp [fM]
    ·exact wo i ((hw i bD ei ho dF hd).1 (by omega))
   ·unfold fM
    rw [if_neg (by omega)]
    exact (hw i bD ei ho dF hd).2 (by omega)
  ·obtain ⟨k,g1,g2,g3,g4⟩:=I.heap id
   refine ⟨k,g1,(h4 id hm).trans g2,fun i bD ei hi ho dF hd=>wo i (g3 i bD ei hi ho dF hd),fun i bD ei hi ff dF hd=>?_⟩
   unfold fM
   by_cases hij:i=j
   ·subst hij;rw [hj] at ff;cases ff;rw [he] at dF;cases dF;exact absurd hd hm
   ·rw [if_neg hij];exact g4 i bD ei hi ff dF hd
theorem eo.Jk (H:eo P ops N l es s0 s1 aL) {L:Nat→Bool} {en:Nat→U} {hp:Hp} (I:Inv l es s0 L en hp) (hall:∀ i,i<l.length→L i=true):en=lk s1.env∧hp=ag s1.h:=by
 have Bw:=H.tr.last
 refine ⟨funext fun m=>?_,funext fun id=>?_⟩
 ·obtain ⟨k,g1,g2,g3,g4⟩:=I.env m
  rw [g2,← Bw]
  refine (qL (fun i=>lk (bW l es s0 i).env m) (fun i=>∃ bD,l[i]?=some bD∧bD.dst=some m) (fun i hi=>H.xh m i (fun op ho hd=>hi ⟨op,ho,hd⟩)) g1 (fun i hi1 hi2 ⟨bD,ho,hd⟩=>?_)).symm
  have:=g4 i bD hi1 ho hd
  rw [hall i hi2] at this;cases this
 ·obtain ⟨k,g1,g2,g3,g4⟩:=I.heap id
  rw [g2,← Bw]
  refine (qL (fun i=>ag (bW l es s0 i).h id) (fun i=>∃ bD ei,l[i]?=some bD∧es[i]?=some ei∧id∈(dJ bD ei).us) (fun i hi=>H.xI id i (fun op e ho he hd=>hi ⟨op,e,ho,he,hd⟩)) g1 (fun i hi1 hi2 ⟨bD,ei,ho,dF,hd⟩=>?_)).symm
  have:=g4 i bD ei hi1 ho dF hd
  rw [hall i hi2] at this;cases this
def Lf (listed:Array Bool) (i:Nat):Bool:=listed.getD i false
theorem za {listed:Array Bool} (hs:listed.size=ops.size) {i:Nat}:i∈Region.ready .any ops listed↔i<ops.size∧Lf listed i=false∧∀ o,ops[i]?=some o→∀ k∈ey o,Lf listed k=true:=by
 unfold Region.ready
 rw [List.mem_filter,List.mem_range]
 constructor
 ·rintro ⟨h1,h2⟩
  simp only [Bool.and_eq_true,Bool.not_eq_true'] at h2
  refine ⟨h1,?_,fun o ho k hk=>?_⟩
  ·have:=h2.1
   simp only [Lf,Array.getD_eq_getD_getElem?] at this ⊢
   cases hx:listed[i]? with
   | none=>simp [hx] at this
   | some x=>simp [hx] at this ⊢;exact this
  ·have h3:=h2.2
   rw [ho] at h3
   simp only [Option.map_some,Option.getD_some,Array.all_eq_true'] at h3
   unfold ey at hk
   obtain ⟨e,he,rfl⟩:=List.mem_map.1 hk
   obtain ⟨uV,HU⟩:=List.mem_filter.1 he
   have:=h3 e (by simpa using uV)
   simp [HU] at this
   simpa [Lf] using this
 ·rintro ⟨h1,h2,h3⟩
  refine ⟨h1,?_⟩
  have ho:=Array.getElem?_eq_getElem h1
  simp only [Bool.and_eq_true,Bool.not_eq_true']
  refine ⟨?_,?_⟩
  ·simp only [Lf,Array.getD_eq_getD_getElem?] at h2 ⊢
   have hx:=Array.getElem?_eq_getElem (xs:=listed) (i:=i) (by omega)
   rw [hx] at h2 ⊢
   exact h2
  ·rw [ho]
   simp only [Option.map_some,Option.getD_some,Array.all_eq_true']
   intro e he
   cases hb:Region.binds .any e with
   | false=>simp
   | true=>
     have:=h3 _ ho e.on (List.mem_map.2 ⟨e,List.mem_filter.2 ⟨by simpa using he,hb⟩,rfl⟩)
     simpa [Lf] using this
theorem LQ {xs:List XO} {n:Nat} (h:XO.t n∈xs):n∈ie xs:=by
 induction xs with
 | nil=>simp at h
 | cons x r ih=>
   rcases List.mem_cons.1 h with rfl | h'
   ·simp [ie]
   ·cases x with
    | t m=>simp [ie,ih h']
    | c s=>exact ih h'
theorem FU {en mI:Nat→U} {xs:List XO} (h:∀ n,n∈ie xs→en n=mI n):xs.map (dM en)=xs.map (dM mI):=by
 refine List.map_congr_left (fun x hx=>?_)
 cases x with
 | t n=>exact h n (LQ hx)
 | c s=>rfl
theorem Gt {en mI:Nat→U} {op:aR} (h:∀ n,n∈lK op→en n=mI n):eZ en op.guard=eZ mI op.guard:=by
 cases hg:op.guard with
 | none=>rfl
 | some q=>
   obtain ⟨d,b⟩:=q
   simp only [eZ]
   rw [h d (by simp [lK,hg])]
theorem No (H:eo P ops N l es s0 s1 aL) {C:Ctx} (hN:C.N=N) {n0:Nat} (hn0:n0≤s0.h.length) (Ig:∀ id,n0≤id→C.h0 id=none) {Q:Exit→Act→World→Prop} (hQ:∀ a w aa,eC C (lk s1.env) (ag s1.h) a w aa→Q .normal a w) :
 ∀ (fuel:Nat) (listed:Array Bool) (en:Nat→U) (hp:Hp) (a:Act) (w:World) (aa:Nat→Option Nat),listed.size=ops.size→cnt (Lf listed) l.length≤fuel→nh ops (Lf listed)→Inv l es s0 (Lf listed) en hp→eC C en hp a w aa→
  wpAny P .any ops Q fuel listed a w:=by
 have HI:∀ listed:Array Bool,listed.size=ops.size→Region.ready .any ops listed=[]→∀ i,i<l.length→Lf listed i=true:=fun listed hs hr i=>by
  induction i using Nat.strongRecOn with
  | _ i ih=>
    intro hi
    cases hL:Lf listed i with
    | true=>rfl
    | false=>
      have:i∈Region.ready .any ops listed:=(za hs).2 ⟨by rw [H.size];exact hi,hL,fun o ho k hk=>ih k (H.back i o ho k hk) (by have:=H.back i o ho k hk;omega)⟩
      rw [hr] at this;cases this
 have rY:∀ (listed:Array Bool) (en:Nat→U) (hp:Hp) (a:Act) (w:World) (aa:Nat→Option Nat),(∀ i,i<l.length→Lf listed i=true)→Inv l es s0 (Lf listed) en hp→eC C en hp a w aa→Q .normal a w:=fun listed en hp a w aa hall I R=>by
  obtain ⟨rfl,rfl⟩:=H.Jk I hall
  exact hQ a w aa R
 intro fuel
 induction fuel with
 | zero=>
   intro listed en hp a w aa hs rW hc I R
   have hall:=Ak (Nat.le_zero.1 rW)
   refine ⟨?_,rY listed en hp a w aa hall I R⟩
   cases hr:Region.ready .any ops listed with
   | nil=>rfl
   | cons i r=>
     have hm:i∈Region.ready .any ops listed:=by rw [hr];simp
     obtain ⟨h1,h2,_⟩:=(za hs).1 hm
     rw [hall i (by rw [← H.size];exact h1)] at h2;cases h2
 | succ fuel ih=>
   intro listed en hp a w aa hs rW hc I R
   refine ⟨fun hr=>rY listed en hp a w aa (HI listed hs hr) I R,fun j hj=>?_⟩
   obtain ⟨Bs,hL,hn⟩:=(za hs).1 hj
   have hjl:j<l.length:=by rw [← H.size];exact Bs
   have hop:=List.getElem?_eq_getElem hjl
   obtain ⟨o,ho,fY⟩:=H.comp j _ hop
   obtain ⟨e,he,hst,BI⟩:=H.tr.at_ j _ hop
   obtain ⟨cH,nD,mM,qh,qi⟩:=wV fY
   have hn':=hn o ho
   have hrd:∀ m,m∈lK l[j]→en m=lk (bW l es s0 j).env m:=fun m hm=>H.MR hc I hop ho hL hn' (.inl hm)
   have Bq:=Gt hrd
   have uM:Lf (listed.setIfInBounds j true)=fM (Lf listed) j:=by
    funext i
    simp only [Lf,fM,Array.getD_eq_getD_getElem?,Array.getElem?_setIfInBounds]
    by_cases hij:j=i
    ·subst hij;simp [hs,Bs]
    ·rw [if_neg hij,if_neg (Ne.symm hij)]
   have Bf:cnt (Lf (listed.setIfInBounds j true)) l.length≤fuel:=by
    rw [uM]
    have:=Aj (L:=Lf listed) (L':=fM (Lf listed) j) hL (by simp [fM]) (fun i hi=>by simp [fM,hi]) hjl
    omega
   have gW:nh ops (Lf (listed.setIfInBounds j true)):=by
    rw [uM]
    intro i oi ff hi k hk
    unfold fM at hi ⊢
    by_cases hij:i=j
    ·subst hij
     rw [ho] at ff;cases ff
     split
     ·rfl
     ·exact hn' k hk
    ·rw [if_neg hij] at hi
     split
     ·rfl
     ·exact hc i oi ff hi k hk
   unfold wpOp
   rw [ho]
   simp only
   cases e with
   | skip=>
     have hg:eZ en l[j].guard=some false:=by rw [Bq];exact BI
     have hw:=xx R fY hg
     rw [if_neg (by rw [hw];simp)]
     have xH:∀ m,l[j].dst=some m→m<C.N:=fun m hm=>by rw [hN];exact qi m hm
     have R':eC C (match l[j].dst with | some d=>up en d (.aM []) | none=>en) hp (a.put o.dst undef) w aa:=by
      rw [qh]
      cases hd:l[j].dst with
      | none=>exact R
      | some d=>exact R.put (xH d hd) Dc
     refine ih _ _ _ _ _ _ (by simpa using hs) Bf gW ?_ R'
     rw [uM]
     refine H.BT hc I hop he ho hL hn' (fun m hm=>?_) (fun m hm=>?_) (fun id hid=>by simp [dJ] at hid) (fun id _=>rfl)
     ·rw [hst]
      show _=lk (cu l[j].dst (.aM []) (bW l es s0 j).env) m
      rw [hm];simp only [cu,sM,bJ]
     ·cases hd:l[j].dst with
      | none=>rfl
      | some d=>rw [hd] at hm;exact cv _ _ (fun e=>hm (by rw [e]))
   | run args pre us sv=>
     obtain ⟨t1,t2,t3,t4,t5⟩:=BI
     have hg:eZ en l[j].guard=some true:=by rw [Bq];exact t1
     have hw:=xx R fY hg
     rw [if_pos hw]
     left
     have IB:∀ m,m∈ie l[j].xs→en m=lk (bW l es s0 j).env m:=fun m hm=>hrd m (by
      unfold lK
      cases l[j].guard with
      | none=>exact hm
      | some q=>exact List.mem_cons_of_mem _ hm)
     have hargs:args=l[j].xs.map (dM en):=by rw [t2];exact (FU IB).symm
     have hpre:∀ id,id∈pre.map (·.1)→hp id=ag (bW l es s0 j).h id:=fun id hid=>H.CW hc I hop he ho hL hn' (.inl hid)
     have eG:∀ id,id∈us.map (·.1)→hp id=ag (bW l es s0 j).h id:=fun id hid=>H.CW hc I hop he ho hL hn' (.inr hid)
     have PK:=DM P ops H.tr j (by omega)
     have hnew:oy C hp pre us:=by
      have gen:∀ {us:List (Nat×HB)} {h:List (Option HB)},(bW l es s0 j).h.length≤h.length→aW pre h us→∀ q∈us,(∃ hb,(q.1,hb)∈pre)∨(bW l es s0 j).h.length≤q.1:=by
       intro us
       induction us with
       | nil=>intro h _ _ q hq;simp at hq
       | cons p r IY=>
         intro h hl hk q hq
         rcases List.mem_cons.1 hq with rfl | hq
         ·rcases hk.1 with h1 | ⟨_,h1⟩
          ·exact .inr (by omega)
          ·exact .inl h1
         ·exact IY (h:=aT h p) (by have:=qR h p;omega) hk.2 q hq
      intro q hq
      rcases gen (Nat.le_refl _) t5 q hq with h | h
      ·exact .inl h
      ·refine .inr ⟨?_,Ig _ (by omega)⟩
       rw [eG q.1 (List.mem_map.2 ⟨q,hq,rfl⟩)]
       unfold ag
       rw [List.getElem?_eq_none (by omega)]
     refine t3 o (by simpa using ho) C hp w aa a _ _ _ _ nD (fun q hq=>?_) hnew R.mem (by rw [hargs];exact tJ R mM) (fun v w' au hS hR=>?_)
     ·rw [hpre q.1 (List.mem_map.2 ⟨q,hq,rfl⟩)];exact t4 q hq
     ·have xH:∀ m,l[j].dst=some m→m<C.N:=fun m hm=>by rw [hN];exact qi m hm
      have R':eC C (match l[j].dst with | some d=>up en d sv | none=>en) (bf hp us) (a.put o.dst v) w' au:=by
       rw [qh]
       have RS:=R.step hS
       cases hd:l[j].dst with
       | none=>exact RS
       | some d=>exact RS.put (xH d hd) hR
      refine ih _ _ _ _ _ _ (by simpa using hs) Bf gW ?_ R'
      rw [uM]
      refine H.BT hc I hop he ho hL hn' (fun m hm=>?_) (fun m hm=>?_) (fun id hid=>?_) (fun id hid=>?_)
      ·rw [hst]
       show _=lk (cu l[j].dst sv (bW l es s0 j).env) m
       rw [hm];simp only [cu,sM,bJ]
      ·cases hd:l[j].dst with
       | none=>rfl
       | some d=>rw [hd] at hm;exact cv _ _ (fun e=>hm (by rw [e]))
      ·rw [hst]
       show _=ag (fO (bW l es s0 j).h us) id
       rw [(rZ t5).1]
       exact tj hid
      ·exact pJ (fun q hq he=>hid (List.mem_map.2 ⟨q,hq,he⟩))
end
end Go.aG

namespace Go.aG
open Go
def kT:List Oper→List Nat→List Nat
 | [],acc=>acc
 | o::r,acc=>kT r (acc++[(ey o).foldl (fun m k=>m ||| 2 ^ k ||| acc.getD k 0) 0])
theorem AT (acc:List Nat) (k:Nat):∀ (l:List Nat) (m:Nat),(l.foldl (fun m k=>m ||| 2 ^ k ||| acc.getD k 0) m).testBit k=true→m.testBit k=true∨k∈l∨∃ x∈l,(acc.getD x 0).testBit k=true
 | [],m,h=>.inl h
 | x::l,m,h=>by
   rw [List.foldl_cons] at h
   rcases AT acc k l _ h with h | h | ⟨y,hy,h⟩
   ·rw [Nat.testBit_or,Nat.testBit_or,Nat.testBit_two_pow] at h
    simp only [Bool.or_eq_true,decide_eq_true_eq] at h
    rcases h with (h | h) | h
    ·exact .inl h
    ·exact .inr (.inl (by simp [h]))
    ·exact .inr (.inr ⟨x,by simp,h⟩)
   ·exact .inr (.inl (by simp [h]))
   ·exact .inr (.inr ⟨y,by simp [hy],h⟩)
theorem wH:∀ (ops:List Oper) (acc:List Nat) (x:Nat),x<acc.length→(kT ops acc).getD x 0=acc.getD x 0
 | [],acc,x,_=>rfl
 | o::r,acc,x,h=>by
   unfold kT
   rw [wH r _ x (by simp;omega)]
   simp only [List.getD_eq_getElem?_getD,List.getElem?_append_left h]
theorem zS:∀ (ops:List Oper) (acc:List Nat) (i:Nat) (o:Oper),ops[i]?=some o→∀ k,((kT ops acc).getD (acc.length+i) 0).testBit k=true→k∈ey o∨∃ x∈ey o,((kT ops acc).getD x 0).testBit k=true
 | [],acc,i,o,h,k,_=>by simp at h
 | p::r,acc,i,o,h,k,hk=>by
   cases i with
   | zero=>
     simp only [List.getElem?_cons_zero,Option.some.injEq] at h
     subst h
     unfold kT at hk ⊢
     rw [wH r _ _ (by simp)] at hk
     simp only [Nat.add_zero,List.getD_eq_getElem?_getD,List.getElem?_concat_length,Option.getD_some] at hk
     rcases AT acc k (ey p) 0 (by simpa [List.getD_eq_getElem?_getD] using hk) with hk | hk | ⟨x,hx,hk⟩
     ·simp at hk
     ·exact .inl hk
     ·refine .inr ⟨x,hx,?_⟩
      have hl:x<acc.length:=by
       by_cases hl:x<acc.length
       ·exact hl
       ·rw [List.getD_eq_getElem?_getD,List.getElem?_eq_none (by omega)] at hk;simp at hk
      rw [wH r _ x (by simp;omega)]
      simp only [List.getD_eq_getElem?_getD,List.getElem?_append_left hl]
      simpa [List.getD_eq_getElem?_getD] using hk
   | succ i=>
     unfold kT at hk ⊢
     refine zS r _ i o (by simpa using h) k ?_
     have:(acc++[(ey p).foldl (fun m k=>m ||| 2 ^ k ||| acc.getD k 0) 0]).length+i=acc.length+(i+1):=by simp;omega
     rw [this];exact hk
def pT (aL:List Nat) (i:Nat) (x:TE):Nat→List TE→Bool
 | _,[]=>true
 | j,y::r=>((aL.getD j 0).testBit i || kS x y) && pT aL i x (j+1) r
def ny (aL:List Nat):Nat→List TE→Bool
 | _,[]=>true
 | i,x::r=>pT aL i x (i+1) r && ny aL (i+1) r
theorem An {aL:List Nat} {i:Nat} {x:TE}:∀ {l:List TE} {j:Nat},pT aL i x j l=true→∀ (k:Nat) (y:TE),l[k]?=some y→(aL.getD (j+k) 0).testBit i=true∨kS x y=true
 | [],j,_,k,y,h=>by simp at h
 | z::r,j,hc,k,y,h=>by
   simp only [pT,Bool.and_eq_true,Bool.or_eq_true] at hc
   cases k with
   | zero=>simp at h;subst h;exact hc.1
   | succ k=>
     have:=An hc.2 k y (by simpa using h)
     rwa [show j+1+k=j+(k+1) by omega] at this
theorem Ap {aL:List Nat}:∀ {l:List TE} {i:Nat},ny aL i l=true→∀ (a b:Nat) (x y:TE),a<b→l[a]?=some x→l[b]?=some y→(aL.getD (i+b) 0).testBit (i+a)=true∨kS x y=true
 | [],i,_,a,b,x,y,_,h,_=>by simp at h
 | z::r,i,hc,a,b,x,y,hab,hx,hy=>by
   simp only [ny,Bool.and_eq_true] at hc
   cases b with
   | zero=>omega
   | succ b=>
     simp only [List.getElem?_cons_succ] at hy
     cases a with
     | zero=>
       simp at hx;subst hx
       have:=An hc.1 b y hy
       rwa [show i+1+b=i+(b+1) by omega] at this
     | succ a=>
       simp only [List.getElem?_cons_succ] at hx
       have:=Ap hc.2 a b x y (by omega) hx hy
       rwa [show i+1+b=i+(b+1) by omega,show i+1+a=i+(a+1) by omega] at this
def wI (n:Nat) (aL:List Nat):List (List Nat):=aL.map fun m=>(List.range n).filter fun k=>m.testBit k
theorem yF {n:Nat} {aL:List Nat} {i k:Nat}:k∈(wI n aL).getD i []↔k<n∧(aL.getD i 0).testBit k=true:=by
 unfold wI
 rw [List.getD_eq_getElem?_getD,List.getElem?_map,List.getD_eq_getElem?_getD]
 cases h:aL[i]? with
 | none=>simp
 | some m=>simp
def rC:Nat→List Oper→Bool
 | _,[]=>true
 | i,o::r=>(ey o).all (·< i) && rC (i+1) r
theorem zQ:∀ {ops:List Oper} {i:Nat},rC i ops=true→∀ (j:Nat) (o:Oper),ops[j]?=some o→∀ k∈ey o,k<i+j
 | [],i,_,j,o,h,_,_=>by simp at h
 | p::r,i,hb,j,o,h,k,hk=>by
   simp only [rC,Bool.and_eq_true,List.all_eq_true,decide_eq_true_eq] at hb
   cases j with
   | zero=>simp at h;subst h;exact hb.1 k hk
   | succ j=>have:=zQ hb.2 j o (by simpa using h) k hk;omega
def zB:Option (Nat×HB)→List Nat
 | none=>[]
 | some q=>[q.1]
def lQ (P:Program) (f:FuncId) (args:List U) (h:List (Option HB)) (K:U→List (Option HB)→List Nat→List Nat→Prop):Prop:=
 ∃ pre us sv,aI P f args pre us sv∧aS (ag h) pre∧aW pre h us∧K sv (fO h us) (pre.map (·.1)) (us.map (·.1))
def tY (P:Program) (h:List (Option HB)) (K:U→List (Option HB)→List Nat→List Nat→Prop):List U→Prop
 | .fn f caps::args=>lQ P f (args++caps) h K
 | .bT f caps::args=>lQ P f (caps++args) h K
 | _=>False
def sD (P:Program) (name:String) (h:List (Option HB)) (K:U→List (Option HB)→List Nat→List Nat→Prop):List U→Prop
 | s::args=>match lC s with
   | some (t,x)=>match lD P t name with
     | some (f,none)=>lQ P f (x::args) h K
     | some (f,some (n,agg))=>match dD n agg (ag h) x with
       | some (p,y,_,rd)=>p∧lQ P f (y::args) h fun sv h' pre us=>K sv h' (rd++pre) us
       | none=>False
     | none=>False
   | none=>False
 | _=>False
def vK (h:List (Option HB)) (K:U→List (Option HB)→List Nat→List Nat→Prop):XR→Prop
 | some (p,sv,u,rd)=>p∧K sv (th h u) rd (zB u)
 | none=>False
def pe (P:Program) (ao:AO) (args:List U) (h:List (Option HB)) (K:U→List (Option HB)→List Nat→List Nat→Prop):Prop:=
 match ao with
 | .call f=>lQ P f args h K
 | .kX=>tY P h K args
 | .inv name=>sD P name h K args
 | ao=>vK h K (bz ao args (ag h) h.length)
def RD (P:Program) (aL:List Nat) (K:St→Prop):List aR→List TE→St→Prop
 | [],acc,s=>ny aL 0 acc=true∧K s
 | op::r,acc,s=>match eZ (lk s.env) op.guard with
   | some true=>pe P op.ao (op.xs.map (dM (lk s.env))) s.h fun sv h' pre us=>RD P aL K r (acc++[⟨lK op,op.dst,pre,us⟩]) ⟨cu op.dst sv s.env,h'⟩
   | some false=>RD P aL K r (acc++[⟨lK op,op.dst,[],[]⟩]) ⟨cu op.dst (.aM []) s.env,s.h⟩
   | none=>False
theorem yY {hp:Hp}:∀ {rd:List Nat},(∀ id∈rd,(hp id).isSome=true)→(rd.filterMap fun id=>(hp id).map fun hb=>(id,hb)).map (·.1)=rd
 | [],_=>rfl
 | x::r,h=>by
   obtain ⟨hb,hx⟩:=Option.isSome_iff_exists.1 (h x (by simp))
   simp only [List.filterMap_cons,hx,Option.map_some,List.map_cons]
   rw [yY (fun id hid=>h id (by simp [hid]))]
theorem Mc {P:Program} {o:Oper} {ao:AO} {cH:List Operand} (hc:eY P o.op=some (ao,cH)) {args:List U} {h:List (Option HB)} {K:U→List (Option HB)→List Nat→List Nat→Prop} (hW:pe P ao args h K) :
 ∃ pre us sv,lU P o args pre us sv∧aS (ag h) pre∧aW pre h us∧K sv (fO h us) (pre.map (·.1)) (us.map (·.1)):=by
 unfold pe at hW
 split at hW
 ·obtain ⟨pre,us,sv,h1,h2,h3,h4⟩:=hW
  exact ⟨pre,us,sv,CJ hc h1,h2,h3,h4⟩
 ·unfold tY at hW
  split at hW
  ·obtain ⟨pre,us,sv,h1,h2,h3,h4⟩:=hW
   exact ⟨pre,us,sv,CM hc h1,h2,h3,h4⟩
  ·obtain ⟨pre,us,sv,h1,h2,h3,h4⟩:=hW
   exact ⟨pre,us,sv,CL hc h1,h2,h3,h4⟩
  ·exact hW.elim
 ·unfold sD at hW
  split at hW
  ·rename_i s dV
   split at hW
   ·rename_i t x hi
    split at hW
    ·rename_i f hf
     obtain ⟨pre,us,sv,h1,h2,h3,h4⟩:=hW
     exact ⟨pre,us,sv,yP hc hi hf (y:=x) (fun hp hP=>rfl) (fun q hq=>hq) h1 (fun C hp hn _=>hn),h2,h3,h4⟩
    ·rename_i f n agg hf
     split at hW
     ·rename_i p y u rd hE
      obtain ⟨ah,pre,us,sv,h1,h2,h3,h4⟩:=hW
      obtain ⟨g1,g2,g3⟩:=BS hc hi hf hE ah h1 h2 h3
      refine ⟨_,us,sv,g1,g2,g3,?_⟩
      rw [List.map_append]
      have:(qI h rd).map (·.1)=rd:=yY (fun id hid=>Cv hE id hid)
      rw [this];exact h4
     ·exact hW.elim
    ·exact hW.elim
   ·exact hW.elim
  ·exact hW.elim
 ·unfold vK at hW
  split at hW
  ·rename_i p sv u rd hE
   obtain ⟨hp,hK⟩:=hW
   have sr:ag h h.length=none:=by unfold ag;rw [List.getElem?_eq_none (Nat.le_refl _)]
   have ur:=yO hE
   refine ⟨_,tf u,sv,CN hc hE hp sr,fun q hq=>?_,?_,?_⟩
   ·obtain ⟨id,_,hid⟩:=List.mem_filterMap.1 hq
    cases cj:ag h id with
    | none=>simp [cj] at hid
    | some hb=>simp [cj] at hid;subst hid;exact cj
   ·cases u with
    | none=>trivial
    | some q=>
      refine ⟨?_,trivial⟩
      rcases ur.1 q rfl with h1 | h1
      ·exact .inl h1
      ·right
       have hs:=ur.2 _ h1
       obtain ⟨hb,mc⟩:=Option.isSome_iff_exists.1 hs
       refine ⟨?_,hb,List.mem_filterMap.2 ⟨q.1,h1,by simp [mc]⟩⟩
       unfold ag at mc
       cases hl:h[q.1]? with
       | none=>simp [hl] at mc
       | some x=>exact (List.getElem?_eq_some_iff.1 hl).1
   ·have:=yY (hp:=ag h) (rd:=rd) (fun id hid=>ur.2 id hid)
    rw [this]
    cases u with
    | none=>exact hK
    | some q=>exact hK
  ·exact hW.elim
def oo:List aR→List EN→List TE
 | op::l,e::es=>dJ op e::oo l es
 | _,_=>[]
theorem zx:∀ {l:List aR} {es:List EN} {a:Nat} {op:aR} {e:EN},l[a]?=some op→es[a]?=some e→(oo l es)[a]?=some (dJ op e)
 | [],es,a,op,e,h,_=>by simp at h
 | _::_,[],a,op,e,_,h=>by simp at h
 | p::l,q::es,a,op,e,h1,h2=>by
   cases a with
   | zero=>simp at h1 h2;subst h1;subst h2;rfl
   | succ a=>simp only [oo,List.getElem?_cons_succ] at h1 h2 ⊢;exact zx h1 h2
theorem yZ {P:Program} {ops:Array Oper} {N:Nat} {aL:List Nat} {K:St→Prop}:∀ (l:List aR) (i:Nat) (acc:List TE) (s:St),(∀ (j:Nat) (op:aR),l[j]?=some op→∃ o,ops[i+j]?=some o∧gU P ops N o=some op)→RD P aL K l acc s→
 ∃ es s',Tr P ops i l s es s'∧ny aL 0 (acc++oo l es)=true∧K s'
 | [],i,acc,s,_,h=>⟨[],s,rfl,by simpa [oo] using h.1,h.2⟩
 | op::l,i,acc,s,hc,h=>by
   have gW:∀ (j:Nat) (op:aR),l[j]?=some op→∃ o,ops[i+1+j]?=some o∧gU P ops N o=some op:=fun j op' hj=>by
    have:=hc (j+1) op' (by simpa using hj)
    rwa [show i+(j+1)=i+1+j by omega] at this
   obtain ⟨o,ho,fY⟩:=hc 0 op rfl
   rw [Nat.add_zero] at ho
   obtain ⟨cH,nD,mM,qh,qi⟩:=wV fY
   unfold RD at h
   split at h
   ·rename_i hg
    obtain ⟨pre,us,sv,h1,h2,h3,h4⟩:=Mc nD h
    obtain ⟨es,s',g1,g2,g3⟩:=yZ l (i+1) _ _ gW h4
    refine ⟨.run (op.xs.map (dM (lk s.env))) pre us sv::es,s',⟨⟨hg,rfl,fun o' ho'=>?_,h2,h3⟩,g1⟩,?_,g3⟩
    ·rw [ho] at ho';cases ho';exact h1
    ·simpa [oo,dJ] using g2
   ·rename_i hg
    obtain ⟨es,s',g1,g2,g3⟩:=yZ l (i+1) _ _ gW h
    exact ⟨.skip::es,s',⟨hg,g1⟩,by simpa [oo,dJ] using g2,g3⟩
   ·exact h.elim
theorem MQ {P:Program} {C:Ctx} {n0:Nat} {ops:Array Oper} {K:St→Prop} {Q:Exit→Act→World→Prop} {l:List aR} (hm:P.follows .mixedOrders=true) (hsz:ops.size=l.length) (Bg:∀ (j:Nat) (op:aR),l[j]?=some op→∃ o,ops[j]?=some o∧gU P ops C.N o=some op)
 (HJ:rC 0 ops.toList=true) {s:St} {a:Act} {w:World} (h:RD P (kT ops.toList []) K l [] s) (R:ee C n0 s a w) (hK:∀ s a w,K s→ee C n0 s a w→Q .normal a w) (id:Nat):(Code.region id ops true).wp P Q a w:=by
 refine wp_region_any hm ?_
 obtain ⟨es,s',h1,h2,h3⟩:=yZ l 0 [] s (fun j op hj=>by rw [Nat.zero_add];exact Bg j op hj) h
 have H:eo P ops C.N l es s s' (wI l.length (kT ops.toList [])):=by
  refine ⟨h1,hsz,Bg,fun i o ho k hk=>?_,fun i o ho k hk=>?_,fun x y yQ yR ea eb hxy ha hb HV HW=>?_⟩
  ·have:=zQ HJ i o (by simpa using ho) k hk;omega
  ·obtain ⟨gF,hk⟩:=yF.1 hk
   have:=zS ops.toList [] i o (by simpa using ho) k (by simpa using hk)
   rcases this with g | ⟨x,hx,g⟩
   ·exact ⟨ey o,fun x hx=>hx,.inl g⟩
   ·exact ⟨ey o,fun x hx=>hx,.inr ⟨x,hx,yF.2 ⟨gF,g⟩⟩⟩
  ·have:=Ap (aL:=kT ops.toList []) (l:=oo l es) (i:=0) (by simpa using h2) x y _ _ hxy (zx ha HV) (zx hb HW)
   rw [Nat.zero_add,Nat.zero_add] at this
   refine this.imp (fun h=>yF.2 ⟨(List.getElem?_eq_some_iff.1 ha).1,h⟩) (fun h=>h)
 have hlen:=h1.length
 obtain ⟨aa,RF⟩:=R.rep
 have hst:=DM P ops h1 l.length (Nat.le_refl _)
 rw [h1.last] at hst
 have fu:eC C (lk s.env) (ag s.h) a { w with drawn:=w.drawn+1 } aa:=RF.step (RF.mem.quiet (w':={ w with drawn:=w.drawn+1 }) rfl rfl rfl rfl)
 refine No H rfl R.sJ R.h0 (fun a w aa RF=>hK s' a w h3 ⟨⟨aa,RF⟩,Nat.le_trans R.sJ hst,R.h0⟩) ops.size _ (lk s.env) (ag s.h) a _ aa (by simp) ?_ ?_ ?_ fu
 ·rw [hsz];exact Ag _ _
 ·intro i o ho hL
  exfalso
  simp only [Lf,Array.getD_eq_getD_getElem?,Array.getElem?_replicate] at hL
  split at hL <;> simp at hL
 ·have hf:∀ i,Lf (Array.replicate ops.size false) i=false:=fun i=>by
   simp only [Lf,Array.getD_eq_getD_getElem?,Array.getElem?_replicate]
   split <;> simp
  refine ⟨fun m=>⟨0,by omega,?_,fun i op hi=>by omega,fun i op _ _ _=>hf i⟩,fun id=>⟨0,by omega,?_,fun i op e hi=>by omega,fun i op e _ _ _ _=>hf i⟩⟩
  ·cases l <;> cases es <;> rfl
  ·cases l <;> cases es <;> rfl
end Go.aG

namespace Go.aG
open Go
inductive AC where
 | skip
 | vP (ops:List aR)
 | vQ (aL:List Nat) (ops:List aR)
 | seq (a b:AC)
 | cond (x:XO) (a b:AC)
 | block (id:Nat) (a:AC)
 | loop (a:AC)
 | exit (id:Nat)
 | ret
 | oJ
 deriving Inhabited
def AC.qa:AC→Bool
 | .seq a b=>a.qa && b.qa
 | .cond _ a b=>a.qa || b.qa
 | .loop _ | .exit _ | .ret=>false
 | _=>true
def uj (P:Program) (ops:Array Oper) (N:Nat):List Oper→Option (List aR)
 | []=>some []
 | o::r=>match gU P ops N o,uj P ops N r with
   | some x,some l=>some (x::l)
   | _,_=>none
theorem wW {P:Program} {ops:Array Oper} {N:Nat}:∀ {os:List Oper} {l:List aR},uj P ops N os=some l→os.length=l.length∧∀ (j:Nat) (op:aR),l[j]?=some op→∃ o,os[j]?=some o∧gU P ops N o=some op
 | [],l,h=>by cases h;exact ⟨rfl,fun j op hj=>by simp at hj⟩
 | o::r,l,h=>by
   unfold uj at h
   split at h
   ·rename_i x l' hx hl
    cases h
    obtain ⟨g1,g2⟩:=wW hl
    refine ⟨by simp [g1],fun j op hj=>?_⟩
    cases j with
    | zero=>simp at hj;subst hj;exact ⟨o,rfl,hx⟩
    | succ j=>simp only [List.getElem?_cons_succ] at hj ⊢;exact g2 j op hj
   ·cases h
def comp (P:Program) (N:Nat):Code→Option AC
 | .skip=>some .skip
 | .region _ ops draw=>match draw,uj P ops N ops.toList with
   | false,some l=>some (.vP l)
   | true,some l=>if P.follows .mixedOrders && rC 0 ops.toList then some (.vQ (kT ops.toList []) l) else none
   | _,none=>none
 | .seq a b=>match comp P N a,comp P N b with
   | some x,some y=>some (.seq x y)
   | _,_=>none
 | .cond c a b=>match wY c,comp P N a,comp P N b with
   | some q,some x,some y=>if x.qa && y.qa then some (.seq (.cond q x y) .oJ) else some (.cond q x y)
   | _,_,_=>none
 | .block id c=>match comp P N c with
   | some x=>some (.seq (.block id x) .oJ)
   | none=>none
 | .loop c=>match comp P N c with
   | some x=>some (.loop x)
   | none=>none
 | .exit id=>some (.exit id)
 | .ret=>some .ret
 | _=>none
inductive Ex where
 | normal
 | exit (id:Nat)
 | ret
def Ex.wh:Ex→Exit
 | .normal=>.normal
 | .exit id=>.exit id
 | .ret=>.ret
def cA (n0:Nat) (s s':St):Prop:=∀ C a w,ee C n0 s a w→ee C n0 s' a w
def gQ (n:St→Prop) (K:Ex→St→Prop):Ex→St→Prop
 | .normal,s=>n s
 | .exit id,s=>K (.exit id) s
 | .ret,s=>K .ret s
def tL (id:Nat) (K:Ex→St→Prop):Ex→St→Prop
 | .normal,s=>K .normal s
 | .exit j,s=>if j=id then K .normal s else K (.exit j) s
 | .ret,s=>K .ret s
def um (T F:Prop):U→Prop
 | .rv (.bool t)=>if t=true then T else F
 | _=>False
def W (P:Program) (n0:Nat):AC→(Ex→St→Prop)→St→Prop
 | .skip,K,s=>K .normal s
 | .vP ops,K,s=>RW P (K .normal) ops s
 | .vQ aL ops,K,s=>RD P aL (K .normal) ops [] s
 | .seq a b,K,s=>W P n0 a (gQ (W P n0 b K) K) s
 | .cond x a b,K,s=>um (W P n0 a K s) (W P n0 b K s) (dM (lk s.env) x)
 | .block id a,K,s=>W P n0 a (tL id K) s
 | .loop a,K,s=>∃ (ι:Type) (σ:ι→St) (pr:ι→Prop) (μ:ι→Nat) (i0:ι),pr i0∧cA n0 s (σ i0)∧∀ i,pr i→W P n0 a (gQ (fun s'=>∃ i',pr i'∧μ i'<μ i∧cA n0 s' (σ i')) K) (σ i)
 | .exit id,K,s=>K (.exit id) s
 | .ret,K,s=>K .ret s
 | .oJ,K,s=>∃ s',cA n0 s s'∧K .normal s'
theorem we {n n':St→Prop} {K K':Ex→St→Prop} (hn:∀ s,n s→n' s) (h:∀ e s,K e s→K' e s):∀ e s,gQ n K e s→gQ n' K' e s
 | .normal,s,hk=>hn s hk
 | .exit id,s,hk=>h _ s hk
 | .ret,s,hk=>h _ s hk
theorem ER {id:Nat} {K K':Ex→St→Prop} (h:∀ e s,K e s→K' e s):∀ e s,tL id K e s→tL id K' e s
 | .normal,s,hk=>h _ s hk
 | .exit j,s,hk=>by
   have hk':if j=id then K .normal s else K (.exit j) s:=hk
   show if j=id then K' .normal s else K' (.exit j) s
   by_cases hj:j=id
   ·rw [if_pos hj] at hk' ⊢;exact h _ s hk'
   ·rw [if_neg hj] at hk' ⊢;exact h _ s hk'
 | .ret,s,hk=>h _ s hk
theorem Me {P:Program} {ao:AO} {args:List U} {h:List (Option HB)} {K K':U→List (Option HB)→Prop} (hk:∀ sv h,K sv h→K' sv h) (hw:pn P ao args h K):pn P ao args h K':=by
 have hc:∀ f args,ng P f args h K→ng P f args h K':=fun f args ⟨pre,us,sv,h1,h2,h3,h4⟩=>⟨pre,us,sv,h1,h2,h3,hk _ _ h4⟩
 unfold pn at hw ⊢
 split at hw
 ·exact hc _ _ hw
 ·unfold tZ at hw ⊢
  split at hw
  ·exact hc _ _ hw
  ·exact hc _ _ hw
  ·exact hw.elim
 ·unfold sE at hw ⊢
  split at hw
  ·split at hw
   ·split at hw
    ·exact hc _ _ hw
    ·split at hw
     ·exact ⟨hw.1,hc _ _ hw.2⟩
     ·exact hw.elim
    ·exact hw.elim
   ·exact hw.elim
  ·exact hw.elim
 ·unfold vL at hw ⊢
  split at hw
  ·exact ⟨hw.1,hk _ _ hw.2⟩
  ·exact hw.elim
theorem wD {P:Program} {K K':St→Prop} (hk:∀ s,K s→K' s):∀ {l:List aR} {s:St},RW P K l s→RW P K' l s
 | [],s,h=>hk s h
 | op::l,s,h=>by
   unfold RW at h ⊢
   split at h
   ·exact Me (fun sv h' hh=>wD hk hh) h
   ·exact wD hk h
   ·exact h.elim
theorem Mb {P:Program} {ao:AO} {args:List U} {h:List (Option HB)} {K K':U→List (Option HB)→List Nat→List Nat→Prop} (hk:∀ sv h p u,K sv h p u→K' sv h p u) (hw:pe P ao args h K):pe P ao args h K':=by
 have hc:∀ f args,lQ P f args h K→lQ P f args h K':=fun f args ⟨pre,us,sv,h1,h2,h3,h4⟩=>⟨pre,us,sv,h1,h2,h3,hk _ _ _ _ h4⟩
 have hcd:∀ f args rd,(lQ P f args h fun sv h' pre us=>K sv h' (rd++pre) us)→lQ P f args h fun sv h' pre us=>K' sv h' (rd++pre) us:=fun f args rd ⟨pre,us,sv,h1,h2,h3,h4⟩=>⟨pre,us,sv,h1,h2,h3,hk _ _ _ _ h4⟩
 unfold pe at hw ⊢
 split at hw
 ·exact hc _ _ hw
 ·unfold tY at hw ⊢
  split at hw
  ·exact hc _ _ hw
  ·exact hc _ _ hw
  ·exact hw.elim
 ·unfold sD at hw ⊢
  split at hw
  ·split at hw
   ·split at hw
    ·exact hc _ _ hw
    ·split at hw
     ·exact ⟨hw.1,hcd _ _ _ hw.2⟩
     ·exact hw.elim
    ·exact hw.elim
   ·exact hw.elim
  ·exact hw.elim
 ·unfold vK at hw ⊢
  split at hw
  ·exact ⟨hw.1,hk _ _ _ _ hw.2⟩
  ·exact hw.elim
theorem wC {P:Program} {aL:List Nat} {K K':St→Prop} (hk:∀ s,K s→K' s):∀ {l:List aR} {acc:List TE} {s:St},RD P aL K l acc s→RD P aL K' l acc s
 | [],acc,s,h=>⟨h.1,hk s h.2⟩
 | op::l,acc,s,h=>by
   unfold RD at h ⊢
   split at h
   ·exact Mb (fun sv h' p u hh=>wC hk hh) h
   ·exact wC hk h
   ·exact h.elim
theorem ni {P:Program} {n0:Nat}:∀ {ac:AC} {K K':Ex→St→Prop} {s:St},(∀ e s,K e s→K' e s)→W P n0 ac K s→W P n0 ac K' s
 | .skip,K,K',s,h,hw=>h _ _ hw
 | .vP ops,K,K',s,h,hw=>wD (h _) hw
 | .vQ aL ops,K,K',s,h,hw=>wC (h _) hw
 | .seq a b,K,K',s,h,hw=>ni (ac:=a) (we (fun s hb=>ni (ac:=b) h hb) h) hw
 | .cond x a b,K,K',s,h,hw=>by
   unfold W um at hw ⊢
   split at hw
   ·split at hw
    ·rename_i ht;rw [if_pos ht];exact ni (ac:=a) h hw
    ·rename_i ht;rw [if_neg ht];exact ni (ac:=b) h hw
   ·exact hw.elim
 | .block id a,K,K',s,h,hw=>ni (ac:=a) (ER h) hw
 | .loop a,K,K',s,h,hw=>by
   obtain ⟨ι,σ,pr,μ,i0,h0,he,hr⟩:=hw
   exact ⟨ι,σ,pr,μ,i0,h0,he,fun i hi=>ni (ac:=a) (we (fun s hs=>hs) h) (hr i hi)⟩
 | .exit id,K,K',s,h,hw=>h _ _ hw
 | .ret,K,K',s,h,hw=>h _ _ hw
 | .oJ,K,K',s,h,hw=>by obtain ⟨s',h1,h2⟩:=hw;exact ⟨s',h1,h _ _ h2⟩
theorem least {p:Nat→Prop} (h:∃ m,p m):∃ m,p m∧∀ k,p k→m≤k:=by
 obtain ⟨m,hm⟩:=h
 induction m using Nat.strongRecOn with
 | _ m ih=>
   by_cases hl:∃ k,p k∧k<m
   ·obtain ⟨k,hk,hlt⟩:=hl
    exact ih k hlt hk
   ·exact ⟨m,hm,fun k hk=>by
     by_cases hlt:k<m
     ·exact absurd ⟨k,hk,hlt⟩ hl
     ·omega⟩
theorem AD {P:Program} {n0:Nat} {C:Ctx} {K:Ex→St→Prop} {Q:Exit→Act→World→Prop} (hq:∀ e s a w,K e s→ee C n0 s a w→Q e.wh a w) :
 ∀ e s a w,gQ (W P n0 .oJ K) K e s→ee C n0 s a w→Q e.wh a w
 | .normal,s,a,w,⟨s',h1,h2⟩,R=>hq .normal s' a w h2 (h1 C a w R)
 | .exit id,s,a,w,hk,R=>hq (.exit id) s a w hk R
 | .ret,s,a,w,hk,R=>hq .ret s a w hk R
theorem Pc {P:Program} {n0:Nat} {C:Ctx}:∀ (c:Code) (ac:AC) (K:Ex→St→Prop) (Q:Exit→Act→World→Prop) (s:St) (a:Act) (w:World),comp P C.N c=some ac→W P n0 ac K s→ee C n0 s a w→(∀ e s a w,K e s→ee C n0 s a w→Q e.wh a w)→c.wp P Q a w:=by
 intro c
 induction c with
 | skip=>intro ac K Q s a w hc hw R hq;cases hc;exact wp_skip (hq _ _ _ _ hw R)
 | region id ops draw=>
   intro ac K Q s a w hc hw R hq
   unfold comp at hc
   split at hc
   ·rename_i l hl
    cases hc
    obtain ⟨g1,g2⟩:=wW hl
    refine wp_region (Dl (C:=C) (n0:=n0) (fun s a w hk R=>hq .normal s a w hk R) l _ s a w (by simpa using g1) (fun j i op hi hj=>?_) hw R)
    obtain ⟨o,ho,fY⟩:=g2 j op hj
    have hlt:j<ops.size:=by
     have:=(List.getElem?_eq_some_iff.1 hj).1
     have e:ops.toList.length=ops.size:=by simp
     omega
    rw [List.getElem?_range hlt] at hi
    cases hi
    exact ⟨o,by simpa using ho,fY⟩
   ·rename_i l hl
    split at hc
    ·rename_i hb
     cases hc
     simp only [Bool.and_eq_true] at hb
     obtain ⟨g1,g2⟩:=wW hl
     exact MQ hb.1 (by simpa using g1) (fun j op hj=>by
      obtain ⟨o,ho,fY⟩:=g2 j op hj
      exact ⟨o,by simpa using ho,fY⟩) hb.2 hw R (fun s a w hk R=>hq .normal s a w hk R) id
    ·cases hc
   ·cases hc
 | seq x y yh yj=>
   intro ac K Q s a w hc hw R hq
   unfold comp at hc
   split at hc
   ·rename_i x' y' hx hy
    cases hc
    refine wp_seq (yh x' _ _ s a w hx hw R (fun e s a w hk R=>?_))
    cases e with
    | normal=>exact yj y' K Q s a w hy hk R hq
    | exit id=>exact hq (.exit id) s a w hk R
    | ret=>exact hq .ret s a w hk R
   ·cases hc
 | cond c x y yh yj=>
   intro ac K Q s a w hc hw R hq
   unfold comp at hc
   split at hc
   ·rename_i q x' y' xD hx hy
    have base:∀ (K:Ex→St→Prop),W P n0 (.cond q x' y') K s→(∀ e s a w,K e s→ee C n0 s a w→Q e.wh a w)→(Code.cond c x y).wp P Q a w:=by
     intro K hw hq
     unfold W um at hw
     split at hw
     ·rename_i t ht
      obtain ⟨aa,RF⟩:=R.rep
      have hA:=tJ RF (xs:=[c]) (ys:=[q]) (by simp [pV,xD])
      cases hA with
      | cons h1 _=>
        rw [ht] at h1
        have hb:=pF h1
        refine wp_cond hb ?_
        cases t with
        | true=>exact yh x' K Q s a w hx (by simpa using hw) R hq
        | false=>exact yj y' K Q s a w hy (by simpa using hw) R hq
     ·exact hw.elim
    split at hc
    ·cases hc
     exact base _ hw (AD hq)
    ·cases hc
     exact base K hw hq
   ·cases hc
 | block id c ih=>
   intro ac K Q s a w hc hw R hq
   unfold comp at hc
   split at hc
   ·rename_i x hx
    cases hc
    have cj:=AD (P:=P) hq
    refine wp_block (ih x _ _ s a w hx hw R (fun e s a w hk R=>?_))
    cases e with
    | normal=>exact cj .normal s a w hk R
    | exit j=>
      have hk':if j=id then (∃ s',cA n0 s s'∧K .normal s') else K (.exit j) s:=hk
      show if j=id then Q .normal a w else Q (.exit j) a w
      by_cases hj:j=id
      ·rw [if_pos hj] at hk' ⊢;exact cj .normal s a w hk' R
      ·rw [if_neg hj] at hk' ⊢;exact hq (.exit j) s a w hk' R
    | ret=>exact hq .ret s a w hk R
   ·cases hc
 | loop c ih=>
   intro ac K Q s a w hc hw R hq
   unfold comp at hc
   split at hc
   ·rename_i x hx
    cases hc
    obtain ⟨ι,σ,pr,μ,i0,h0,he,hr⟩:=hw
    have key:∀ n i,μ i=n→pr i→∀ a w,ee C n0 (σ i) a w→(Code.loop c).wp P Q a w:=by
     classical
     intro n i hn hi a w R
     let I:Act→World→Prop:=fun a w=>∃ i,pr i∧ee C n0 (σ i) a w
     have hex:∀ a w,I a w→∃ m,∃ i,pr i∧ee C n0 (σ i) a w∧μ i=m:=fun a w ⟨i,h1,h2⟩=>⟨μ i,i,h1,h2,rfl⟩
     have Bn:∀ a w,∃ m,I a w→(∃ i,pr i∧ee C n0 (σ i) a w∧μ i=m)∧∀ i,pr i→ee C n0 (σ i) a w→m≤μ i:=fun a w=>by
      by_cases h:I a w
      ·obtain ⟨m,hm,hl⟩:=least (p:=fun m=>∃ i,pr i∧ee C n0 (σ i) a w∧μ i=m) (hex a w h)
       exact ⟨m,fun _=>⟨hm,fun i hi hR=>hl _ ⟨i,hi,hR,rfl⟩⟩⟩
      ·exact ⟨0,fun h'=>absurd h' h⟩
     let M:Act→World→Nat:=fun a w=>(Bn a w).choose
     have hM:∀ a w,I a w→(∃ i,pr i∧ee C n0 (σ i) a w∧μ i=M a w)∧∀ i,pr i→ee C n0 (σ i) a w→M a w≤μ i:=fun a w h=>(Bn a w).choose_spec h
     refine wp_loop I M ⟨i,hi,R⟩ (fun a w hI=>?_)
     obtain ⟨⟨j,hj,hR,PG⟩,_⟩:=hM a w hI
     refine ih x _ _ (σ j) a w hx (hr j hj) hR (fun e s' a' w' hk R'=>?_)
     cases e with
     | normal=>
       obtain ⟨j',hj',hlt,HY⟩:=hk
       have Ba:=HY C a' w' R'
       have AZ:I a' w':=⟨j',hj',Ba⟩
       refine ⟨AZ,?_⟩
       have:=(hM a' w' AZ).2 j' hj' Ba
       omega
     | exit id=>exact hq (.exit id) s' a' w' hk R'
     | ret=>exact hq .ret s' a' w' hk R'
    exact key _ i0 rfl h0 a w (he C a w R)
   ·cases hc
 | exit id=>intro ac K Q s a w hc hw R hq;cases hc;exact wp_exit (hq _ _ _ _ hw R)
 | ret=>intro ac K Q s a w hc hw R hq;cases hc;exact wp_ret (hq _ _ _ _ hw R)
 | rangeFunc=>intro ac K Q s a w hc;cases hc
 | scope=>intro ac K Q s a w hc;cases hc
 | label=>intro ac K Q s a w hc;cases hc
 | goto=>intro ac K Q s a w hc;cases hc
 | refuse=>intro ac K Q s a w hc;cases hc
end Go.aG

namespace Go.aG
open Go
inductive It where
 | c (a:AC)
 | o (l:List aR)
 | d (aL:List Nat) (acc:List TE) (l:List aR)
 | b (id:Nat)
 | l (m:Nat) (a:AC)
def WL (P:Program) (n0 m:Nat) (a:AC) (K:Ex→St→Prop) (s:St):Prop:=
 ∃ (ι:Type) (σ:ι→St) (pr:ι→Prop) (μ:ι→Nat) (i0:ι),(pr i0∧μ i0≤m)∧cA n0 s (σ i0)∧∀ i,pr i→W P n0 a (gQ (fun s'=>∃ i',pr i'∧μ i'<μ i∧cA n0 s' (σ i')) K) (σ i)
theorem Eo {P:Program} {n0 m:Nat} {a:AC} {K:Ex→St→Prop} {s:St} (h:WL P n0 m a K s):W P n0 (.loop a) K s:=by
 obtain ⟨ι,σ,pr,μ,i0,⟨h1,_⟩,h2,h3⟩:=h
 exact ⟨ι,σ,pr,μ,i0,h1,h2,h3⟩
theorem Ep {P:Program} {n0 m:Nat} {a:AC} {K:Ex→St→Prop} {s:St} (h:W P n0 a (gQ (WL P n0 m a K) K) s):WL P n0 (m+1) a K s:=by
 let Inv:St→Nat→Prop:=fun s k=>k≤m∧∃ (ι:Type) (σ:ι→St) (pr:ι→Prop) (μ:ι→Nat) (i:ι),pr i∧σ i=s∧μ i=k∧∀ i,pr i→W P n0 a (gQ (fun s'=>∃ i',pr i'∧μ i'<μ i∧cA n0 s' (σ i')) K) (σ i)
 refine ⟨Option (St×Nat),fun o=>(o.map (·.1)).getD s,fun o=>∀ q,o=some q→Inv q.1 q.2,fun o=>match o with | some q=>q.2 | none=>m+1,none,⟨fun q hq=>(by cases hq),Nat.le_refl _⟩,fun _ _ _ R=>R,fun o ho=>?_⟩
 cases o with
 | none=>
   refine ni (fun e s' hs=>?_) h
   revert hs
   refine we (fun s' hs=>?_) (fun _ _ hk=>hk) e s'
   obtain ⟨ι,σ,pr,μ,i0,⟨h1,h2⟩,h3,h4⟩:=hs
   exact ⟨some (σ i0,μ i0),fun q hq=>(by cases hq;exact ⟨h2,ι,σ,pr,μ,i0,h1,rfl,rfl,h4⟩),Nat.lt_succ_of_le h2,h3⟩
 | some q=>
   obtain ⟨hk,ι,σ,pr,μ,i,h1,h2,h3,h4⟩:=ho q rfl
   have:=h4 i h1
   rw [h2] at this
   refine ni (fun e s' hs=>?_) this
   revert hs
   refine we (fun s' hs=>?_) (fun _ _ hk=>hk) e s'
   obtain ⟨i',g1,g2,g3⟩:=hs
   exact ⟨some (σ i',μ i'),fun q' hq=>(by cases hq;exact ⟨by omega,ι,σ,pr,μ,i',g1,rfl,rfl,h4⟩),(by show μ i'<q.2;omega),g3⟩
def CI (P:Program) (n0:Nat):List It→(Ex→St→Prop)→Ex→St→Prop
 | [],K=>K
 | .c a::k,K=>gQ (W P n0 a (CI P n0 k K)) (CI P n0 k K)
 | .o l::k,K=>gQ (RW P (CI P n0 k K .normal) l) (CI P n0 k K)
 | .d aL acc l::k,K=>gQ (RD P aL (CI P n0 k K .normal) l acc) (CI P n0 k K)
 | .b id::k,K=>tL id (CI P n0 k K)
 | .l m a::k,K=>gQ (WL P n0 m a (CI P n0 k K)) (CI P n0 k K)
def G (P:Program) (n0:Nat) (k:List It) (K:Ex→St→Prop) (env:List (Nat×U)) (h:List (Option HB)):Prop:=CI P n0 k K .normal ⟨env,h⟩
def GX (P:Program) (n0:Nat) (id:Nat) (k:List It) (K:Ex→St→Prop) (env:List (Nat×U)) (h:List (Option HB)):Prop:=CI P n0 k K (.exit id) ⟨env,h⟩
def uk (P:Program) (n0:Nat) (a b:AC) (k:List It) (K:Ex→St→Prop) (env:List (Nat×U)) (h:List (Option HB)):U→Prop
 | .rv (.bool t)=>if t=true then G P n0 (.c a::k) K env h else G P n0 (.c b::k) K env h
 | _=>False
def oC (P:Program) (n0:Nat) (f:FuncId) (args:List U) (dst:Option Nat) (r:List aR) (k:List It) (K:Ex→St→Prop) (env:List (Nat×U)) (h:List (Option HB)):Prop:=
 ng P f args h fun sv h'=>G P n0 (.o r::k) K (cu dst sv env) h'
def wP (P:Program) (n0:Nat) (dst:Option Nat) (r:List aR) (k:List It) (K:Ex→St→Prop) (env:List (Nat×U)) (h:List (Option HB)):List U→Prop
 | .fn f caps::args=>oC P n0 f (args++caps) dst r k K env h
 | .bT f caps::args=>oC P n0 f (caps++args) dst r k K env h
 | _=>False
def vn (P:Program) (n0:Nat) (name:String) (dst:Option Nat) (r:List aR) (k:List It) (K:Ex→St→Prop) (env:List (Nat×U)) (h:List (Option HB)):List U→Prop
 | s::args=>match lC s with
   | some (t,x)=>match lD P t name with
     | some (f,none)=>oC P n0 f (x::args) dst r k K env h
     | some (f,some (n,agg))=>match dD n agg (ag h) x with
       | some (p,y,_,_)=>p∧oC P n0 f (y::args) dst r k K env h
       | none=>False
     | none=>False
   | none=>False
 | _=>False
def yS (P:Program) (n0:Nat) (dst:Option Nat) (r:List aR) (k:List It) (K:Ex→St→Prop) (env:List (Nat×U)) (h:List (Option HB)):XR→Prop
 | some (p,sv,u,_)=>p∧G P n0 (.o r::k) K (cu dst sv env) (th h u)
 | none=>False
def pg (P:Program) (n0:Nat) (ao:AO) (args:List U) (dst:Option Nat) (r:List aR) (k:List It) (K:Ex→St→Prop) (env:List (Nat×U)) (h:List (Option HB)):Prop:=
 match ao with
 | .call f=>oC P n0 f args dst r k K env h
 | .kX=>wP P n0 dst r k K env h args
 | .inv name=>vn P n0 name dst r k K env h args
 | ao=>yS P n0 dst r k K env h (bz ao args (ag h) h.length)
def oM (P:Program) (n0:Nat) (b:Bool) (ao:AO) (xs:List XO) (dst:Option Nat) (r:List aR) (k:List It) (K:Ex→St→Prop) (env:List (Nat×U)) (h:List (Option HB)):U→Prop
 | .rv (.bool t)=>if t=b then pg P n0 ao (xs.map (dM (lk env))) dst r k K env h else G P n0 (.o r::k) K (cu dst (.aM []) env) h
 | .aM []=>G P n0 (.o r::k) K (cu dst (.aM []) env) h
 | _=>False
def oD (P:Program) (n0:Nat) (aL:List Nat) (acc:List TE) (bQ nV:List Nat) (f:FuncId) (args:List U) (dst:Option Nat) (r:List aR) (k:List It) (K:Ex→St→Prop) (env:List (Nat×U)) (h:List (Option HB)):Prop:=
 lQ P f args h fun sv h' pre us=>G P n0 (.d aL (acc++[⟨bQ,dst,nV++pre,us⟩]) r::k) K (cu dst sv env) h'
def wQ (P:Program) (n0:Nat) (aL:List Nat) (acc:List TE) (bQ:List Nat) (dst:Option Nat) (r:List aR) (k:List It) (K:Ex→St→Prop) (env:List (Nat×U)) (h:List (Option HB)):List U→Prop
 | .fn f caps::args=>oD P n0 aL acc bQ [] f (args++caps) dst r k K env h
 | .bT f caps::args=>oD P n0 aL acc bQ [] f (caps++args) dst r k K env h
 | _=>False
def vo (P:Program) (n0:Nat) (aL:List Nat) (acc:List TE) (bQ:List Nat) (name:String) (dst:Option Nat) (r:List aR) (k:List It) (K:Ex→St→Prop) (env:List (Nat×U)) (h:List (Option HB)):List U→Prop
 | s::args=>match lC s with
   | some (t,x)=>match lD P t name with
     | some (f,none)=>oD P n0 aL acc bQ [] f (x::args) dst r k K env h
     | some (f,some (n,agg))=>match dD n agg (ag h) x with
       | some (p,y,_,rd)=>p∧oD P n0 aL acc bQ rd f (y::args) dst r k K env h
       | none=>False
     | none=>False
   | none=>False
 | _=>False
def yT (P:Program) (n0:Nat) (aL:List Nat) (acc:List TE) (bQ:List Nat) (dst:Option Nat) (r:List aR) (k:List It) (K:Ex→St→Prop) (env:List (Nat×U)) (h:List (Option HB)):XR→Prop
 | some (p,sv,u,rd)=>p∧G P n0 (.d aL (acc++[⟨bQ,dst,rd,zB u⟩]) r::k) K (cu dst sv env) (th h u)
 | none=>False
def pq (P:Program) (n0:Nat) (aL:List Nat) (acc:List TE) (bQ:List Nat) (ao:AO) (args:List U) (dst:Option Nat) (r:List aR) (k:List It) (K:Ex→St→Prop) (env:List (Nat×U)) (h:List (Option HB)):Prop:=
 match ao with
 | .call f=>oD P n0 aL acc bQ [] f args dst r k K env h
 | .kX=>wQ P n0 aL acc bQ dst r k K env h args
 | .inv name=>vo P n0 aL acc bQ name dst r k K env h args
 | ao=>yT P n0 aL acc bQ dst r k K env h (bz ao args (ag h) h.length)
def oN (P:Program) (n0:Nat) (aL:List Nat) (acc:List TE) (bQ:List Nat) (b:Bool) (ao:AO) (xs:List XO) (dst:Option Nat) (r:List aR) (k:List It) (K:Ex→St→Prop) (env:List (Nat×U)) (h:List (Option HB)):U→Prop
 | .rv (.bool t)=>if t=b then pq P n0 aL acc bQ ao (xs.map (dM (lk env))) dst r k K env h else G P n0 (.d aL (acc++[⟨bQ,dst,[],[]⟩]) r::k) K (cu dst (.aM []) env) h
 | .aM []=>G P n0 (.d aL (acc++[⟨bQ,dst,[],[]⟩]) r::k) K (cu dst (.aM []) env) h
 | _=>False
section
variable {P:Program} {n0:Nat} {k:List It} {K:Ex→St→Prop} {env:List (Nat×U)} {h:List (Option HB)}
theorem Gz:G P n0 [] K env h=K .normal ⟨env,h⟩:=rfl
theorem GK:G P n0 (.c .skip::k) K env h=G P n0 k K env h:=rfl
theorem GG {ops:List aR}:G P n0 (.c (.vP ops)::k) K env h=G P n0 (.o ops::k) K env h:=rfl
theorem GH {aL:List Nat} {ops:List aR}:G P n0 (.c (.vQ aL ops)::k) K env h=G P n0 (.d aL [] ops::k) K env h:=rfl
theorem GJ {a b:AC}:G P n0 (.c (.seq a b)::k) K env h=G P n0 (.c a :: .c b::k) K env h:=rfl
theorem Gu {id:Nat} {a:AC}:G P n0 (.c (.block id a)::k) K env h=G P n0 (.c a :: .b id::k) K env h:=rfl
theorem Gx {id:Nat}:G P n0 (.b id::k) K env h=G P n0 k K env h:=rfl
theorem Gy {id:Nat}:G P n0 (.c (.exit id)::k) K env h=GX P n0 id k K env h:=rfl
theorem Gv {x:XO} {a b:AC}:G P n0 (.c (.cond x a b)::k) K env h=uk P n0 a b k K env h (dM (lk env) x):=by
 show um _ _ _=_
 generalize dM (lk env) x=y
 cases y with
 | rv r=>cases r <;> rfl
 | _=>rfl
theorem ow {P:Program} {n0:Nat} {K:Ex→St→Prop} {s:St}:∀ {k:List It},CI P n0 k K .ret s=K .ret s
 | []=>rfl
 | .c a::k=>ow (k:=k)
 | .o a::k=>ow (k:=k)
 | .d a b c::k=>ow (k:=k)
 | .b a::k=>ow (k:=k)
 | .l a b::k=>ow (k:=k)
theorem GI:G P n0 (.c .ret::k) K env h=K .ret ⟨env,h⟩:=by
 show CI P n0 k K .ret ⟨env,h⟩=_
 exact ow
theorem Hg {id:Nat}:GX P n0 id [] K env h=K (.exit id) ⟨env,h⟩:=rfl
theorem GZ {id:Nat} {a:AC}:GX P n0 id (.c a::k) K env h=GX P n0 id k K env h:=rfl
theorem Hh {id:Nat} {a:List aR}:GX P n0 id (.o a::k) K env h=GX P n0 id k K env h:=rfl
theorem Hf {id m:Nat} {a:AC}:GX P n0 id (.l m a::k) K env h=GX P n0 id k K env h:=rfl
theorem qf {a:AC} (m:Nat) (hg:G P n0 (.l m a::k) K env h):G P n0 (.c (.loop a)::k) K env h:=Eo (P:=P) (n0:=n0) (m:=m) (a:=a) (K:=CI P n0 k K) (s:=⟨env,h⟩) hg
theorem qe {m:Nat} {a:AC} (hg:G P n0 (.c a :: .l m a::k) K env h):G P n0 (.l (m+1) a::k) K env h:=by
 show WL P n0 (m+1) a (CI P n0 k K) ⟨env,h⟩
 exact Ep hg
theorem GY {id j:Nat}:GX P n0 id (.b j::k) K env h=if id=j then G P n0 k K env h else GX P n0 id k K env h:=rfl
theorem GA:G P n0 (.o []::k) K env h=G P n0 k K env h:=rfl
theorem Gw {aL:List Nat} {acc:List TE}:G P n0 (.d aL acc []::k) K env h=(ny aL 0 acc=true∧G P n0 k K env h):=rfl
theorem MJ {dst:Option Nat} {r:List aR} (o:XR):vL h (fun sv h'=>RW P (CI P n0 k K .normal) r ⟨cu dst sv env,h'⟩) o=yS P n0 dst r k K env h o:=by
 cases o with
 | none=>rfl
 | some q=>obtain ⟨p,sv,u,rd⟩:=q;rfl
theorem CO {dst:Option Nat} {ao:AO} {args:List U} {r:List aR}:pn P ao args h (fun sv h'=>RW P (CI P n0 k K .normal) r ⟨cu dst sv env,h'⟩)=pg P n0 ao args dst r k K env h:=by
 cases ao
 case call f=>rfl
 case kX=>
  show tZ _ _ _ _=wP _ _ _ _ _ _ _ _ _
  cases args with
  | nil=>rfl
  | cons x t=>cases x <;> rfl
 case inv name=>
  show sE _ _ _ _ _=vn _ _ _ _ _ _ _ _ _ _
  cases args with
  | nil=>rfl
  | cons x t=>
    simp only [sE,vn]
    cases lC x with
    | none=>rfl
    | some q=>
      obtain ⟨t,y⟩:=q
      simp only
      cases lD P t name with
      | none=>rfl
      | some q=>
        obtain ⟨f,ld⟩:=q
        cases ld with
        | none=>rfl
        | some q=>
          obtain ⟨n,agg⟩:=q
          simp only
          cases dD n agg (ag h) y with
          | none=>rfl
          | some q=>obtain ⟨p,z,u,rd⟩:=q;rfl
 all_goals first | exact MJ _ | rfl
theorem GB {dst:Option Nat} {ao:AO} {xs:List XO} {r:List aR}:G P n0 (.o (⟨dst,ao,xs,none⟩::r)::k) K env h=pg P n0 ao (xs.map (dM (lk env))) dst r k K env h:=CO
theorem GF {dst:Option Nat} {ao:AO} {xs:List XO} {d:Nat} {b:Bool} {r:List aR}:G P n0 (.o (⟨dst,ao,xs,some (d,b)⟩::r)::k) K env h=oM P n0 b ao xs dst r k K env h (lk env d):=by
 show RW P _ _ _=_
 unfold RW
 simp only [eZ]
 generalize lk env d=x
 cases x with
 | rv q=>
   cases q with
   | bool t=>cases t <;> cases b <;> first | exact CO | rfl
   | _=>rfl
 | aM xs=>cases xs <;> rfl
 | _=>rfl
theorem MH {aL:List Nat} {acc:List TE} {bQ:List Nat} {dst:Option Nat} {r:List aR} (o:XR):vK h (fun sv h' pre us=>RD P aL (CI P n0 k K .normal) r (acc++[⟨bQ,dst,pre,us⟩]) ⟨cu dst sv env,h'⟩) o=yT P n0 aL acc bQ dst r k K env h o:=by
 cases o with
 | none=>rfl
 | some q=>obtain ⟨p,sv,u,rd⟩:=q;rfl
theorem CH {aL:List Nat} {acc:List TE} {bQ:List Nat} {dst:Option Nat} {ao:AO} {args:List U} {r:List aR}:pe P ao args h (fun sv h' pre us=>RD P aL (CI P n0 k K .normal) r (acc++[⟨bQ,dst,pre,us⟩]) ⟨cu dst sv env,h'⟩)=pq P n0 aL acc bQ ao args dst r k K env h:=by
 cases ao
 case call f=>rfl
 case kX=>
  show tY _ _ _ _=wQ _ _ _ _ _ _ _ _ _ _ _ _
  cases args with
  | nil=>rfl
  | cons x t=>cases x <;> rfl
 case inv name=>
  show sD _ _ _ _ _=vo _ _ _ _ _ _ _ _ _ _ _ _ _
  cases args with
  | nil=>rfl
  | cons x t=>
    simp only [sD,vo]
    cases lC x with
    | none=>rfl
    | some q=>
      obtain ⟨t,y⟩:=q
      simp only
      cases lD P t name with
      | none=>rfl
      | some q=>
        obtain ⟨f,ld⟩:=q
        cases ld with
        | none=>rfl
        | some q=>
          obtain ⟨n,agg⟩:=q
          simp only
          cases dD n agg (ag h) y with
          | none=>rfl
          | some q=>obtain ⟨p,z,u,rd⟩:=q;rfl
 all_goals first | exact MH _ | rfl
theorem GC {aL:List Nat} {acc:List TE} {dst:Option Nat} {ao:AO} {xs:List XO} {r:List aR}:G P n0 (.d aL acc (⟨dst,ao,xs,none⟩::r)::k) K env h=pq P n0 aL acc (ie xs) ao (xs.map (dM (lk env))) dst r k K env h:=CH
theorem GD {aL:List Nat} {acc:List TE} {dst:Option Nat} {ao:AO} {xs:List XO} {d:Nat} {b:Bool} {r:List aR}:G P n0 (.d aL acc (⟨dst,ao,xs,some (d,b)⟩::r)::k) K env h=oN P n0 aL acc (d::ie xs) b ao xs dst r k K env h (lk env d):=by
 show RD P _ _ _ _ _=_
 unfold RD
 simp only [eZ]
 generalize lk env d=x
 cases x with
 | rv q=>
   cases q with
   | bool t=>cases t <;> cases b <;> first | exact CH | rfl
   | _=>rfl
 | aM xs=>cases xs <;> rfl
 | _=>rfl
end
theorem ct {P:Program} {n0:Nat} {f:FuncId} {args:List U} {dst:Option Nat} {r:List aR} {k:List It} {K:Ex→St→Prop} {env:List (Nat×U)} {h:List (Option HB)} {pre us:List (Nat×HB)} {sv:U}
 (hc:aI P f args pre us sv) (hp:aS (ag h) pre) (hu:aW pre h us) (hn:G P n0 (.o r::k) K (cu dst sv env) (fO h us)):oC P n0 f args dst r k K env h:=⟨pre,us,sv,hc,hp,hu,hn⟩
theorem az {P:Program} {n0:Nat} {f:FuncId} {args:List U} {dst:Option Nat} {r:List aR} {k:List It} {K:Ex→St→Prop} {env:List (Nat×U)} {h:List (Option HB)} {sv:U}
 (hc:aI P f args [] [] sv) (hn:G P n0 (.o r::k) K (cu dst sv env) h):oC P n0 f args dst r k K env h:=⟨[],[],sv,hc,fun q hq=>by simp at hq,trivial,hn⟩
theorem cK {P:Program} {n0:Nat} {aL:List Nat} {acc:List TE} {bQ nV:List Nat} {f:FuncId} {args:List U} {dst:Option Nat} {r:List aR} {k:List It} {K:Ex→St→Prop} {env:List (Nat×U)} {h:List (Option HB)} {pre us:List (Nat×HB)} {sv:U}
 (hc:aI P f args pre us sv) (hp:aS (ag h) pre) (hu:aW pre h us) (hn:G P n0 (.d aL (acc++[⟨bQ,dst,nV++pre.map (·.1),us.map (·.1)⟩]) r::k) K (cu dst sv env) (fO h us)):oD P n0 aL acc bQ nV f args dst r k K env h:=⟨pre,us,sv,hc,hp,hu,hn⟩
theorem aA {P:Program} {n0:Nat} {aL:List Nat} {acc:List TE} {bQ nV:List Nat} {f:FuncId} {args:List U} {dst:Option Nat} {r:List aR} {k:List It} {K:Ex→St→Prop} {env:List (Nat×U)} {h:List (Option HB)} {sv:U}
 (hc:aI P f args [] [] sv) (hn:G P n0 (.d aL (acc++[⟨bQ,dst,nV,[]⟩]) r::k) K (cu dst sv env) h):oD P n0 aL acc bQ nV f args dst r k K env h:=⟨[],[],sv,hc,fun q hq=>by simp at hq,trivial,by simpa [fO] using hn⟩
theorem dN {P:Program} {n0:Nat} {a:AC} {k:List It} {K:Ex→St→Prop} {env:List (Nat×U)} {h:List (Option HB)} {ι:Type} (en:ι→List (Nat×U)) (hh:ι→List (Option HB)) (pr:ι→Prop) (μ:ι→Nat) (i0:ι)
 (h0:pr i0) (he:cA n0 ⟨env,h⟩ ⟨en i0,hh i0⟩)
 (hr:∀ i,pr i→∀ K':Ex→St→Prop,(∀ i' e' h',pr i'→μ i'<μ i→cA n0 ⟨e',h'⟩ ⟨en i',hh i'⟩→K' .normal ⟨e',h'⟩)→(∀ id e' h',GX P n0 id k K e' h'→K' (.exit id) ⟨e',h'⟩)→(∀ e' h',K .ret ⟨e',h'⟩→K' .ret ⟨e',h'⟩)→G P n0 [.c a] K' (en i) (hh i)) :
 G P n0 (.c (.loop a)::k) K env h:=by
 refine ⟨ι,fun i=>⟨en i,hh i⟩,pr,μ,i0,h0,he,fun i hi=>?_⟩
 refine hr i hi (gQ (fun s'=>∃ i',pr i'∧μ i'<μ i∧cA n0 s' ⟨en i',hh i'⟩) (CI P n0 k K)) (fun i' e' h' h1 h2 h3=>⟨i',h1,h2,h3⟩) (fun id e' h' hx=>hx) (fun e' h' hx=>?_)
 show CI P n0 k K .ret _
 rw [ow];exact hx
theorem aF {P:Program} {n0:Nat} {k:List It} {K:Ex→St→Prop} {env:List (Nat×U)} {h:List (Option HB)} (hg:G P n0 k K env h):G P n0 (.c .oJ::k) K env h:=⟨⟨env,h⟩,fun _ _ _ R=>R,hg⟩
theorem AV {P:Program} {n0:Nat} {k:List It} {K:Ex→St→Prop} {env:List (Nat×U)} {h:List (Option HB)} (env':List (Nat×U)) (h':List (Option HB)) (he:cA n0 ⟨env,h⟩ ⟨env',h'⟩) (hg:G P n0 k K env' h'):G P n0 (.c .oJ::k) K env h:=⟨⟨env',h'⟩,he,hg⟩
end Go.aG

namespace Go.aG
open Go
inductive Bk (σ:Nat→Option Nat):U→U→Prop where
 | dead (y:U):Bk σ .dead y
 | rv (r:RV):Bk σ (.rv r) (.rv r)
 | ptr (j id off:Nat) (h:σ j=some id):Bk σ (.ptr j off) (.ptr id off)
 | bw (j id af i off:Nat) (h:σ j=some id):Bk σ (.bw j af i off) (.bw id af i off)
 | row (j id af len:Nat) (h:σ j=some id):Bk σ (.row j af len) (.row id af len)
 | win (j id af off len:Nat) (h:σ j=some id):Bk σ (.win j af off len) (.win id af off len)
 | agg (xs ys:List U) (hl:xs.length=ys.length) (h:∀ (i:Nat) (x y:U),xs[i]?=some x→ys[i]?=some y→Bk σ x y):Bk σ (.agg xs) (.agg ys)
 | aM (xs ys:List U) (hl:xs.length=ys.length) (h:∀ (i:Nat) (x y:U),xs[i]?=some x→ys[i]?=some y→Bk σ x y):Bk σ (.aM xs) (.aM ys)
 | fn (f:FuncId) (xs ys:List U) (hl:xs.length=ys.length) (h:∀ (i:Nat) (x y:U),xs[i]?=some x→ys[i]?=some y→Bk σ x y):Bk σ (.fn f xs) (.fn f ys)
 | bT (f:FuncId) (xs ys:List U) (hl:xs.length=ys.length) (h:∀ (i:Nat) (x y:U),xs[i]?=some x→ys[i]?=some y→Bk σ x y):Bk σ (.bT f xs) (.bT f ys)
 | bt (t:TypeId) (x y:U) (h:Bk σ x y):Bk σ (.bt t x) (.bt t y)
def ov (σ:Nat→Option Nat) (xs ys:List U):Prop:=xs.length=ys.length∧∀ (i:Nat) (x y:U),xs[i]?=some x→ys[i]?=some y→Bk σ x y
inductive gC (σ:Nat→Option Nat):HB→HB→Prop where
 | var (xs ys:List U) (h:ov σ xs ys):gC σ (.var xs) (.var ys)
 | row (e af:Nat) (xs ys:List (List U)) (hl:xs.length=ys.length) (h:∀ (i:Nat) (x y:List U),xs[i]?=some x→ys[i]?=some y→ov σ x y):gC σ (.row e af xs) (.row e af ys)
section entry
variable {w:World} {ok bZ:Nat→Prop} {aa au:Nat→Option Nat} {hp ah:Hp} {σ:Nat→Option Nat}
theorem Rp.back (hro:∀ b,ok b→bZ b) (hs:∀ j id,σ j=some id→au j=aa id∧((hp id).isSome=true→(ah j).isSome=true)∧(∀ cs,ah j=some (.var cs)→∃ cs',hp id=some (.var cs'))∧∀ e af xs,ah j=some (.row e af xs)→∃ xs',hp id=some (.row e af xs')) {x y:U} {v:Value} (hr:Rp w ok aa hp y v) (hb:Bk σ x y):Rp w bZ au ah x v:=by
 induction hb generalizing v with
 | dead y=>exact .dead v
 | rv r=>cases hr with | rv _ _ h=>exact .rv r v (h.mono fun b hb _=>⟨hro b hb,rfl⟩)
 | ptr j id off hj=>
   obtain ⟨g1,g2,g3,g4⟩:=hs j id hj
   cases hr with
   | ptr _ _ _ h1 h0 h=>
     refine .ptr j off v h1 (g2 h0) (fun cs hc=>?_)
     obtain ⟨cs',gW⟩:=g3 cs hc
     rw [g1];exact h cs' gW
 | bw j id af i off hj=>
   obtain ⟨g1,g2,g3,g4⟩:=hs j id hj
   cases hr with
   | bw _ _ _ _ _ h1 h0 hv h=>
     refine .bw j af i off v h1 (g2 h0) (fun e cr xs hx=>?_) (fun e xs hx=>?_)
     ·obtain ⟨xs',hx'⟩:=g4 e cr xs hx;exact hv e cr xs' hx'
     ·obtain ⟨xs',hx'⟩:=g4 e af xs hx;rw [g1];exact h e xs' hx'
 | row j id af len hj=>
   obtain ⟨g1,g2,g3,g4⟩:=hs j id hj
   cases hr with
   | row _ _ _ _ h1 h0 hv h=>
     refine .row j af len v h1 (g2 h0) (fun e cr xs hx=>?_) (fun e xs hx=>?_)
     ·obtain ⟨xs',hx'⟩:=g4 e cr xs hx;exact hv e cr xs' hx'
     ·obtain ⟨xs',hx'⟩:=g4 e af xs hx;rw [g1];exact h e xs' hx'
 | win j id af off len hj=>
   obtain ⟨g1,g2,g3,g4⟩:=hs j id hj
   cases hr with
   | win _ _ _ _ _ h1 h0 hv hr hc=>
     refine .win j af off len v h1 (g2 h0) (fun e cr xs hx=>?_) (fun e xs hx=>?_) (fun cs hx=>?_)
     ·obtain ⟨xs',hx'⟩:=g4 e cr xs hx;exact hv e cr xs' hx'
     ·obtain ⟨xs',hx'⟩:=g4 e af xs hx;rw [g1];exact hr e xs' hx'
     ·obtain ⟨cs',hx'⟩:=g3 cs hx;rw [g1];exact hc cs' hx'
 | agg xs ys hl h ih=>
   cases hr with
   | agg _ vs hvl h1 hy=>
     refine .agg xs vs (by omega) h1 (fun j x hx=>?_)
     have hlt:=(List.getElem?_eq_some_iff.1 hx).1
     have bY:=List.getElem?_eq_getElem (l:=ys) (i:=j) (by omega)
     exact ih j x _ hx bY (hy j _ bY)
 | aM xs ys hl h ih=>
   cases hr with
   | aM _ vs hvl hy=>
     refine .aM xs vs (by omega) (fun j x hx=>?_)
     have hlt:=(List.getElem?_eq_some_iff.1 hx).1
     have bY:=List.getElem?_eq_getElem (l:=ys) (i:=j) (by omega)
     exact ih j x _ hx bY (hy j _ bY)
 | fn f xs ys hl h ih=>
   cases hr with
   | fn _ _ vs hvl hy=>
     refine .fn f xs vs (by omega) (fun j x hx=>?_)
     have hlt:=(List.getElem?_eq_some_iff.1 hx).1
     have bY:=List.getElem?_eq_getElem (l:=ys) (i:=j) (by omega)
     exact ih j x _ hx bY (hy j _ bY)
 | bT f xs ys hl h ih=>
   cases hr with
   | bT _ _ vs hvl hy=>
     refine .bT f xs vs (by omega) (fun j x hx=>?_)
     have hlt:=(List.getElem?_eq_some_iff.1 hx).1
     have bY:=List.getElem?_eq_getElem (l:=ys) (i:=j) (by omega)
     exact ih j x _ hx bY (hy j _ bY)
 | bt t x y h ih=>cases hr with | bt _ _ v0 h0=>exact .bt t x v0 (ih h0)
theorem cJ.back (hro:∀ b,ok b→bZ b) (hs:∀ j id,σ j=some id→au j=aa id∧((hp id).isSome=true→(ah j).isSome=true)∧(∀ cs,ah j=some (.var cs)→∃ cs',hp id=some (.var cs'))∧∀ e af xs,ah j=some (.row e af xs)→∃ xs',hp id=some (.row e af xs')) {cur:Array Value} {off:Nat} {xs ys:List U} (h:cJ w ok aa hp cur off ys) (hb:ov σ xs ys):cJ w bZ au ah cur off xs:=fun j x hx=>by
 obtain ⟨hl,hb⟩:=hb
 have hlt:=(List.getElem?_eq_some_iff.1 hx).1
 have bY:=List.getElem?_eq_getElem (l:=ys) (i:=j) (by omega)
 obtain ⟨v,h1,h2,h3⟩:=h j _ bY
 exact ⟨v,h1,h2,h3.back hro hs (hb j x _ hx bY)⟩
theorem fQ.back (hro:∀ b,ok b→bZ b) (hs:∀ j id,σ j=some id→au j=aa id∧((hp id).isSome=true→(ah j).isSome=true)∧(∀ cs,ah j=some (.var cs)→∃ cs',hp id=some (.var cs'))∧∀ e af xs,ah j=some (.row e af xs)→∃ xs',hp id=some (.row e af xs')) {j id:Nat} (hj:σ j=some id) {x y:HB} (h:fQ w ok aa hp id y) (hb:gC σ x y):fQ w bZ au ah j x:=by
 have g1:=(hs j id hj).1
 rcases h with ⟨h1,e,af,rfl⟩ | ⟨b,cur,t,h1,h2,h3⟩
 ·cases hb with
  | row _ _ xs _ hl _=>
    have:xs=[]:=List.eq_nil_of_length_eq_zero (by simpa using hl)
    subst this
    exact .inl ⟨g1.trans h1,e,af,rfl⟩
 ·refine .inr ⟨b,cur,t,g1.trans h1,h2,?_⟩
  cases hb with
  | var xs ys hb=>exact ⟨by rw [h3.1,hb.1],h3.2.back hro hs hb⟩
  | row e af xs ys hl hb=>
    obtain ⟨a1,a2,a3⟩:=h3
    refine ⟨fun x hx=>?_,by rw [hl];exact a2,fun i x hx=>?_⟩
    ·obtain ⟨i,hi,rfl⟩:=List.mem_iff_getElem.1 hx
     have hy:=List.getElem?_eq_getElem (l:=ys) (i:=i) (by omega)
     rw [(hb i _ _ (List.getElem?_eq_getElem hi) hy).1]
     exact a1 _ (List.getElem_mem _)
    ·have hlt:=(List.getElem?_eq_some_iff.1 hx).1
     have hy:=List.getElem?_eq_getElem (l:=ys) (i:=i) (by omega)
     exact (a3 i _ hy).back hro hs (hb i x _ hx hy)
end entry
inductive Fz (τ:Nat→Option Nat) (h:Hp):U→RV→Prop where
 | rv (r:RV):Fz τ h (.rv r) r
 | ptr (j:Nat) (cs:List U) (rs:List RV) (hj:τ j=none) (hh:h j=some (.var cs)) (hl:cs.length=rs.length) (h1:∀ (i:Nat) (r:RV),rs[i]?=some r→r.one=true) (hf:∀ (i:Nat) (x:U) (r:RV),cs[i]?=some x→rs[i]?=some r→Fz τ h x r):Fz τ h (.ptr j 0) (.rop rs)
 | row (j e af len:Nat) (xs:List (List U)) (rs:List (List RV)) (hj:τ j=none) (hh:h j=some (.row e af xs)) (hl:rs.length=len) (hx:len≤xs.length) (hm:∀ (i:Nat) (x:List U) (r:List RV),xs[i]?=some x→rs[i]?=some r→x.length=r.length)
    (h1:∀ (i:Nat) (r:List RV) (k:Nat) (q:RV),rs[i]?=some r→r[k]?=some q→q.one=true) (hf:∀ (i:Nat) (x:List U) (r:List RV) (k:Nat) (y:U) (q:RV),xs[i]?=some x→rs[i]?=some r→x[k]?=some y→r[k]?=some q→Fz τ h y q):Fz τ h (.row j af len) (.sl e rs)
 | win (j af off e len:Nat) (cs:List U) (rs:List (List RV)) (hj:τ j=none) (hh:h j=some (.var cs)) (hl:rs.length=len) (hx:off+len*e≤cs.length) (hm:∀ r∈rs,r.length=e)
    (h1:∀ (i:Nat) (r:List RV) (k:Nat) (q:RV),rs[i]?=some r→r[k]?=some q→q.one=true) (hf:∀ (i:Nat) (r:List RV) (k:Nat) (y:U) (q:RV),rs[i]?=some r→cs[off+(i*e+k)]?=some y→r[k]?=some q→Fz τ h y q):Fz τ h (.win j af off len) (.sl e rs)
 | agg (cs:List U) (rs:List RV) (hl:cs.length=rs.length) (h1:∀ (i:Nat) (r:RV),rs[i]?=some r→r.one=true) (hf:∀ (i:Nat) (x:U) (r:RV),cs[i]?=some x→rs[i]?=some r→Fz τ h x r):Fz τ h (.agg cs) (.agg rs)
 | fn (f:FuncId) (cs:List U) (rs:List RV) (hl:cs.length=rs.length) (hf:∀ (i:Nat) (x:U) (r:RV),cs[i]?=some x→rs[i]?=some r→Fz τ h x r):Fz τ h (.fn f cs) (.fn f rs)
 | bt (t:TypeId) (x:U) (r:RV) (hf:Fz τ h x r):Fz τ h (.bt t x) (.bt t r)
inductive Rn (τ:Nat→Option Nat) (h:Hp):U→U→Prop where
 | dead (x:U):Rn τ h x .dead
 | fz (x:U) (r:RV) (hf:Fz τ h x r):Rn τ h x (.rv r)
 | ptr (j id off:Nat) (hj:τ j=some id):Rn τ h (.ptr j off) (.ptr id off)
 | bw (j id af i off:Nat) (hj:τ j=some id):Rn τ h (.bw j af i off) (.bw id af i off)
 | row (j id af len:Nat) (hj:τ j=some id):Rn τ h (.row j af len) (.row id af len)
 | win (j id af off len:Nat) (hj:τ j=some id):Rn τ h (.win j af off len) (.win id af off len)
 | agg (xs ys:List U) (hl:xs.length=ys.length) (hf:∀ (i:Nat) (x y:U),xs[i]?=some x→ys[i]?=some y→Rn τ h x y):Rn τ h (.agg xs) (.agg ys)
 | aM (xs ys:List U) (hl:xs.length=ys.length) (hf:∀ (i:Nat) (x y:U),xs[i]?=some x→ys[i]?=some y→Rn τ h x y):Rn τ h (.aM xs) (.aM ys)
 | fn (f:FuncId) (xs ys:List U) (hl:xs.length=ys.length) (hf:∀ (i:Nat) (x y:U),xs[i]?=some x→ys[i]?=some y→Rn τ h x y):Rn τ h (.fn f xs) (.fn f ys)
 | bT (f:FuncId) (xs ys:List U) (hl:xs.length=ys.length) (hf:∀ (i:Nat) (x y:U),xs[i]?=some x→ys[i]?=some y→Rn τ h x y):Rn τ h (.bT f xs) (.bT f ys)
 | bt (t:TypeId) (x y:U) (hf:Rn τ h x y):Rn τ h (.bt t x) (.bt t y)
def oz (τ:Nat→Option Nat) (h:Hp) (xs ys:List U):Prop:=xs.length=ys.length∧∀ (i:Nat) (x y:U),xs[i]?=some x→ys[i]?=some y→Rn τ h x y
inductive lV (τ:Nat→Option Nat) (h:Hp):HB→HB→Prop where
 | var (xs ys:List U) (hf:oz τ h xs ys):lV τ h (.var xs) (.var ys)
 | row (e af:Nat) (xs ys:List (List U)) (hl:xs.length=ys.length) (hf:∀ (i:Nat) (x y:List U),xs[i]?=some x→ys[i]?=some y→oz τ h x y):lV τ h (.row e af xs) (.row e af ys)
section leave
variable {w:World} {ok bZ:Nat→Prop} {aa au:Nat→Option Nat} {hp ah:Hp} {τ:Nat→Option Nat}
theorem Fz.ro (hro:∀ b,bZ b→ok b) (hfz:∀ j b,τ j=none→(ah j).isSome=true→au j=some b→ok b) (hmem:∀ j hb,ah j=some hb→fQ w bZ au ah j hb) {x:U} {r:RV} {v:Value} (hr:Rp w bZ au ah x v) (hf:Fz τ ah x r):RO w ok r v:=by
 induction hf generalizing v with
 | rv r=>cases hr with | rv _ _ h=>exact h.mono fun b hb _=>⟨hro b hb,rfl⟩
 | ptr j cs rs hj hh hl ho hf ih=>
   cases hr with
   | ptr _ _ _ h1 h0 h=>
     obtain ⟨b,hb,rfl⟩:=h cs hh
     rcases hmem j _ hh with ⟨h1,_⟩ | ⟨b',cur,t,h1,h2,h3⟩
     ·rw [hb] at h1;cases h1
     ·rw [hb] at h1;cases h1
      have hcell:∀ (i:Nat) (r:RV),rs[i]?=some r→∃ u,w.cell? ((⟨b,0,none⟩:Addr).add i)=some u∧RO w ok r u∧r.one=true:=fun i r hi=>by
       have hlt:=(List.getElem?_eq_some_iff.1 hi).1
       have hx:=List.getElem?_eq_getElem (l:=cs) (i:=i) (by omega)
       obtain ⟨u,a1,a2,a3⟩:=h3.2 i _ hx
       refine ⟨u,?_,ih i _ r hx hi a3,ho i r hi⟩
       rw [add_lit,mF h2];exact a1
      refine .rop rs ⟨b,0,none⟩ (fun i=>(w.cell? ((⟨b,0,none⟩:Addr).add i)).getD undef) (fun i r hi=>?_) (fun i r hi=>?_) (fun i r hi=>?_)
      ·obtain ⟨u,a1,_⟩:=hcell i r hi
       exact ⟨hfz j b hj (by simp [hh]) hb,by rw [a1];rfl⟩
      ·obtain ⟨u,_,_,a3⟩:=hcell i r hi;exact a3
      ·obtain ⟨u,a1,a2,_⟩:=hcell i r hi;rw [a1];exact a2
 | row j e af len xs rs hj hh hl hx hm ho hf ih=>
   cases hr with
   | row _ _ _ _ h1 h0 hv h=>
     rcases h e xs hh with ⟨g1,rfl,g3⟩ | ⟨b,cap,cur,t,g1,rfl,g3,g4,g5,g6⟩
     ·have:rs=[]:=List.eq_nil_of_length_eq_zero (by omega)
      subst this
      exact .sl e [] none 0 (fun _ _=>undef) (fun _=>⟨rfl,rfl⟩) (by simp) (by simp [maxLen]) (by simp) (fun i x j y hx=>by simp at hx) (fun i x j y hx=>by simp at hx) (fun i x j y hx=>by simp at hx)
     ·rcases hmem j _ hh with ⟨h1,_⟩ | ⟨b',cur',t',k1,k2,k3⟩
      ·rw [g1] at h1;cases h1
      ·rw [g1] at k1;cases k1
       rw [g3] at k2;cases k2
       obtain ⟨a1,a2,a3⟩:=k3
       have hlen:∀ (i:Nat) (r:List RV),rs[i]?=some r→∃ x,xs[i]?=some x∧x.length=e∧x.length=r.length:=fun i r hi=>by
        have hlt:=(List.getElem?_eq_some_iff.1 hi).1
        have eH:=List.getElem?_eq_getElem (l:=xs) (i:=i) (by omega)
        exact ⟨_,eH,a1 _ (List.getElem_mem _),hm i _ r eH hi⟩
       have hcell:∀ (i:Nat) (r:List RV) (k:Nat) (q:RV),rs[i]?=some r→r[k]?=some q→∃ u,w.cell? ((⟨b,0,none⟩:Addr).add (i*e+k))=some u∧RO w ok q u∧q.one=true:=fun i r k q hi hk=>by
        obtain ⟨x,eH,nH,PO⟩:=hlen i r hi
        have hlt:=(List.getElem?_eq_some_iff.1 hk).1
        have hy:=List.getElem?_eq_getElem (l:=x) (i:=k) (by omega)
        obtain ⟨u,b1,b2,b3⟩:=a3 i x eH k _ hy
        refine ⟨u,?_,ih i x r k _ q eH hi hy hk b3,ho i r k q hi hk⟩
        rw [add_lit,mF g3,Nat.zero_add];exact b1
       rw [← hl]
       refine .sl e rs (some ⟨b,0,none⟩) cap (fun i k=>(w.cell? ((⟨b,0,none⟩:Addr).add (i*e+k))).getD undef) (fun h=>by cases h) (by omega) g5 (fun r hr=>?_) (fun i r k q hi hk=>?_) (fun i r k q hi hk=>?_) (fun i r k q hi hk=>?_)
       ·obtain ⟨i,hi,rfl⟩:=List.mem_iff_getElem.1 hr
        obtain ⟨x,_,b1,b2⟩:=hlen i _ (List.getElem?_eq_getElem hi)
        omega
       ·obtain ⟨u,b1,_⟩:=hcell i r k q hi hk
        exact ⟨_,rfl,hfz j b hj (by simp [hh]) g1,by rw [b1];rfl⟩
       ·obtain ⟨u,_,_,b3⟩:=hcell i r k q hi hk;exact b3
       ·obtain ⟨u,b1,b2,_⟩:=hcell i r k q hi hk;rw [b1];exact b2
 | win j af off e len cs rs hj hh hl hx hm ho hf ih=>
   cases hr with
   | win _ _ _ _ _ h1 h0 hv hr hc=>
     obtain ⟨ad,cap,rfl,g1,g2,g3,g4⟩:=hc cs hh
     rw [← hl]
     have key:∀ (i:Nat) (r:List RV) (k:Nat) (q:RV),rs[i]?=some r→r[k]?=some q→∃ a u,ad=some a∧ok a.block∧w.cell? (a.add (i*e+k))=some u∧RO w ok q u:=fun i r k q hi hk=>by
      have hlt:=(List.getElem?_eq_some_iff.1 hi).1
      have PJ:=hm r (List.mem_of_getElem? hi)
      have gF:=(List.getElem?_eq_some_iff.1 hk).1
      obtain ⟨b,hb,rfl⟩:=g4 (by omega)
      rcases hmem j _ hh with ⟨h1,_,_,h2⟩ | ⟨b',cur,t,a1,a2,a3⟩
      ·cases h2
      ·rw [hb] at a1;cases a1
       have hik:i*e+k<len*e:=by
        have:(i+1)*e≤len*e:=Nat.mul_le_mul_right _ (by omega)
        rw [Nat.add_mul] at this;omega
       have hy:=List.getElem?_eq_getElem (l:=cs) (i:=off+(i*e+k)) (by omega)
       obtain ⟨u,b1,b2,b3⟩:=a3.2 _ _ hy
       refine ⟨⟨b,off,none⟩,u,rfl,hfz j b hj (by simp [hh]) hb,?_,ih i r k _ q hi hy hk b3⟩
       rw [add_lit,mF a2];simpa using b1
     refine .sl e rs ad cap (fun i k=>match ad with | some a=>(w.cell? (a.add (i*e+k))).getD undef | none=>undef) (fun h=>?_) (by omega) g2 hm (fun i r k q hi hk=>?_) ho (fun i r k q hi hk=>?_)
     ·have:=g3 h;exact ⟨List.eq_nil_of_length_eq_zero (by omega),this⟩
     ·obtain ⟨a,u,rfl,b1,b2,b3⟩:=key i r k q hi hk
      exact ⟨a,rfl,b1,by simp only [b2];rfl⟩
     ·obtain ⟨a,u,rfl,b1,b2,b3⟩:=key i r k q hi hk
      simp only [b2];exact b3
 | agg cs rs hl ho hf ih=>
   cases hr with
   | agg _ vs hvl h1 hy=>
     refine .agg rs vs (by omega) (fun i r hi=>?_) (fun i r hi=>?_)
     ·have hlt:=(List.getElem?_eq_some_iff.1 hi).1
      exact ho i r hi
     ·have hlt:=(List.getElem?_eq_some_iff.1 hi).1
      have hx:=List.getElem?_eq_getElem (l:=cs) (i:=i) (by omega)
      exact ih i _ r hx hi (hy i _ hx)
 | fn f cs rs hl hf ih=>
   cases hr with
   | fn _ _ vs hvl hy=>
     refine .fn f rs vs (by omega) (fun i r hi=>?_)
     have hlt:=(List.getElem?_eq_some_iff.1 hi).1
     have hx:=List.getElem?_eq_getElem (l:=cs) (i:=i) (by omega)
     exact ih i _ r hx hi (hy i _ hx)
 | bt t x r hf ih=>cases hr with | bt _ _ v0 h0=>exact .bt t r v0 (ih h0)
theorem Rp.leave (hro:∀ b,bZ b→ok b) (hfz:∀ j b,τ j=none→(ah j).isSome=true→au j=some b→ok b) (hmem:∀ j hb,ah j=some hb→fQ w bZ au ah j hb)
 (hs:∀ j id,τ j=some id→au j=aa id∧((ah j).isSome=true→(hp id).isSome=true)∧(∀ cs,hp id=some (.var cs)→∃ cs',ah j=some (.var cs'))∧∀ e af xs,hp id=some (.row e af xs)→∃ xs',ah j=some (.row e af xs'))
 {x y:U} {v:Value} (hr:Rp w bZ au ah x v) (hf:Rn τ ah x y):Rp w ok aa hp y v:=by
 induction hf generalizing v with
 | dead x=>exact .dead v
 | fz x r hf=>exact .rv r v (Fz.ro hro hfz hmem hr hf)
 | ptr j id off hj=>
   obtain ⟨g1,g2,g3,g4⟩:=hs j id hj
   cases hr with
   | ptr _ _ _ h1 h0 h=>
     refine .ptr id off v h1 (g2 h0) (fun cs hc=>?_)
     obtain ⟨cs',gW⟩:=g3 cs hc
     rw [← g1];exact h cs' gW
 | bw j id af i off hj=>
   obtain ⟨g1,g2,g3,g4⟩:=hs j id hj
   cases hr with
   | bw _ _ _ _ _ h1 h0 hv h=>
     refine .bw id af i off v h1 (g2 h0) (fun e cr xs hx=>?_) (fun e xs hx=>?_)
     ·obtain ⟨xs',hx'⟩:=g4 e cr xs hx;exact hv e cr xs' hx'
     ·obtain ⟨xs',hx'⟩:=g4 e af xs hx;rw [← g1];exact h e xs' hx'
 | row j id af len hj=>
   obtain ⟨g1,g2,g3,g4⟩:=hs j id hj
   cases hr with
   | row _ _ _ _ h1 h0 hv h=>
     refine .row id af len v h1 (g2 h0) (fun e cr xs hx=>?_) (fun e xs hx=>?_)
     ·obtain ⟨xs',hx'⟩:=g4 e cr xs hx;exact hv e cr xs' hx'
     ·obtain ⟨xs',hx'⟩:=g4 e af xs hx;rw [← g1];exact h e xs' hx'
 | win j id af off len hj=>
   obtain ⟨g1,g2,g3,g4⟩:=hs j id hj
   cases hr with
   | win _ _ _ _ _ h1 h0 hv hr hc=>
     refine .win id af off len v h1 (g2 h0) (fun e cr xs hx=>?_) (fun e xs hx=>?_) (fun cs hx=>?_)
     ·obtain ⟨xs',hx'⟩:=g4 e cr xs hx;exact hv e cr xs' hx'
     ·obtain ⟨xs',hx'⟩:=g4 e af xs hx;rw [← g1];exact hr e xs' hx'
     ·obtain ⟨cs',hx'⟩:=g3 cs hx;rw [← g1];exact hc cs' hx'
 | agg xs ys hl h ih=>
   cases hr with
   | agg _ vs hvl h1 hy=>
     refine .agg ys vs (by omega) h1 (fun j y bY=>?_)
     have hlt:=(List.getElem?_eq_some_iff.1 bY).1
     have hx:=List.getElem?_eq_getElem (l:=xs) (i:=j) (by omega)
     exact ih j _ y hx bY (hy j _ hx)
 | aM xs ys hl h ih=>
   cases hr with
   | aM _ vs hvl hy=>
     refine .aM ys vs (by omega) (fun j y bY=>?_)
     have hlt:=(List.getElem?_eq_some_iff.1 bY).1
     have hx:=List.getElem?_eq_getElem (l:=xs) (i:=j) (by omega)
     exact ih j _ y hx bY (hy j _ hx)
 | fn f xs ys hl h ih=>
   cases hr with
   | fn _ _ vs hvl hy=>
     refine .fn f ys vs (by omega) (fun j y bY=>?_)
     have hlt:=(List.getElem?_eq_some_iff.1 bY).1
     have hx:=List.getElem?_eq_getElem (l:=xs) (i:=j) (by omega)
     exact ih j _ y hx bY (hy j _ hx)
 | bT f xs ys hl h ih=>
   cases hr with
   | bT _ _ vs hvl hy=>
     refine .bT f ys vs (by omega) (fun j y bY=>?_)
     have hlt:=(List.getElem?_eq_some_iff.1 bY).1
     have hx:=List.getElem?_eq_getElem (l:=xs) (i:=j) (by omega)
     exact ih j _ y hx bY (hy j _ hx)
 | bt t x y h ih=>cases hr with | bt _ _ v0 h0=>exact .bt t y v0 (ih h0)
theorem cJ.leave (hro:∀ b,bZ b→ok b) (hfz:∀ j b,τ j=none→(ah j).isSome=true→au j=some b→ok b) (hmem:∀ j hb,ah j=some hb→fQ w bZ au ah j hb)
 (hs:∀ j id,τ j=some id→au j=aa id∧((ah j).isSome=true→(hp id).isSome=true)∧(∀ cs,hp id=some (.var cs)→∃ cs',ah j=some (.var cs'))∧∀ e af xs,hp id=some (.row e af xs)→∃ xs',ah j=some (.row e af xs'))
 {cur:Array Value} {off:Nat} {xs ys:List U} (h:cJ w bZ au ah cur off xs) (hb:oz τ ah xs ys):cJ w ok aa hp cur off ys:=fun j y bY=>by
 obtain ⟨hl,hb⟩:=hb
 have hlt:=(List.getElem?_eq_some_iff.1 bY).1
 have hx:=List.getElem?_eq_getElem (l:=xs) (i:=j) (by omega)
 obtain ⟨v,h1,h2,h3⟩:=h j _ hx
 exact ⟨v,h1,h2,h3.leave hro hfz hmem hs (hb j _ y hx bY)⟩
theorem fQ.leave (hro:∀ b,bZ b→ok b) (hfz:∀ j b,τ j=none→(ah j).isSome=true→au j=some b→ok b) (hmem:∀ j hb,ah j=some hb→fQ w bZ au ah j hb)
 (hs:∀ j id,τ j=some id→au j=aa id∧((ah j).isSome=true→(hp id).isSome=true)∧(∀ cs,hp id=some (.var cs)→∃ cs',ah j=some (.var cs'))∧∀ e af xs,hp id=some (.row e af xs)→∃ xs',ah j=some (.row e af xs'))
 {j id:Nat} (hj:τ j=some id) {x y:HB} (h:fQ w bZ au ah j x) (hb:lV τ ah x y):fQ w ok aa hp id y:=by
 have g1:=(hs j id hj).1
 rcases h with ⟨h1,e,af,rfl⟩ | ⟨b,cur,t,h1,h2,h3⟩
 ·cases hb with
  | row _ _ _ ys hl _=>
    have:ys=[]:=List.eq_nil_of_length_eq_zero (by simpa using hl.symm)
    subst this
    exact .inl ⟨g1.symm.trans h1,e,af,rfl⟩
 ·refine .inr ⟨b,cur,t,g1.symm.trans h1,h2,?_⟩
  cases hb with
  | var xs ys hb=>exact ⟨h3.1.trans hb.1,h3.2.leave hro hfz hmem hs hb⟩
  | row e af xs ys hl hb=>
    obtain ⟨a1,a2,a3⟩:=h3
    refine ⟨fun y hy=>?_,by rw [← hl];exact a2,fun i y hy=>?_⟩
    ·obtain ⟨i,hi,rfl⟩:=List.mem_iff_getElem.1 hy
     have hx:=List.getElem?_eq_getElem (l:=xs) (i:=i) (by omega)
     rw [← (hb i _ _ hx (List.getElem?_eq_getElem hi)).1]
     exact a1 _ (List.getElem_mem _)
    ·have hlt:=(List.getElem?_eq_some_iff.1 hy).1
     have hx:=List.getElem?_eq_getElem (l:=xs) (i:=i) (by omega)
     exact (a3 i _ hx).leave hro hfz hmem hs (hb i _ y hx hy)
end leave
end Go.aG

namespace Go.aG
open Go
inductive RR where
 | t (n:Nat)
 | c (a n:Nat) (agg:Bool)
 deriving DecidableEq
def nw (P:Program):List ResultVar→Option (List RR)
 | []=>some []
 | .tmp t::r=>match nw P r with
   | some l=>some (.t t::l)
   | none=>none
 | .cell a t::r=>match bB P t,bX P t,nw P r with
   | some n,some agg,some l=>some (.c a n agg::l)
   | _,_,_=>none
def bk (en:Nat→U) (hp:Hp):List RR→Option (Prop×List U)
 | []=>some (True,[])
 | .t n::r=>match bk en hp r with
   | some (p,xs)=>some (p,en n::xs)
   | none=>none
 | .c a n agg::r=>match dD n agg hp (en a),bk en hp r with
   | some (q,x,_,_),some (p,xs)=>some (q∧p,x::xs)
   | _,_=>none
def bA:List U→U
 | [x]=>x
 | xs=>.aM xs
def hU:Nat→List U→List (Nat×U)
 | _,[]=>[]
 | n,x::r=>(n,x)::hU (n+1) r
theorem Cr:∀ (xs:List U) (n m:Nat),lk (hU n xs) m=if n≤m then (xs[m - n]?).getD .dead else .dead
 | [],n,m=>by simp [hU,lk]
 | x::r,n,m=>by
   unfold hU lk
   by_cases h:n=m
   ·subst h;simp
   ·rw [if_neg h,Cr r (n+1) m]
    by_cases h1:n+1≤m
    ·rw [if_pos h1,if_pos (by omega)]
     rw [show m - n=(m - (n+1))+1 by omega,List.getElem?_cons_succ]
    ·rw [if_neg h1,if_neg (by omega)]
structure Fin (σ:List Nat) (pre us:List (Nat×HB)) (rs:List RR) (sv:U) (env:List (Nat×U)) (h:List (Option HB)) (τ:Nat→Option Nat):Prop where
 inj:∀ i j id,τ i=some id→τ j=some id→i=j
 old:∀ (j id:Nat),σ[j]?=some id→τ j=some id
 new:∀ j id,τ j=some id→σ.length≤j→id∈us.map (·.1)∧∀ q∈pre,q.1≠id
 has:∀ j id,τ j=some id→∃ hb hb',ag h j=some hb∧lV τ (ag h) hb hb'∧∀ hp,aS hp pre→bf hp us id=some hb'
 all:∀ q∈us,∃ j,τ j=some q.1
 res:∃ p xs,bk (lk env) (ag h) rs=some (p,xs)∧p∧Rn τ (ag h) (bA xs) sv
theorem wq {hp:Hp}:∀ {us:List (Nat×HB)} {id:Nat},id∉us.map (·.1)→bf hp us id=hp id
 | us,id,h=>pJ (fun q hq he=>h (List.mem_map.2 ⟨q,hq,he⟩))
def zb (vs:List Value):Value:=match vs with
 | [v]=>v
 | vs=>.tuple vs.toArray
theorem MV {w:World} {ok:Nat→Prop} {aa:Nat→Option Nat} {hp:Hp} {xs:List U} {vs:List Value} (hl:vs.length=xs.length) (h:∀ (j:Nat) (x:U),xs[j]?=some x→Rp w ok aa hp x (vs.getD j undef)):Rp w ok aa hp (bA xs) (zb vs):=by
 match xs,vs with
 | [],[]=>exact .aM [] [] rfl h
 | [x],[v]=>exact h 0 x rfl
 | x::y::r,u::v::s=>exact .aM _ _ hl h
theorem LD {P:Program} {t:TypeId} {v x:Value} {w w':World} (h:(Instr.loadAt t v).run P w = .ok x w'):(do loadVar t (← asAddr v):Sem Value).run P w = .ok x w':=by
 cases v with
 | pointer a=>
   cases a with
   | some a=>exact h
   | none=>simp [Instr.loadAt,Instr.sureAddr,stuck,Result.andThen] at h
 | _=>simp [Instr.loadAt,Instr.sureAddr,stuck,Result.andThen] at h
theorem Ng {P:Program} {C:Ctx} {hp:Hp} {w:World} {aa:Nat→Option Nat} (R:bF C hp w aa) {en:Nat→U} {tmps:Array Value} (he:∀ n,Rp w (an C aa hp) aa hp (en n) (tmps.getD n undef)) {fn:Func} {rs:List RR} (h:nw P fn.results.toList=some rs) {p:Prop} {xs:List U} (hr:bk en hp rs=some (p,xs)) (ah:p) :
 ∃ vs,(results fn tmps).run P w = .ok (zb vs) w∧Rp w (an C aa hp) aa hp (bA xs) (zb vs):=by
 have key:∀ (l:List ResultVar) (rs:List RR) (p:Prop) (xs:List U),nw P l=some rs→bk en hp rs=some (p,xs)→p→∃ vs,vs.length=xs.length∧(∀ (j:Nat) (x:U),xs[j]?=some x→Rp w (an C aa hp) aa hp x (vs.getD j undef))∧(l.mapM fun r=>(match r with
  | .tmp t=>pure (tmps.getD t undef)
  | .cell a t=>do loadVar t (← asAddr (tmps.getD a undef)):Sem Value)).run P w = .ok vs w:=by
  intro l
  induction l with
  | nil=>intro rs p xs h hr hp;cases h;cases hr;exact ⟨[],rfl,fun j x hx=>by simp at hx,rfl⟩
  | cons x r ih=>
    intro rs p xs h hr hp
    cases x with
    | tmp t=>
      unfold nw at h
      split at h
      ·rename_i l hl
       cases h
       unfold bk at hr
       split at hr
       ·rename_i p0 cH xY
        cases hr
        obtain ⟨vs,h1,h2,h3⟩:=ih l p cH hl xY hp
        refine ⟨tmps.getD t undef::vs,by simp [h1],fun j x hx=>?_,?_⟩
        ·cases j with
         | zero=>simp at hx;subst hx;exact he t
         | succ j=>exact h2 j x (by simpa using hx)
        ·simp only [List.mapM_cons,Sem.run_bind,Sem.run_pure,h3,Result.andThen]
       ·cases hr
      ·cases h
    | cell a t=>
      unfold nw at h
      split at h
      ·rename_i n agg l hs ha hl
       cases h
       unfold bk at hr
       split at hr
       ·rename_i q x u rd p0 cH hE xY
        cases hr
        obtain ⟨vs,h1,h2,h3⟩:=ih l p0 cH hl xY hp.2
        obtain ⟨_,y,hy1,IU⟩:=yE R hs ha (he a) hE hp.1
        refine ⟨y::vs,by simp [h1],fun j x hx=>?_,?_⟩
        ·cases j with
         | zero=>simp at hx;subst hx;exact IU
         | succ j=>exact h2 j x (by simpa using hx)
        ·have:=LD hy1
         rw [List.mapM_cons,Sem.run_bind]
         refine (congrArg (fun r=>Result.andThen r _) this).trans ?_
         simp only [Result.andThen,Sem.run_bind,h3,Sem.run_pure]
       ·cases hr
      ·cases h
 obtain ⟨vs,h1,h2,h3⟩:=key _ _ _ _ h hr ah
 have hm:(fn.results.mapM fun r=>(match r with
  | .tmp t=>pure (tmps.getD t undef)
  | .cell a t=>do loadVar t (← asAddr (tmps.getD a undef)):Sem Value)).run P w = .ok vs.toArray w:=by
  rw [Array.mapM_eq_mapM_toList,Sem.run_map,h3]
  rfl
 refine ⟨vs,?_,MV h1 h2⟩
 unfold results
 rw [Sem.run_bind]
 refine (congrArg (fun r=>Result.andThen r _) hm).trans ?_
 show (pure _:Sem Value).run P w=_
 rw [Sem.run_pure]
 match vs with
 | []=>rfl
 | [t]=>rfl
 | t::u::r=>rfl
section
variable {P:Program} {C:Ctx} {hp:Hp} {w:World} {aa:Nat→Option Nat}
def inner (C:Ctx) (aa:Nat→Option Nat) (hp:Hp) (w:World) (N:Nat) (σ:List Nat) (hs0:List (Option HB)):Ctx:=
 ⟨w,an C aa hp,fun b=>∃ (j:Nat) (id:Nat),σ[j]?=some id∧aa id=some b,N,fun j=>(σ[j]?).bind aa,ag hs0⟩
theorem mb {hs:List (Option HB)} {j:Nat} {hb:HB}:ag hs j=some hb↔hs[j]?=some (some hb):=by
 unfold ag
 cases h:hs[j]? with
 | none=>simp
 | some x=>simp
theorem FR (R:bF C hp w aa) {N:Nat} {σ:List Nat} {hs0:List (Option HB)} {pre:List (Nat×HB)} (hpre:aS hp pre) (hl:hs0.length=σ.length) (hinj:∀ (i j id:Nat),σ[i]?=some id→σ[j]?=some id→i=j)
 (lA:∀ (j id:Nat),σ[j]?=some id→∃ hb hb',hs0[j]?=some (some hb)∧(id,hb')∈pre∧gC (fun j=>σ[j]?) hb hb') :
 bF (inner C aa hp w N σ hs0) (ag hs0) w (fun j=>(σ[j]?).bind aa)∧(∀ b,an C aa hp b→an (inner C aa hp w N σ hs0) (fun j=>(σ[j]?).bind aa) (ag hs0) b)∧
 (∀ {x y:U} {v:Value},Rp w (an C aa hp) aa hp y v→Bk (fun j=>σ[j]?) x y→Rp w (an (inner C aa hp w N σ hs0) (fun j=>(σ[j]?).bind aa) (ag hs0)) (fun j=>(σ[j]?).bind aa) (ag hs0) x v):=by
 have at_:∀ j hb,ag hs0 j=some hb→∃ id hb',σ[j]?=some id∧hp id=some hb'∧gC (fun j=>σ[j]?) hb hb':=fun j hb h=>by
  rw [mb] at h
  have hlt:=(List.getElem?_eq_some_iff.1 h).1
  have hid:=List.getElem?_eq_getElem (l:=σ) (i:=j) (by omega)
  obtain ⟨hb0,hb',h1,h2,h3⟩:=lA j _ hid
  rw [h] at h1;cases h1
  exact ⟨_,hb',hid,hpre _ h2,h3⟩
 have hro:∀ b,an C aa hp b→an (inner C aa hp w N σ hs0) (fun j=>(σ[j]?).bind aa) (ag hs0) b:=fun b hb=>by
  refine ⟨.inl hb,fun j hj=>?_⟩
  obtain ⟨x,hx⟩:=Option.isSome_iff_exists.1 hj
  obtain ⟨id,hb',h1,h2,h3⟩:=at_ j x hx
  simp only [h1,Option.bind_some]
  exact hb.2 id (by simp [h2])
 have hs:∀ (j id:Nat),σ[j]?=some id→(σ[j]?).bind aa=aa id∧((hp id).isSome=true→(ag hs0 j).isSome=true)∧(∀ cs,ag hs0 j=some (.var cs)→∃ cs',hp id=some (.var cs'))∧∀ e af xs,ag hs0 j=some (.row e af xs)→∃ xs',hp id=some (.row e af xs'):=fun j id h=>by
  obtain ⟨hb0,hb',h1,h2,h3⟩:=lA j id h
  refine ⟨by rw [h];rfl,fun _=>by rw [mb.2 h1];rfl,fun cs hc=>?_,fun e af xs hc=>?_⟩
  ·rw [mb.2 h1] at hc;cases hc
   cases h3 with
   | var _ ys _=>exact ⟨ys,hpre _ h2⟩
  ·rw [mb.2 h1] at hc;cases hc
   cases h3 with
   | row _ _ _ ys _ _=>exact ⟨ys,hpre _ h2⟩
 refine ⟨⟨fun j hb h=>?_,fun i j b h1 h2 h3 h4=>?_,fun j b h1 h2=>?_,⟨rfl,rfl,rfl,Nat.le_refl _,fun b _ _=>rfl⟩,fun j hb hb0 h1 h2=>?_⟩,hro,fun hr hb=>hr.back hro hs hb⟩
 ·obtain ⟨id,hb',h1,h2,h3⟩:=at_ j hb h
  exact (R.heap id hb' h2).back hro hs h1 h3
 ·obtain ⟨x,hx⟩:=Option.isSome_iff_exists.1 h1
  obtain ⟨y,hy⟩:=Option.isSome_iff_exists.1 h2
  obtain ⟨id,_,a1,a2,_⟩:=at_ i x hx
  obtain ⟨id',_,b1,b2,_⟩:=at_ j y hy
  simp only [a1,b1,Option.bind_some] at h3 h4
  obtain rfl:=R.inj id id' b (by simp [a2]) (by simp [b2]) h3 h4
  exact hinj i j id a1 b1
 ·obtain ⟨x,hx⟩:=Option.isSome_iff_exists.1 h1
  obtain ⟨id,_,a1,a2,_⟩:=at_ j x hx
  simp only [a1,Option.bind_some] at h2
  exact ⟨.inl ⟨h1,by simp only [inner,a1,Option.bind_some];exact h2,j,id,a1,h2⟩,(R.own id b (by simp [a2]) h2).2⟩
 ·have mL:ag hs0 j=some hb0:=h2
  rw [h1] at mL;cases mL
  exact dZ.refl _ _ _
theorem Ll (R:bF C hp w aa) {N:Nat} {σ:List Nat} {hs0:List (Option HB)} {pre us:List (Nat×HB)} (hpre:aS hp pre) (hnew:oy C hp pre us)
 (lA:∀ (j id:Nat),σ[j]?=some id→∃ hb hb',hs0[j]?=some (some hb)∧(id,hb')∈pre∧gC (fun j=>σ[j]?) hb hb')
 {w':World} {au:Nat→Option Nat} {h:List (Option HB)} (R':bF (inner C aa hp w N σ hs0) (ag h) w' au) {rs:List RR} {sv:U} {env:List (Nat×U)} {τ:Nat→Option Nat} (F:Fin σ pre us rs sv env h τ) :
 ∃ cD,Step C hp (bf hp us) w w' aa cD∧∀ (x y:U) (v:Value),Rp w' (an (inner C aa hp w N σ hs0) au (ag h)) au (ag h) x v→Rn τ (ag h) x y→Rp w' (an C cD (bf hp us)) cD (bf hp us) y v:=by
 classical
 let cD:Nat→Option Nat:=fun id=>if h:∃ j,τ j=some id then au h.choose else aa id
 have rT:∀ j id,τ j=some id→cD id=au j:=fun j id hj=>by
  have hex:∃ j,τ j=some id:=⟨j,hj⟩
  show (if h:∃ j,τ j=some id then au h.choose else aa id)=_
  rw [dif_pos hex,F.inj _ _ _ hex.choose_spec hj]
 have rN:∀ id,(¬ ∃ j,τ j=some id)→cD id=aa id:=fun id hj=>by
  show (if h:∃ j,τ j=some id then au h.choose else aa id)=_
  rw [dif_neg hj]
 have hT:∀ j id,τ j=some id→∃ hb hb',ag h j=some hb∧lV τ (ag h) hb hb'∧bf hp us id=some hb':=fun j id hj=>by
  obtain ⟨hb,hb',h1,h2,h3⟩:=F.has j id hj
  exact ⟨hb,hb',h1,h2,h3 hp hpre⟩
 have hN:∀ id,(¬ ∃ j,τ j=some id)→bf hp us id=hp id:=fun id hj=>pJ (fun q hq he=>hj (by rw [← he];exact F.all q hq))
 have hold:∀ j id,τ j=some id→(hp id).isSome=true→σ[j]?=some id:=fun j id hj hs=>by
  by_cases hlt:j<σ.length
  ·have hid:=List.getElem?_eq_getElem hlt
   have:=F.old j _ hid
   rw [hj] at this;cases this
   exact hid
  ·obtain ⟨hu,hq⟩:=F.new j id hj (by omega)
   obtain ⟨q,xX,gG⟩:=List.mem_map.1 hu
   rcases hnew q xX with ⟨hb,hm⟩ | ⟨hn,_⟩
   ·exact absurd gG (hq (q.1,hb) hm)
   ·rw [gG] at hn;rw [hn] at hs;cases hs
 have hnone:∀ j id,τ j=some id→hp id=none→C.h0 id=none:=fun j id hj hn=>by
  by_cases hlt:j<σ.length
  ·have hid:=List.getElem?_eq_getElem hlt
   have:=F.old j _ hid
   rw [hj] at this;cases this
   obtain ⟨hb,hb',_,h2,_⟩:=lA j _ hid
   rw [hpre _ h2] at hn;cases hn
  ·obtain ⟨hu,hq⟩:=F.new j id hj (by omega)
   obtain ⟨q,xX,gG⟩:=List.mem_map.1 hu
   rcases hnew q xX with ⟨hb,hm⟩ | ⟨_,hn⟩
   ·exact absurd gG (hq (q.1,hb) hm)
   ·rw [← gG];exact hn
 have hsz:w.heap.size≤w'.heap.size:=R'.fr.size
 have dc:∀ b,b<w.heap.size→(∀ j id,σ[j]?=some id→aa id≠some b)→w'.heap[b]?=w.heap[b]?:=fun b hb hn=>R'.fr.block b hb (fun ⟨j,id,h1,h2⟩=>hn j id h1 h2)
 have hin:∀ (j id:Nat),σ[j]?=some id→(hp id).isSome=true:=fun j id hj=>by
  obtain ⟨hb,hb',_,h2,_⟩:=lA j id hj
  rw [hpre _ h2];rfl
 have si:∀ j id,τ j=some id→(ag h j).isSome=true:=fun j id hj=>by
  obtain ⟨hb,_,h1,_⟩:=hT j id hj
  rw [h1];rfl
 have vJ:∀ j id b,τ j=some id→au j=some b→((σ[j]?=some id∧aa id=some b)∨w.heap.size≤b)∧b<w'.heap.size:=fun j id b hj hb=>by
  obtain ⟨h1,h2⟩:=R'.own j b (si j id hj) hb
  refine ⟨?_,h2⟩
  rcases h1 with ⟨a1,a2,_⟩ | a
  ·left
   have oA:(σ[j]?).bind aa=some b:=a2
   cases hid:σ[j]? with
   | none=>rw [hid] at oA;cases oA
   | some id'=>
     rw [hid] at oA
     have:=F.old j id' hid
     rw [hj] at this;cases this
     exact ⟨rfl,oA⟩
  ·exact .inr a
 have sS:∀ b,an (inner C aa hp w N σ hs0) au (ag h) b→an C cD (bf hp us) b:=fun b hb=>by
  obtain ⟨h1,h2⟩:=hb
  have hb0:C.sR b∨C.w0.heap.size≤b:=by
   rcases h1 with a | a
   ·exact a.1
   ·exact .inr (Nat.le_trans R.fr.size a)
  refine ⟨hb0,fun id hid he=>?_⟩
  by_cases hr:∃ j,τ j=some id
  ·obtain ⟨j,hj⟩:=hr
   rw [rT j id hj] at he
   exact h2 j (si j id hj) he
  ·rw [hN id hr] at hid
   rw [rN id hr] at he
   rcases h1 with a | a
   ·exact a.2 id hid he
   ·have:=(R.own id b hid he).2
    have a':w.heap.size≤b:=a
    omega
 have sU:∀ j b,τ j=none→(ag h j).isSome=true→au j=some b→an C cD (bf hp us) b:=fun j b hj hs hb=>by
  have hbw:w.heap.size≤b:=by
   rcases (R'.own j b hs hb).1 with ⟨a1,a2,_⟩ | a
   ·have oA:(σ[j]?).bind aa=some b:=a2
    cases hid:σ[j]? with
    | none=>rw [hid] at oA;cases oA
    | some id'=>rw [F.old j id' hid] at hj;cases hj
   ·exact a
  refine ⟨.inr (Nat.le_trans R.fr.size hbw),fun id hid he=>?_⟩
  by_cases hr:∃ j,τ j=some id
  ·obtain ⟨i,hi⟩:=hr
   rw [rT i id hi] at he
   have:=R'.inj i j b (si i id hi) hs he hb
   subst this
   rw [hi] at hj;cases hj
  ·rw [hN id hr] at hid
   rw [rN id hr] at he
   have:=(R.own id b hid he).2
   omega
 have hs:∀ j id,τ j=some id→au j=cD id∧((ag h j).isSome=true→(bf hp us id).isSome=true)∧(∀ cs,bf hp us id=some (.var cs)→∃ cs',ag h j=some (.var cs'))∧∀ e af xs,bf hp us id=some (.row e af xs)→∃ xs',ag h j=some (.row e af xs'):=fun j id hj=>by
  obtain ⟨hb,hb',h1,h2,h3⟩:=hT j id hj
  refine ⟨(rT j id hj).symm,fun _=>by rw [h3];rfl,fun cs hc=>?_,fun e af xs hc=>?_⟩
  ·rw [h3] at hc;cases hc
   cases h2 with
   | var xs _ _=>exact ⟨xs,h1⟩
  ·rw [h3] at hc;cases hc
   cases h2 with
   | row _ _ xs _ _ _=>exact ⟨xs,h1⟩
 have oZ:∀ b,an C aa hp b→b<w.heap.size→an C cD (bf hp us) b∧w'.heap[b]?=w.heap[b]?:=fun b hb hlt=>by
  refine ⟨⟨hb.1,fun id hid he=>?_⟩,dc b hlt (fun j id hj he=>hb.2 id (hin j id hj) he)⟩
  by_cases hr:∃ j,τ j=some id
  ·obtain ⟨j,hj⟩:=hr
   rw [rT j id hj] at he
   rcases (vJ j id b hj he).1 with ⟨a1,a2⟩ | a
   ·exact hb.2 id (hin j id a1) a2
   ·omega
  ·rw [hN id hr] at hid
   rw [rN id hr] at he
   exact hb.2 id hid he
 have AF:∀ id hb,hp id=some hb→∃ hb',bf hp us id=some hb'∧dZ w w' (aa id) (cD id) hb hb':=fun id hb hq=>by
  by_cases hr:∃ j,τ j=some id
  ·obtain ⟨j,hj⟩:=hr
   obtain ⟨uQ,hb',h1,h2,h3⟩:=hT j id hj
   refine ⟨hb',h3,?_⟩
   have hid:=hold j id hj (by rw [hq];rfl)
   obtain ⟨hb0,PA,g1,g2,g3⟩:=lA j id hid
   have:=hpre _ g2
   rw [hq] at this;cases this
   have ev:=R'.er j uQ hb0 h1 (mb.2 g1)
   have ev':dZ w w' (aa id) (au j) hb0 uQ:=by
    have e:(inner C aa hp w N σ hs0).zd j=aa id:=by show (σ[j]?).bind aa=_;rw [hid];rfl
    rw [e] at ev;exact ev
   rw [rT j id hj]
   cases g3 with
   | var xs ys hb=>
     cases h2 with
     | var ri Pg hf=>exact ev'
     | row=>exact ev'.elim
   | row e af xs ys hl hb=>
     cases h2 with
     | var=>exact ev'.elim
     | row e2 wz ri Pg ve hf=>exact ev'
  ·refine ⟨hb,by rw [hN id hr];exact hq,?_⟩
   rw [rN id hr]
   cases hb with
   | var cs=>rfl
   | row e af xs=>
     refine ⟨Nat.le_refl _,fun _=>⟨rfl,rfl,fun b hb cur t hc=>⟨cur,t,?_,rfl⟩⟩⟩
     rw [dc b ((R.own id b (by rw [hq];rfl) hb).2) (fun j id' hj he=>?_)];exact hc
     obtain rfl:=R.inj id id' b (by rw [hq];rfl) (hin j id' hj) hb he
     exact hr ⟨j,F.old j id hj⟩
 have E:dK w w' (an C aa hp) (an C cD (bf hp us)) aa cD hp (bf hp us):=dK.of oZ AF
 refine ⟨cD,⟨⟨fun id hb hq=>?_,fun i j b h1 h2 h3 h4=>?_,fun id b h1 h2=>?_,⟨R'.fr.os.trans R.fr.os,R'.fr.tape.trans R.fr.tape,R'.fr.output.trans R.fr.output,Nat.le_trans R.fr.size hsz,fun b h1 h2=>?_⟩,fun id hb hb0 h1 h2=>?_⟩,E⟩,fun x y v hr hf=>hr.leave sS sU (fun j hb hj=>R'.heap j hb hj) hs hf⟩
 ·by_cases hr:∃ j,τ j=some id
  ·obtain ⟨j,hj⟩:=hr
   obtain ⟨uQ,hb',h1,h2,h3⟩:=hT j id hj
   rw [hq] at h3;cases h3
   exact (R'.heap j uQ h1).leave sS sU (fun j hb hj=>R'.heap j hb hj) hs hj h2
  ·rw [hN id hr] at hq
   rcases R.heap id hb hq with ⟨a1,a2⟩ | ⟨b,cur,t,a1,a2,a3⟩
   ·exact .inl ⟨(rN id hr).trans a1,a2⟩
   ·refine .inr ⟨b,cur,t,(rN id hr).trans a1,?_,a3.mono E⟩
    rw [dc b ((R.own id b (by rw [hq];rfl) a1).2) (fun j id' hj he=>?_)];exact a2
    obtain rfl:=R.inj id id' b (by rw [hq];rfl) (hin j id' hj) a1 he
    exact hr ⟨j,F.old j id hj⟩
 ·by_cases hi:∃ k,τ k=some i <;> by_cases hj:∃ k,τ k=some j
  ·obtain ⟨k,hk⟩:=hi
   obtain ⟨l,hl⟩:=hj
   rw [rT k i hk] at h3
   rw [rT l j hl] at h4
   have:=R'.inj k l b (si k i hk) (si l j hl) h3 h4
   subst this
   rw [hk] at hl;cases hl;rfl
  ·obtain ⟨k,hk⟩:=hi
   rw [rT k i hk] at h3
   rw [rN j hj] at h4
   rw [hN j hj] at h2
   rcases (vJ k i b hk h3).1 with ⟨a1,a2⟩ | a
   ·exact R.inj i j b (hin k i a1) h2 a2 h4
   ·have:=(R.own j b h2 h4).2;omega
  ·obtain ⟨k,hk⟩:=hj
   rw [rT k j hk] at h4
   rw [rN i hi] at h3
   rw [hN i hi] at h1
   rcases (vJ k j b hk h4).1 with ⟨a1,a2⟩ | a
   ·exact R.inj i j b h1 (hin k j a1) h3 a2
   ·have:=(R.own i b h1 h3).2;omega
  ·rw [rN i hi] at h3;rw [hN i hi] at h1
   rw [rN j hj] at h4;rw [hN j hj] at h2
   exact R.inj i j b h1 h2 h3 h4
 ·by_cases hr:∃ j,τ j=some id
  ·obtain ⟨j,hj⟩:=hr
   rw [rT j id hj] at h2
   obtain ⟨a,a'⟩:=vJ j id b hj h2
   refine ⟨?_,a'⟩
   rcases a with ⟨a1,a2⟩ | a
   ·exact (R.own id b (hin j id a1) a2).1
   ·exact .inr (Nat.le_trans R.fr.size a)
  ·rw [hN id hr] at h1
   rw [rN id hr] at h2
   obtain ⟨a,a'⟩:=R.own id b h1 h2
   exact ⟨a,by omega⟩
 ·rw [dc b (by have:=R.fr.size;omega) (fun j id hj he=>?_)]
  ·exact R.fr.block b h1 h2
  ·rcases (R.own id b (hin j id hj) he).1 with a | a
   ·exact h2 a.2.2
   ·omega
 ·by_cases hq:∃ lg,hp id=some lg
  ·obtain ⟨lg,hq⟩:=hq
   obtain ⟨hb',a1,a2⟩:=AF id lg hq
   rw [h1] at a1;cases a1
   exact (R.er id lg hb0 hq h2).trans a2
  ·have hn:hp id=none:=by cases gG:hp id with
    | none=>rfl
    | some x=>exact absurd ⟨x,gG⟩ hq
   by_cases hr:∃ j,τ j=some id
   ·obtain ⟨j,hj⟩:=hr
    rw [hnone j id hj hn] at h2;cases h2
   ·rw [hN id hr,hn] at h1;cases h1
end
structure aV (P:Program) (f:FuncId) (N:Nat) (ac:AC) (rs:List RR):Prop where
 call:pP P f=true
 ex:∃ fn c,P.funcs[f]?=some fn∧fn.body=some c∧fn.ntmps=N∧comp P N c=some ac∧nw P fn.results.toList=some rs
def uJ (P:Program) (f:FuncId) (N:Nat) (rs:List RR):Option AC:=match P.funcs[f]? with
 | some fn=>if pP P f && fn.ntmps == N then match fn.body,nw P fn.results.toList with
   | some c,some rs'=>if rs'=rs then comp P N c else none
   | _,_=>none
   else none
 | none=>none
theorem Gs {P:Program} {f:FuncId} {N:Nat} {ac:AC} {rs:List RR} (h:uJ P f N rs=some ac):aV P f N ac rs:=by
 unfold uJ at h
 split at h
 ·rename_i fn hf
  split at h
  ·rename_i hc
   simp only [Bool.and_eq_true,beq_iff_eq] at hc
   split at h
   ·rename_i c rs' hb hr
    split at h
    ·rename_i he;subst he
     exact ⟨hc.1,fn,c,hf,hb,hc.2,h,hr⟩
    ·cases h
   ·cases h
  ·cases h
 ·cases h
theorem tX {P:Program} {f:FuncId} {N:Nat} {ac:AC} {rs:List RR} (H:aV P f N ac rs) {args:List U} {pre us:List (Nat×HB)} {sv:U} (σ:List Nat) (hs0:List (Option HB)) (dV:List U)
 (hargs:args.length≤N) (hA:ov (fun j=>σ[j]?) dV args) (hl:hs0.length=σ.length) (hinj:∀ (i j id:Nat),σ[i]?=some id→σ[j]?=some id→i=j)
 (lA:∀ (j id:Nat),σ[j]?=some id→∃ hb hb',hs0[j]?=some (some hb)∧(id,hb')∈pre∧gC (fun j=>σ[j]?) hb hb')
 (hrun:∀ K:Ex→St→Prop,(∀ env h env' h' τ,cA σ.length ⟨env,h⟩ ⟨env',h'⟩→Fin σ pre us rs sv env' h' τ→K .normal ⟨env,h⟩∧K .ret ⟨env,h⟩)→G P σ.length [.c ac] K (hU 0 dV) hs0):aI P f args pre us sv:=by
 obtain ⟨HM,fn,c,hf,hb,hN,hc,hr⟩:=H
 subst hN
 refine ⟨HM,fun C hp w aa vs hpre hnew R hvl hvs=>?_⟩
 obtain ⟨R0,hro,HL⟩:=FR R (N:=fn.ntmps) hpre hl hinj lA
 refine calls_of_wp hf hb ?_
 have hG:=hrun (fun e s=>(∀ id,e≠.exit id)∧∃ s' τ,cA σ.length s s'∧Fin σ pre us rs sv s'.env s'.h τ) (fun env h env' h' τ hE hF=>⟨⟨by simp,⟨env',h'⟩,τ,hE,hF⟩,⟨by simp,⟨env',h'⟩,τ,hE,hF⟩⟩)
 have R1:ee (inner C aa hp w fn.ntmps σ hs0) σ.length ⟨hU 0 dV,hs0⟩ { tmps:=vs.toArray++Array.replicate (fn.ntmps - vs.toArray.size) undef,defers:=[] } w:=by
  refine ⟨⟨_,R0,fun n=>?_,?_,rfl⟩,by rw [← hl];exact Nat.le_refl _,fun id hid=>?_⟩
  ·show Rp _ _ _ _ (lk (hU 0 dV) n) _
   rw [Cr,if_pos (Nat.zero_le _),Nat.sub_zero]
   cases hx:dV[n]? with
   | none=>exact .dead _
   | some x=>
     have hlt:=(List.getElem?_eq_some_iff.1 hx).1
     have hy:=List.getElem?_eq_getElem (l:=args) (i:=n) (by have:=hA.1;omega)
     have hv:=HL (hvs n _ hy) (hA.2 n x _ hx hy)
     have:(vs.toArray++Array.replicate (fn.ntmps - vs.toArray.size) undef).getD n undef=vs.getD n undef:=by
      have hn:n<vs.length:=by have:=hA.1;omega
      simp [Array.getD_eq_getD_getElem?,List.getD_eq_getElem?_getD,Array.getElem?_append,hn]
     rw [this];exact hv
  ·show (vs.toArray++Array.replicate (fn.ntmps - vs.toArray.size) undef).size=fn.ntmps
   simp;omega
  ·show ag hs0 id=none
   unfold ag
   rw [List.getElem?_eq_none (by omega)]
 refine Pc c ac _ _ _ _ _ hc hG R1 (fun e s a w' hk RS=>?_)
 obtain ⟨hne,s',τ,hE,F⟩:=hk
 obtain ⟨⟨au,RF⟩,_,_⟩:=hE _ _ _ RS
 obtain ⟨cD,hS,hL⟩:=Ll R hpre hnew lA RF.mem F
 obtain ⟨p,xs,r1,r2,r3⟩:=F.res
 obtain ⟨vs,v1,v2⟩:=Ng RF.mem RF.env hr r1 r2
 have hres:=hL _ _ _ v2 r3
 cases e with
 | normal=>exact ⟨RF.defers,_,v1,_,cD,rfl,hS,hres⟩
 | exit id=>exact absurd rfl (hne id)
 | ret=>exact ⟨RF.defers,_,v1,_,cD,rfl,hS,hres⟩
end Go.aG

namespace Go.aG
open Go
theorem xg {n0:Nat} {env env':List (Nat×U)} {h h':List (Option HB)} (τ:Nat→Option Nat) (hn:n0≤h'.length)
 (hid:∀ j i,τ j=some i→i=j) (hkeep:∀ j,τ j=none→n0≤j)
 (hh:∀ j,(∃ hb hb',τ j=some j∧ag h j=some hb∧ag h' j=some hb'∧lV τ (ag h) hb hb')∨(ag h' j=none∧(τ j=none∨ag h j=none)))
 (he:∀ n,Rn τ (ag h) (lk env n) (lk env' n)):cA n0 ⟨env,h⟩ ⟨env',h'⟩:=by
 intro C a w R
 obtain ⟨⟨aa,RF⟩,_,h0⟩:=R
 have hsub:∀ j hb',ag h' j=some hb'→τ j=some j∧∃ hb,ag h j=some hb∧lV τ (ag h) hb hb':=fun j hb' hj=>by
  rcases hh j with ⟨hb,hb2,a1,a2,a3,a4⟩ | ⟨a1,_⟩
  ·rw [hj] at a3;cases a3;exact ⟨a1,hb,a2,a4⟩
  ·rw [hj] at a1;cases a1
 have hsome:∀ j,(ag h' j).isSome=true→(ag h j).isSome=true:=fun j hj=>by
  obtain ⟨hb',hb2⟩:=Option.isSome_iff_exists.1 hj
  obtain ⟨_,hb,h1,_⟩:=hsub j hb' hb2
  rw [h1];rfl
 have M:=RF.mem
 have sS:∀ b,an C aa (ag h) b→an C aa (ag h') b:=fun b hb=>⟨hb.1,fun id hid=>hb.2 id (hsome id hid)⟩
 have sU:∀ j b,τ j=none→(ag h j).isSome=true→aa j=some b→an C aa (ag h') b:=fun j b hj hs hb=>by
  refine ⟨?_,fun id hid he=>?_⟩
  ·rcases (M.own j b hs hb).1 with ⟨a1,_⟩ | a
   ·rw [h0 j (hkeep j hj)] at a1;cases a1
   ·exact .inr a
  ·have:=M.inj id j b (hsome id hid) hs he hb
   subst this
   obtain ⟨hb',hb2⟩:=Option.isSome_iff_exists.1 hid
   obtain ⟨h1,_⟩:=hsub id hb' hb2
   rw [h1] at hj;cases hj
 have hs:∀ j i,τ j=some i→aa j=aa i∧((ag h j).isSome=true→(ag h' i).isSome=true)∧(∀ cs,ag h' i=some (.var cs)→∃ cs',ag h j=some (.var cs'))∧∀ e af xs,ag h' i=some (.row e af xs)→∃ xs',ag h j=some (.row e af xs'):=fun j i hj=>by
  obtain rfl:=hid j i hj
  refine ⟨rfl,fun hi=>?_,fun cs hc=>?_,fun e af xs hc=>?_⟩
  ·rcases hh i with ⟨hb,hb2,a1,a2,a3,a4⟩ | ⟨_,a1 | a1⟩
   ·rw [a3];rfl
   ·rw [a1] at hj;cases hj
   ·rw [a1] at hi;cases hi
  ·obtain ⟨_,hb,h1,h2⟩:=hsub i _ hc
   cases h2 with
   | var xs _ _=>exact ⟨xs,h1⟩
  ·obtain ⟨_,hb,h1,h2⟩:=hsub i _ hc
   cases h2 with
   | row _ _ xs _ _ _=>exact ⟨xs,h1⟩
 refine ⟨⟨aa,⟨⟨fun j hb' hj=>?_,fun i j b h1 h2=>M.inj i j b (hsome i h1) (hsome j h2),fun j b h1 h2=>M.own j b (hsome j h1) h2,M.fr,fun j hb' hb0 h1 h2=>?_⟩,fun n=>(RF.env n).leave sS sU (fun j hb hj=>M.heap j hb hj) hs (he n),RF.size,RF.defers⟩⟩,hn,h0⟩
 ·obtain ⟨a1,hb,a2,a3⟩:=hsub j hb' hj
  exact (M.heap j hb a2).leave sS sU (fun j hb hj=>M.heap j hb hj) hs a1 a3
 ·obtain ⟨a1,hb,a2,a3⟩:=hsub j hb' h1
  have ev:=M.er j hb hb0 a2 h2
  cases a3 with
  | var xs ys _=>cases hb0 <;> exact ev
  | row e af xs ys _ _=>cases hb0 <;> exact ev
theorem sL {P:U→U→Prop} (hd:∀ x,P x .dead) {env:List (Nat×U)}:∀ {env':List (Nat×U)},(∀ p∈env',P (lk env p.1) p.2)→∀ n,P (lk env n) (lk env' n)
 | [],_,n=>hd _
 | (m,v)::r,h,n=>by
   show P (lk env n) (if m=n then v else lk r n)
   by_cases he:m=n
   ·rw [if_pos he,← he];exact h (m,v) (by simp)
   ·rw [if_neg he];exact sL hd (fun p hp=>h p (List.mem_cons_of_mem _ hp)) n
theorem cW (n0:Nat) (s:St):cA n0 s s:=fun _ _ _ R=>R
theorem cA.trans {n0:Nat} {s s1 s2:St} (h:cA n0 s s1) (k:cA n0 s1 s2):cA n0 s s2:=fun C a w R=>k C a w (h C a w R)
theorem bV {n0:Nat} {env env':List (Nat×U)} {h:List (Option HB)} (he:∀ p∈env',p.2 = .dead∨lk env p.1=p.2):cA n0 ⟨env,h⟩ ⟨env',h⟩:=by
 intro C a w R
 obtain ⟨⟨aa,RF⟩,h1,h0⟩:=R
 refine ⟨⟨aa,RF.mem,fun n=>?_,RF.size,RF.defers⟩,h1,h0⟩
 have:=sL (P:=fun x y=>y = .dead∨x=y) (fun x=>.inl rfl) he n
 rcases this with h | h
 ·show Rp _ _ _ _ (lk env' n) _
  rw [h];exact .dead _
 ·show Rp _ _ _ _ (lk env' n) _
  rw [← h];exact RF.env n
inductive ec:RV→Prop where
 | int (k:IntKind) (n:Int):ec (.int k n)
 | bool (b:Bool):ec (.bool b)
 | str (s:ByteArray):ec (.str s)
 | fC:ec .fC
 | bO:ec .bO
 | ia:ec .ia
 | lJ:ec .lJ
 | bt (t:TypeId) (r:RV) (h:ec r):ec (.bt t r)
 | agg (rs:List RV) (h:∀ (j:Nat) (r:RV),rs[j]?=some r→ec r):ec (.agg rs)
 | fn (f:FuncId) (rs:List RV) (h:∀ (j:Nat) (r:RV),rs[j]?=some r→ec r):ec (.fn f rs)
theorem RO.flat {w w':World} {ok bZ:Nat→Prop} {r:RV} {v:Value} (hr:RO w ok r v) (hf:ec r):RO w' bZ r v:=by
 induction hf generalizing v with
 | int k n=>cases hr;exact .int k n
 | bool b=>cases hr;exact .bool b
 | str s=>cases hr;exact .str s
 | fC=>cases hr;exact .fC
 | bO=>cases hr;exact .bO
 | ia=>cases hr;exact .ia
 | lJ=>cases hr;exact .lJ
 | bt t r h ih=>cases hr with | bt _ _ v h=>exact .bt t r v (ih h)
 | agg rs h ih=>cases hr with | agg _ vs hl h1 hy=>exact .agg rs vs hl h1 (fun j y hj=>ih j y hj (hy j y hj))
 | fn f rs h ih=>cases hr with | fn _ _ vs hl hy=>exact .fn f rs vs hl (fun j y hj=>ih j y hj (hy j y hj))
inductive dm:U→Prop where
 | dead:dm .dead
 | rv (r:RV) (h:ec r):dm (.rv r)
 | ptr (id off:Nat):dm (.ptr id off)
 | bw (id af i off:Nat):dm (.bw id af i off)
 | row (id af len:Nat):dm (.row id af len)
 | win (id af off len:Nat):dm (.win id af off len)
 | agg (cs:List U) (h:∀ (j:Nat) (y:U),cs[j]?=some y→dm y):dm (.agg cs)
 | aM (cs:List U) (h:∀ (j:Nat) (y:U),cs[j]?=some y→dm y):dm (.aM cs)
 | fn (f:FuncId) (cs:List U) (h:∀ (j:Nat) (y:U),cs[j]?=some y→dm y):dm (.fn f cs)
 | bt (t:TypeId) (x:U) (h:dm x):dm (.bt t x)
inductive lT:HB→Prop where
 | var (cs:List U) (h:∀ (j:Nat) (y:U),cs[j]?=some y→dm y):lT (.var cs)
 | row (e af:Nat) (xs:List (List U)) (h:∀ (i:Nat) (x:List U) (j:Nat) (y:U),xs[i]?=some x→x[j]?=some y→dm y):lT (.row e af xs)
section
variable {w:World} {ok bZ:Nat→Prop} {aa au:Nat→Option Nat} {hp ah:Hp}
theorem Rp.flat (hs:∀ j,(hp j).isSome=true→ah j=hp j∧au j=aa j) {s:U} {v:Value} (hr:Rp w ok aa hp s v) (hf:dm s):Rp w bZ au ah s v:=by
 induction hf generalizing v with
 | dead=>exact .dead v
 | rv r h=>cases hr with | rv _ _ hr=>exact .rv r v (hr.flat h)
 | ptr id off=>cases hr with | ptr _ _ _ h1 h0 h=>obtain ⟨a,b⟩:=hs id h0;exact .ptr id off v h1 (by rw [a];exact h0) (by rw [a,b];exact h)
 | bw id af i off=>cases hr with | bw _ _ _ _ _ h1 h0 hv h=>obtain ⟨a,b⟩:=hs id h0;exact .bw id af i off v h1 (by rw [a];exact h0) (by rw [a];exact hv) (by rw [a,b];exact h)
 | row id af len=>cases hr with | row _ _ _ _ h1 h0 hv h=>obtain ⟨a,b⟩:=hs id h0;exact .row id af len v h1 (by rw [a];exact h0) (by rw [a];exact hv) (by rw [a,b];exact h)
 | win id af off len=>cases hr with | win _ _ _ _ _ h1 h0 hv hr hc=>obtain ⟨a,b⟩:=hs id h0;exact .win id af off len v h1 (by rw [a];exact h0) (by rw [a];exact hv) (by rw [a,b];exact hr) (by rw [a,b];exact hc)
 | agg cs h ih=>cases hr with | agg _ vs hl h1 hy=>exact .agg cs vs hl h1 (fun j y hj=>ih j y hj (hy j y hj))
 | aM cs h ih=>cases hr with | aM _ vs hl hy=>exact .aM cs vs hl (fun j y hj=>ih j y hj (hy j y hj))
 | fn f cs h ih=>cases hr with | fn _ _ vs hl hy=>exact .fn f cs vs hl (fun j y hj=>ih j y hj (hy j y hj))
 | bt t x h ih=>cases hr with | bt _ _ v0 h0=>exact .bt t x v0 (ih h0)
theorem cJ.flat (hs:∀ j,(hp j).isSome=true→ah j=hp j∧au j=aa j) {cur:Array Value} {off:Nat} {cs:List U} (h:cJ w ok aa hp cur off cs) (hf:∀ (j:Nat) (y:U),cs[j]?=some y→dm y):cJ w bZ au ah cur off cs:=fun j y hy=>by
 obtain ⟨v,h1,h2,h3⟩:=h j y hy
 exact ⟨v,h1,h2,h3.flat hs (hf j y hy)⟩
theorem fQ.flat (hs:∀ j,(hp j).isSome=true→ah j=hp j∧au j=aa j) {id:Nat} {hb:HB} (hid:(hp id).isSome=true) (h:fQ w ok aa hp id hb) (hf:lT hb):fQ w bZ au ah id hb:=by
 have hr:=(hs id hid).2
 rcases h with ⟨h1,h2⟩ | ⟨b,cur,t,h1,h2,h3⟩
 ·exact .inl ⟨hr.trans h1,h2⟩
 ·refine .inr ⟨b,cur,t,hr.trans h1,h2,?_⟩
  cases hf with
  | var cs hf=>exact ⟨h3.1,h3.2.flat hs hf⟩
  | row e af xs hf=>exact ⟨h3.1,h3.2.1,fun i x hx=>(h3.2.2 i x hx).flat hs (fun j y hy=>hf i x j y hx hy)⟩
end
theorem kQ {us:List (Nat×HB)} {id:Nat}:(bf (fun _=>none) us id).isSome=true↔id∈us.map (·.1):=by
 have gen:∀ (us:List (Nat×HB)) (hp:Hp),(bf hp us id).isSome=true↔(hp id).isSome=true∨id∈us.map (·.1):=by
  intro us
  induction us with
  | nil=>intro hp;simp [bf]
  | cons q r ih=>
    intro hp
    obtain ⟨i,hb⟩:=q
    rw [bf,ih]
    by_cases h:id=i
    ·subst h;simp
    ·rw [cv _ _ h];simp [h]
 rw [gen];simp
theorem Ec {us:List (Nat×HB)} {id:Nat} {hb:HB}:∀ {hp:Hp},bf hp us id=some hb→hp id=some hb∨(id,hb)∈us:=by
 induction us with
 | nil=>intro hp h;exact .inl h
 | cons q r ih=>
   intro hp h
   obtain ⟨i,hb0⟩:=q
   rcases ih h with h | h
   ·by_cases he:id=i
    ·subst he;rw [bJ] at h;cases h;exact .inr (by simp)
    ·rw [cv _ _ he] at h;exact .inl h
   ·exact .inr (by simp [h])
theorem Fb {P:Program} {f:FuncId} {rs:List RV} {args:List U} {pre us:List (Nat×HB)} {sv:U} (H:aI P f (rs.map .rv) [] us sv) (hl:args.length=rs.length)
 (hz:∀ hp,aS hp pre→∀ (j:Nat) (y:U) (r:RV),args[j]?=some y→rs[j]?=some r→Fz (fun _=>none) hp y r) (hfl:dm sv) (eG:∀ q∈us,lT q.2∧∀ p∈pre,p.1≠q.1):aI P f args pre us sv:=by
 refine ⟨H.1,fun C hp w aa vs hpre hnew R hvl hvs=>?_⟩
 let C2:Ctx:=⟨w,fun b=>an C aa hp b∨∃ id,(hp id).isSome=true∧aa id=some b,fun _=>False,C.N,fun _=>none,fun _=>none⟩
 have oQ:∀ b,C2.sR b→an C2 (fun _=>none) (fun _=>none) b:=fun b hb=>⟨.inl hb,fun id hid=>by simp at hid⟩
 have R2:bF C2 (fun _=>none) w (fun _=>none):=⟨fun id hb h=>(by cases h),fun i j b h=>(by simp at h),fun i b h=>(by simp at h),⟨rfl,rfl,rfl,Nat.le_refl _,fun b _ _=>rfl⟩,fun id hb hb0 h=>(by cases h)⟩
 have mO:∀ id,id∈us.map (·.1)→hp id=none∧C.h0 id=none:=fun id hid=>by
  obtain ⟨q,hq,rfl⟩:=List.mem_map.1 hid
  rcases hnew q hq with ⟨hb,hm⟩ | h
  ·exact absurd rfl ((eG q hq).2 (q.1,hb) hm)
  ·exact h
 refine (H.2 C2 (fun _=>none) w (fun _=>none) vs (fun q hq=>by simp at hq) (fun q hq=>.inr ⟨rfl,rfl⟩) R2 (by simp [hvl,hl]) (fun j s hj=>?_)).mono ?_
 ·rw [List.getElem?_map] at hj
  cases hr:rs[j]? with
  | none=>simp [hr] at hj
  | some r=>
    simp [hr] at hj
    subst hj
    have hlt:=(List.getElem?_eq_some_iff.1 hr).1
    have hy:=List.getElem?_eq_getElem (l:=args) (i:=j) (by omega)
    refine .rv _ _ (Fz.ro (τ:=fun _=>none) (fun b hb=>oQ b (.inl hb)) (fun i b _ hi hb=>oQ b (.inr ⟨i,hi,hb⟩)) (fun i hb hi=>R.heap i hb hi) (hvs j _ hy) (hz hp hpre j _ r hy hr))
 ·rintro e w' ⟨v,au,rfl,S,hR⟩
  have R':=S.mem
  have dc:∀ b,b<w.heap.size→w'.heap[b]?=w.heap[b]?:=fun b hb=>R'.fr.block b hb (fun h=>h)
  have hsz:w.heap.size≤w'.heap.size:=R'.fr.size
  have mP:∀ id b,id∈us.map (·.1)→au id=some b→w.heap.size≤b∧b<w'.heap.size:=fun id b hid hb=>by
   obtain ⟨h1,h2⟩:=R'.own id b (kQ.2 hid) hb
   rcases h1 with ⟨a,_⟩ | a
   ·cases a
   ·exact ⟨a,h2⟩
  let cD:Nat→Option Nat:=fun id=>if id∈us.map (·.1) then au id else aa id
  have rT:∀ id,id∈us.map (·.1)→cD id=au id:=fun id h=>if_pos h
  have rN:∀ id,id∉us.map (·.1)→cD id=aa id:=fun id h=>if_neg h
  have hN:∀ id,id∉us.map (·.1)→bf hp us id=hp id:=fun id h=>wq h
  have hT:∀ id,id∈us.map (·.1)→bf hp us id=bf (fun _=>none) us id:=fun id h=>tj h
  have hs:∀ j,(bf (fun _=>none) us j).isSome=true→bf hp us j=bf (fun _=>none) us j∧cD j=au j:=fun j hj=>⟨hT j (kQ.1 hj),rT j (kQ.1 hj)⟩
  have oZ:∀ b,an C aa hp b→b<w.heap.size→an C cD (bf hp us) b∧w'.heap[b]?=w.heap[b]?:=fun b hb hlt=>by
   refine ⟨⟨hb.1,fun id hid he=>?_⟩,dc b hlt⟩
   by_cases hm:id∈us.map (·.1)
   ·rw [rT id hm] at he
    have:=(mP id b hm he).1;omega
   ·rw [hN id hm] at hid
    rw [rN id hm] at he
    exact hb.2 id hid he
  have E:dK w w' (an C aa hp) (an C cD (bf hp us)) aa cD hp (bf hp us):=dK.of oZ (fun id hb hq=>by
   have hm:id∉us.map (·.1):=fun hm=>by rw [(mO id hm).1] at hq;cases hq
   refine ⟨hb,by rw [hN id hm];exact hq,?_⟩
   rw [rN id hm]
   cases hb with
   | var cs=>rfl
   | row e af xs=>exact ⟨Nat.le_refl _,fun _=>⟨rfl,rfl,fun b hb cur t hc=>⟨cur,t,by rw [dc b (R.own id b (by rw [hq];rfl) hb).2];exact hc,rfl⟩⟩⟩)
  refine ⟨v,cD,rfl,⟨⟨fun id hb hq=>?_,fun i j b h1 h2 h3 h4=>?_,fun id b h1 h2=>?_,⟨R'.fr.os.trans R.fr.os,R'.fr.tape.trans R.fr.tape,R'.fr.output.trans R.fr.output,Nat.le_trans R.fr.size hsz,fun b h1 h2=>?_⟩,fun id hb hb0 h1 h2=>?_⟩,E⟩,hR.flat hs hfl⟩
  ·by_cases hm:id∈us.map (·.1)
   ·rw [hT id hm] at hq
    have xK:lT hb:=by
     rcases Ec hq with h | h
     ·cases h
     ·exact (eG _ h).1
    exact (R'.heap id hb hq).flat hs (kQ.2 hm) xK
   ·rw [hN id hm] at hq
    rcases R.heap id hb hq with ⟨a1,a2⟩ | ⟨b,cur,t,a1,a2,a3⟩
    ·exact .inl ⟨(rN id hm).trans a1,a2⟩
    ·refine .inr ⟨b,cur,t,(rN id hm).trans a1,?_,a3.mono E⟩
     rw [dc b (R.own id b (by rw [hq];rfl) a1).2];exact a2
  ·by_cases hi:i∈us.map (·.1) <;> by_cases hj:j∈us.map (·.1)
   ·rw [rT i hi] at h3;rw [rT j hj] at h4
    exact R'.inj i j b (kQ.2 hi) (kQ.2 hj) h3 h4
   ·rw [rT i hi] at h3;rw [rN j hj] at h4;rw [hN j hj] at h2
    have h5:=mP i b hi h3;have h6:=R.own j b h2 h4;omega
   ·rw [rN i hi] at h3;rw [rT j hj] at h4;rw [hN i hi] at h1
    have h5:=mP j b hj h4;have h6:=R.own i b h1 h3;omega
   ·rw [rN i hi] at h3;rw [rN j hj] at h4;rw [hN i hi] at h1;rw [hN j hj] at h2
    exact R.inj i j b h1 h2 h3 h4
  ·by_cases hm:id∈us.map (·.1)
   ·rw [rT id hm] at h2
    obtain ⟨a1,a2⟩:=mP id b hm h2
    exact ⟨.inr (Nat.le_trans R.fr.size a1),a2⟩
   ·rw [hN id hm] at h1;rw [rN id hm] at h2
    obtain ⟨a1,a2⟩:=R.own id b h1 h2
    exact ⟨a1,by omega⟩
  ·rw [dc b (by have:=R.fr.size;omega)];exact R.fr.block b h1 h2
  ·by_cases hm:id∈us.map (·.1)
   ·rw [(mO id hm).2] at h2;cases h2
   ·rw [hN id hm] at h1
    have ev:=R.er id hb hb0 h1 h2
    obtain ⟨hb',g1,g2⟩:∃ hb',bf hp us id=some hb'∧dZ w w' (aa id) (cD id) hb hb':=by
     refine ⟨hb,by rw [hN id hm];exact h1,?_⟩
     rw [rN id hm]
     cases hb with
     | var cs=>rfl
     | row e af xs=>exact ⟨Nat.le_refl _,fun _=>⟨rfl,rfl,fun b hb cur t hc=>⟨cur,t,by rw [dc b (R.own id b (by rw [h1];rfl) hb).2];exact hc,rfl⟩⟩⟩
    rw [hN id hm,h1] at g1;cases g1
    exact ev.trans g2
end Go.aG

namespace Go.aG
open Go
def aN (τ:Nat→Option Nat) (h:Hp):List U→List U→Prop
 | [],[]=>True
 | x::xs,y::ys=>Rn τ h x y∧aN τ h xs ys
 | _,_=>False
theorem qJ {τ:Nat→Option Nat} {h:Hp}:∀ {xs ys:List U},aN τ h xs ys↔oz τ h xs ys
 | [],[]=>⟨fun _=>⟨rfl,fun i x y hx=>by simp at hx⟩,fun _=>trivial⟩
 | [],_::_=>⟨fun h=>h.elim,fun h=>by simp [oz] at h⟩
 | _::_,[]=>⟨fun h=>h.elim,fun h=>by simp [oz] at h⟩
 | x::xs,y::ys=>by
   unfold aN
   rw [qJ (xs:=xs) (ys:=ys)]
   constructor
   ·rintro ⟨h1,h2,h3⟩
    refine ⟨by simp [h2],fun i a b ha hb=>?_⟩
    cases i with
    | zero=>simp at ha hb;subst ha;subst hb;exact h1
    | succ i=>exact h3 i a b (by simpa using ha) (by simpa using hb)
   ·rintro ⟨h2,h3⟩
    exact ⟨h3 0 x y rfl rfl,by simpa using h2,fun i a b ha hb=>h3 (i+1) a b (by simpa using ha) (by simpa using hb)⟩
section
variable {τ:Nat→Option Nat} {h:Hp}
theorem aO {r r':RV}:Rn τ h (.rv r) (.rv r')↔r=r':=⟨fun hr=>by cases hr with | fz _ _ hf=>cases hf;rfl,fun e=>by subst e;exact .fz _ _ (.rv _)⟩
theorem dS {x:U}:Rn τ h x .dead↔True:=⟨fun _=>trivial,fun _=>.dead _⟩
theorem dj {i j o o':Nat}:Rn τ h (.ptr i o) (.ptr j o')↔τ i=some j∧o=o':=⟨fun hr=>by cases hr with | ptr _ _ _ hj=>exact ⟨hj,rfl⟩,fun ⟨e,e'⟩=>by subst e';exact .ptr _ _ _ e⟩
theorem cO {i j v v' l l':Nat}:Rn τ h (.row i v l) (.row j v' l')↔τ i=some j∧v=v'∧l=l':=⟨fun hr=>by cases hr with | row _ _ _ _ hj=>exact ⟨hj,rfl,rfl⟩,fun ⟨e,e',e2⟩=>by subst e';subst e2;exact .row _ _ _ _ e⟩
theorem aQ {xs ys:List U}:Rn τ h (.agg xs) (.agg ys)↔aN τ h xs ys:=by rw [qJ];exact ⟨fun hr=>by cases hr with | agg _ _ hl hf=>exact ⟨hl,hf⟩,fun ⟨e,e'⟩=>.agg _ _ e e'⟩
theorem bI {xs ys:List U}:Rn τ h (.aM xs) (.aM ys)↔aN τ h xs ys:=by rw [qJ];exact ⟨fun hr=>by cases hr with | aM _ _ hl hf=>exact ⟨hl,hf⟩,fun ⟨e,e'⟩=>.aM _ _ e e'⟩
theorem MT {f f':FuncId} {xs ys:List U}:Rn τ h (.bT f xs) (.bT f' ys)↔f=f'∧aN τ h xs ys:=by rw [qJ];exact ⟨fun hr=>by cases hr with | bT _ _ _ hl hf=>exact ⟨rfl,hl,hf⟩,fun ⟨e,e',e2⟩=>by subst e;exact .bT _ _ _ e' e2⟩
theorem dU {t t':TypeId} {x y:U}:Rn τ h (.bt t x) (.bt t' y)↔t=t'∧Rn τ h x y:=⟨fun hr=>by cases hr with | bt _ _ _ hf=>exact ⟨rfl,hf⟩,fun ⟨e,e'⟩=>by subst e;exact .bt _ _ _ e'⟩
end
def bq (τ:Nat→Option Nat) (h:Hp) (sv:U):Option (Prop×List U)→Prop
 | some (p,xs)=>p∧Rn τ h (bA xs) sv
 | none=>False
theorem Fa {P:Program} {f:FuncId} {N:Nat} {ac:AC} {rs:List RR} (H:aV P f N ac rs) (fy:List RV) (sv:U) (hN:fy.length≤N)
 (hrun:∀ K:Ex→St→Prop,(∀ env h,bq (fun _=>none) (ag h) sv (bk (lk env) (ag h) rs)→K .normal ⟨env,h⟩∧K .ret ⟨env,h⟩)→G P 0 [.c ac] K (hU 0 (fy.map .rv)) []):aI P f (fy.map .rv) [] [] sv:=by
 refine tX H [] [] (fy.map .rv) (by simpa using hN) ⟨rfl,fun i x y hx hy=>?_⟩ rfl (by simp) (by simp) (fun K hK=>hrun K (fun env h hr=>?_))
 ·rw [hx] at hy;cases hy
  rw [List.getElem?_map] at hx
  cases hr:fy[i]? with
  | none=>simp [hr] at hx
  | some r=>simp [hr] at hx;subst hx;exact .rv r
 ·unfold bq at hr
  split at hr
  ·rename_i p xs hres
   exact hK env h env h (fun _=>none) (cW _ _) ⟨by simp,by simp,by simp,by simp,by simp,p,xs,hres,hr.1,hr.2⟩
  ·exact hr.elim
theorem wrap_i64 {n:Int} (h1 : -9223372036854775808≤n) (h2:n<9223372036854775808):IntKind.i64.wrap n=n:=by
 unfold IntKind.wrap
 simp only [IntKind.signed,IntKind.bits]
 by_cases h:(9223372036854775808:Int)≤n % 18446744073709551616 <;> simp [h] <;> omega
end Go.aG

namespace Go.aG
open Go
def rR (P:Program) (rec:TypeId→Bool):Nat→List Field→Option Nat
 | off,[]=>some off
 | off,f::r=>if f.offset=off && rec f.type then rR P rec (off+P.cellsOf f.type) r else none
def kZ (P:Program):Nat→TypeId→Bool
 | 0,_=>false
 | n+1,t=>match P.underlying t with
   | some .bool | some (.int _) | some .string=>P.cellsOf t == 1
   | some (.slice e)=>P.cellsOf t == 1 && kZ P n e
   | some (.struct fs)=>rR P (kZ P n) 0 fs.toList == some (P.cellsOf t)
   | some (.array m e)=>kZ P n e && P.cellsOf t == m*P.cellsOf e
   | _=>false
def qQ (P:Program) (rec:TypeId→List RV→Prop):List Field→List RV→Prop
 | [],rs=>rs=[]
 | f::r,rs=>∃ a b,rs=a++b∧rec f.type a∧qQ P rec r b
def fo (P:Program):Nat→TypeId→List RV→Prop
 | 0,_,_=>False
 | n+1,t,rs=>match P.underlying t with
   | some .bool=>∃ b,rs=[.bool b]
   | some (.int k)=>∃ i,rs=[.int k i]∧(Lit.int k i).wf=true
   | some .string=>∃ s,rs=[.str s]∧s.size≤maxLen
   | some (.slice e)=>∃ xs,rs=[.sl (P.cellsOf e) xs]∧xs.length≤maxLen∧∀ x∈xs,fo P n e x
   | some (.struct fs)=>qQ P (fo P n) fs.toList rs
   | some (.array m e)=>∃ xs:List (List RV),rs=xs.flatten∧xs.length=m∧∀ x∈xs,fo P n e x
   | _=>False
def fR (w:World) (ok:Nat→Prop) (vs:List Value) (rs:List RV):Prop:=vs.length=rs.length∧∀ (j:Nat) (r:RV),rs[j]?=some r→r.one=true∧RO w ok r (vs.getD j undef)
theorem fR.append {w:World} {ok:Nat→Prop} {vs us:List Value} {rs qs:List RV} (h:fR w ok vs rs) (k:fR w ok us qs):fR w ok (vs++us) (rs++qs):=by
 refine ⟨by simp [h.1,k.1],fun j r hj=>?_⟩
 by_cases hlt:j<rs.length
 ·rw [List.getElem?_append_left hlt] at hj
  have:=h.2 j r hj
  rw [List.getD_eq_getElem?_getD,List.getElem?_append_left (by rw [h.1];exact hlt),← List.getD_eq_getElem?_getD]
  exact this
 ·rw [List.getElem?_append_right (by omega)] at hj
  have:=k.2 _ r hj
  rw [List.getD_eq_getElem?_getD,List.getElem?_append_right (by rw [h.1];omega),h.1,← List.getD_eq_getElem?_getD]
  exact this
theorem fR.one {w:World} {ok:Nat→Prop} {v:Value} {r:RV} (h:RO w ok r v) (h1:r.one=true):fR w ok [v] [r]:=
 ⟨rfl,fun j q hj=>by
  cases j with
  | zero=>simp at hj;subst hj;exact ⟨h1,h⟩
  | succ j=>simp at hj⟩
section
variable {P:Program} {H:Type} {enc:TypeId×Value→H} {w:World} {base:Nat} {spare:Nat→Bool} {held:Bool}
theorem DZ (ok:Nat→Prop) {n m:Nat} (IH:∀ t,kZ P n t=true→∀ cs x,DataW.trod enc P w base spare held m t cs=some x→∃ rs,fo P n t rs∧fR w ok cs rs∧cs.length=P.cellsOf t) :
 ∀ (fs:List Field) (off tot:Nat) (cs:List Value),rR P (kZ P n) off fs=some tot→cs.length=tot→(∀ f∈fs,∃ x,DataW.trod enc P w base spare held m f.type ((cs.drop f.offset).take (P.cellsOf f.type))=some x)→
 ∃ rs,qQ P (fo P n) fs rs∧fR w ok (cs.drop off) rs
 | [],off,tot,cs,h,hl,_=>by
   simp only [rR,Option.some.injEq] at h
   subst h
   refine ⟨[],rfl,?_⟩
   rw [List.drop_of_length_le (by omega)]
   exact ⟨rfl,fun j r hj=>by simp at hj⟩
 | f::fs,off,tot,cs,h,hl,hx=>by
   unfold rR at h
   split at h
   ·rename_i hf
    simp only [Bool.and_eq_true,decide_eq_true_eq] at hf
    obtain ⟨x,hx0⟩:=hx f (by simp)
    obtain ⟨a,xz,uN,HF⟩:=IH f.type hf.2 _ _ hx0
    obtain ⟨b,hb1,hb2⟩:=DZ ok IH fs (off+P.cellsOf f.type) tot cs h hl (fun g hg=>hx g (by simp [hg]))
    refine ⟨a++b,⟨a,b,rfl,xz,hb1⟩,?_⟩
    rw [hf.1] at uN
    have:cs.drop off=(cs.drop off).take (P.cellsOf f.type)++cs.drop (off+P.cellsOf f.type):=by
     rw [← List.drop_drop,List.take_append_drop]
    rw [this]
    exact uN.append hb2
   ·cases h
theorem DY (ok:Nat→Prop) {n m:Nat} {e:TypeId} (IH:∀ cs x,DataW.trod enc P w base spare held m e cs=some x→∃ rs,fo P n e rs∧fR w ok cs rs∧cs.length=P.cellsOf e) :
 ∀ (k i:Nat) (cs:List Value),cs.length=(i+k)*P.cellsOf e→(∀ j,i≤j→j<i+k→∃ x,DataW.trod enc P w base spare held m e ((cs.drop (j*P.cellsOf e)).take (P.cellsOf e))=some x)→
 ∃ xs:List (List RV),xs.length=k∧(∀ x∈xs,fo P n e x)∧fR w ok (cs.drop (i*P.cellsOf e)) xs.flatten
 | 0,i,cs,hl,_=>by
   refine ⟨[],rfl,by simp,?_⟩
   rw [List.drop_of_length_le (by simp at hl;omega)]
   exact ⟨rfl,fun j r hj=>by simp at hj⟩
 | k+1,i,cs,hl,hx=>by
   obtain ⟨x,hx0⟩:=hx i (Nat.le_refl _) (by omega)
   obtain ⟨a,xz,uN,HF⟩:=IH _ _ hx0
   obtain ⟨xs,h1,h2,h3⟩:=DY ok IH k (i+1) cs (by rw [hl];congr 1;omega) (fun j h1 h2=>hx j (by omega) (by omega))
   refine ⟨a::xs,by simp [h1],fun x hx=>?_,?_⟩
   ·rcases List.mem_cons.1 hx with rfl | hx
    ·exact xz
    ·exact h2 x hx
   ·have:cs.drop (i*P.cellsOf e)=(cs.drop (i*P.cellsOf e)).take (P.cellsOf e)++cs.drop ((i+1)*P.cellsOf e):=by
     rw [Nat.add_mul,Nat.one_mul,← List.drop_drop,List.take_append_drop]
    rw [this,List.flatten_cons]
    exact uN.append h3
theorem Fk {a:Addr} {n:Nat} {cs:List Value} (h:w.cells? base a n=some cs):cs.length=n∧∀ j,j<n→w.cell? (a.add j)=some (cs.getD j undef):=by
 unfold World.cells? at h
 split at h
 ·obtain ⟨h1,h2⟩:=mapM_some_get _ _ _ h
  refine ⟨by simpa using h1,fun j hj=>?_⟩
  have hr:(List.range n)[j]?=some j:=List.getElem?_range hj
  obtain ⟨h3,h4⟩:=h2 j j hr
  have hlt:j<cs.length:=by rw [h1];simpa using hj
  rw [List.getD_eq_getElem?_getD,List.getElem?_eq_getElem hlt,Option.getD_some,← h3,List.getElem?_eq_getElem hlt]
 ·cases h
theorem typed (ok:Nat→Prop) (hok:∀ b,b<w.heap.size→ok b):∀ (n:Nat) (t:TypeId),kZ P n t=true→∀ (fuel:Nat) (cs:List Value) (x:DataW H×List MemPlace),DataW.trod enc P w base spare held fuel t cs=some x→∃ rs,fo P n t rs∧fR w ok cs rs∧cs.length=P.cellsOf t
 | 0,t,h,_,_,_,_=>by cases h
 | n+1,t,h,fuel,cs,x,hx=>by
   unfold kZ at h
   unfold fo
   split at h
   ·rename_i hu
    obtain ⟨b,rfl,_⟩:=DataW.trod_bool hu hx
    try simp only [hu]
    exact ⟨[.bool b],⟨b,rfl⟩,.one (.bool b) rfl,by simp at h;simp [h]⟩
   ·rename_i k hu
    obtain ⟨i,rfl,_,hw⟩:=DataW.trod_int hu hx
    try simp only [hu]
    exact ⟨[.int k i],⟨i,rfl,hw⟩,.one (.int k i) rfl,by simp at h;simp [h]⟩
   ·rename_i hu
    obtain ⟨s,rfl,_,hs⟩:=DataW.trod_string hu hx
    try simp only [hu]
    exact ⟨[.str s],⟨s,rfl,hs⟩,.one (.str s) rfl,by simp at h;simp [h]⟩
   ·rename_i e hu
    simp only [Bool.and_eq_true,beq_iff_eq] at h
    try simp only [hu]
    rcases DataW.trod_slice hu hx with ⟨rfl,_⟩ | ⟨a,len,cap,elems,rest,m,rfl,rfl,_,hb,hl,hm,hel,hcell,_,_⟩
    ·refine ⟨[.sl (P.cellsOf e) []],⟨[],rfl,by simp,by simp⟩,.one ?_ rfl,by simpa using h.1.symm⟩
     exact .sl _ [] none 0 (fun _ _=>undef) (fun _=>⟨rfl,rfl⟩) (by simp) (by simp [maxLen]) (by simp) (fun i x j y hx=>by simp at hx) (fun i x j y hx=>by simp at hx) (fun i x j y hx=>by simp at hx)
    ·have key:∀ i,i<len→∃ (ci:List Value) (r:List RV),fo P n e r∧fR w ok ci r∧ci.length=P.cellsOf e∧∀ j,j<P.cellsOf e→w.cell? ((a.add (i*P.cellsOf e)).add j)=some (ci.getD j undef):=fun i hi=>by
      have h1:=hcell i hi
      rw [List.getElem?_eq_getElem (by omega)] at h1
      simp only [Option.bind_eq_some_iff] at h1
      obtain ⟨ci,h2,h3⟩:=h1
      obtain ⟨r,g1,g2,g3⟩:=typed ok hok n e h.2 m ci _ h3
      exact ⟨ci,r,g1,g2,g3,(Fk h2).2⟩
     classical
     let cf:Nat→List Value:=fun i=>if h:i<len then (key i h).choose else []
     let rf:Nat→List RV:=fun i=>if h:i<len then (key i h).choose_spec.choose else []
     have hf:∀ i,i<len→fo P n e (rf i)∧fR w ok (cf i) (rf i)∧(cf i).length=P.cellsOf e∧∀ j,j<P.cellsOf e→w.cell? ((a.add (i*P.cellsOf e)).add j)=some ((cf i).getD j undef):=fun i hi=>by
      have h1:cf i=(key i hi).choose:=dif_pos hi
      have h2:rf i=(key i hi).choose_spec.choose:=dif_pos hi
      rw [h1,h2]
      exact (key i hi).choose_spec.choose_spec
     have hlen:((List.range len).map rf).length=len:=by simp
     have ag:∀ (i:Nat) (x:List RV),((List.range len).map rf)[i]?=some x→i<len∧x=rf i:=fun i x hi=>by
      rw [List.getElem?_map] at hi
      cases hr:(List.range len)[i]? with
      | none=>simp [hr] at hi
      | some j=>
        have hlt:=(List.getElem?_eq_some_iff.1 hr).1
        simp at hlt
        rw [List.getElem?_range hlt] at hr
        cases hr
        rw [List.getElem?_range hlt] at hi
        simp at hi
        exact ⟨hlt,hi.symm⟩
     refine ⟨[.sl (P.cellsOf e) ((List.range len).map rf)],⟨_,rfl,by rw [hlen];omega,fun x hx=>?_⟩,.one ?_ rfl,by simpa using h.1.symm⟩
     ·obtain ⟨i,hi,rfl⟩:=List.mem_map.1 hx
      exact (hf i (by simpa using hi)).1
     ·have hcs:∀ (i:Nat) (x:List RV) (j:Nat) (y:RV),((List.range len).map rf)[i]?=some x→x[j]?=some y→i<len∧(rf i)[j]?=some y∧w.cell? (a.add (i*P.cellsOf e+j))=some ((cf i).getD j undef):=fun i x j y hi hj=>by
       obtain ⟨h1,rfl⟩:=ag i x hi
       obtain ⟨_,g2,g3,g4⟩:=hf i h1
       have hlt:=(List.getElem?_eq_some_iff.1 hj).1
       have:=g4 j (by rw [← g3,g2.1];exact hlt)
       rw [tE] at this
       exact ⟨h1,hj,this⟩
      have:=RO.sl (w:=w) (ok:=ok) (P.cellsOf e) ((List.range len).map rf) (some a) cap (fun i j=>(cf i).getD j undef) (fun h=>by cases h) (by rw [hlen];exact hl) hm (fun x hx=>by
       obtain ⟨i,hi,rfl⟩:=List.mem_map.1 hx
       obtain ⟨_,g2,g3,_⟩:=hf i (by simpa using hi)
       rw [← g2.1,g3]) (fun i x j y hi hj=>by
       obtain ⟨_,_,h3⟩:=hcs i x j y hi hj
       exact ⟨a,rfl,hok _ (by have:=World.block_lt_of_cell? w _ h3;rwa [tF] at this),h3⟩) (fun i x j y hi hj=>by
       obtain ⟨h1,h2,_⟩:=hcs i x j y hi hj
       exact ((hf i h1).2.1.2 j y h2).1) (fun i x j y hi hj=>by
       obtain ⟨h1,h2,_⟩:=hcs i x j y hi hj
       exact ((hf i h1).2.1.2 j y h2).2)
      rw [hlen] at this
      exact this
   ·rename_i fs hu
    simp only [beq_iff_eq] at h
    try simp only [hu]
    obtain ⟨xs,m,rfl,_,hl,yg,hf⟩:=DataW.trod_struct hu hx
    obtain ⟨rs,g1,g2⟩:=DZ (enc:=enc) (m:=m) ok (fun t ht cs x hx=>typed ok hok n t ht m cs x hx) fs.toList 0 (P.cellsOf t) cs h hl (fun f HZ=>by
     obtain ⟨i,hi,he⟩:=List.mem_iff_getElem.1 HZ
     have hi':i<fs.size:=by simpa using hi
     have mN:fs[i]?=some f:=by rw [Array.getElem?_eq_getElem hi'];simp at he;rw [he]
     have:=hf i f mN
     rw [List.getElem?_eq_getElem (by omega)] at this
     exact ⟨_,this⟩)
    exact ⟨rs,g1,by simpa using g2,hl⟩
   ·rename_i k e hu
    simp only [Bool.and_eq_true,beq_iff_eq] at h
    try simp only [hu]
    obtain ⟨xs,m,rfl,_,hl,yg,hf⟩:=DataW.trod_array hu hx
    obtain ⟨ys,g1,g2,g3⟩:=DY (enc:=enc) (m:=m) ok (fun cs x hx=>typed ok hok n e h.1 m cs x hx) k 0 cs (by rw [hl,h.2];congr 1;omega) (fun j _ hj=>by
     have:=hf j (by omega)
     rw [List.getElem?_eq_getElem (by omega)] at this
     exact ⟨_,this⟩)
    exact ⟨ys.flatten,⟨ys,rfl,g1,g2⟩,by simpa using g3,hl⟩
   ·cases h
end
def pN (P:Program) (t:TypeId) (rs:List RV):U:=match bX P t with
 | some true=>.agg (rs.map .rv)
 | _=>.rv (rs.headD .fC)
theorem Mi {P:Program} {H:Type} {enc:TypeId×Value→H} {w:World} {r:Reach} {b0 n:Nat} {t:TypeId} {v:Value} {d:DataW H} {ps:List MemPlace} (hf:kZ P n t=true) (hval:Value.okWide P w r b0 t v) (hd:DataW.Trod enc P w 0 (fun _=>true) true t v d ps) (C:Ctx) (aa:Nat→Option Nat) :
 ∃ rs,fo P n t rs∧∀ (ok:Nat→Prop) (aa:Nat→Option Nat) (hp:Hp),(∀ b,b<w.heap.size→ok b)→Rp w ok aa hp (pN P t rs) v:=by
 obtain ⟨fuel,hx⟩:=hd
 obtain ⟨rs,h1,h2,h3⟩:=typed (enc:=enc) (fun b=>b<w.heap.size) (fun b hb=>hb) n t hf fuel _ _ hx
 refine ⟨rs,h1,fun ok aa hp hok=>?_⟩
 have mL:fR w ok v.cells.toList rs:=⟨h2.1,fun j q hj=>⟨(h2.2 j q hj).1,(h2.2 j q hj).2.mono fun b hb _=>⟨hok b hb,rfl⟩⟩⟩
 unfold pN
 cases hu:P.underlying t with
 | none=>cases n <;> simp [kZ,hu] at hf
 | some kd=>
   have scalar:(bX P t=some false)→v.cells = #[v]→Rp w ok aa hp (.rv (rs.headD .fC)) v:=fun _ hc=>by
    have hl:=mL.1
    rw [hc] at hl mL
    obtain ⟨q,rfl⟩:=List.length_eq_one_iff.1 hl.symm
    exact .rv _ _ (mL.2 0 q rfl).2
   have Es:(∃ cs,v = .agg cs)→Rp w ok aa hp (.agg (rs.map .rv)) v:=fun ⟨cs,hv⟩=>by
    subst hv
    have hl:=mL.1
    have:Rp w ok aa hp (.agg (rs.map .rv)) (.agg cs.toList.toArray):=by
     refine .agg _ _ (by simpa [Value.cells] using hl) (fun j u hj=>?_) (fun j y hj=>?_)
     ·have hlt:=(List.getElem?_eq_some_iff.1 hj).1
      have hr:=List.getElem?_eq_getElem (l:=rs) (i:=j) (by simp [Value.cells] at hl;simp at hlt;omega)
      have:=mL.2 j _ hr
      have hu:(Value.cells (.agg cs)).toList.getD j undef=u:=by rw [List.getD_eq_getElem?_getD];show (cs.toList[j]?).getD undef=u;rw [hj];rfl
      rw [hu] at this
      exact this.2.sV this.1
     ·rw [List.getElem?_map] at hj
      cases hr:rs[j]? with
      | none=>simp [hr] at hj
      | some q=>simp [hr] at hj;subst hj;exact .rv _ _ (mL.2 j q hr).2
    simpa using this
   have HO:(∀ cs,v≠.agg cs)→v.cells = #[v]:=fun h=>by cases v <;> first | rfl | exact absurd rfl (h _)
   cases n with
   | zero=>cases hf
   | succ n=>
     unfold kZ at hf
     unfold Value.okWide at hval
     cases kd <;> simp only [hu] at hf hval <;> first
      | (cases hf;done)
      | (have ha:bX P t=some true:=by simp [bX,hu]
         simp only [ha]
         obtain ⟨cs,hv,_⟩:=hval
         exact Es ⟨cs,hv⟩)
      | (have ha:bX P t=some false:=by simp [bX,hu]
         simp only [ha]
         refine scalar ha (HO (fun cs hv=>?_))
         subst hv
         simp [Cell.okWide,hu,Cell.ok] at hval)
theorem Li {P:Program} {f:FuncId} {ss:List U} (h:aI P f ss [] [] (.rv (.bool true))) {w:World} {vs:List Value} (hl:vs.length=ss.length)
 (ha:∀ (j:Nat) (s:U),ss[j]?=some s→∀ (ok:Nat→Prop) (aa:Nat→Option Nat) (hp:Hp),(∀ b,b<w.heap.size→ok b)→Rp w ok aa hp s (vs.getD j undef)) :
 Calls P f vs.toArray w fun e w'=>e = .returned (.bool true)∧RowKit.Below w.heap.size w w':=by
 let C:Ctx:=⟨w,fun _=>True,fun _=>False,0,fun _=>none,fun _=>none⟩
 have R:bF C (fun _=>none) w (fun _=>none):=⟨fun id hb h=>(by cases h),fun i j b h=>(by simp at h),fun i b h=>(by simp at h),⟨rfl,rfl,rfl,Nat.le_refl _,fun b _ _=>rfl⟩,fun id hb hb0 h=>(by cases h)⟩
 refine (h.2 C (fun _=>none) w (fun _=>none) vs (fun q hq=>by simp at hq) (fun q hq=>by simp at hq) R hl (fun j s hj=>ha j s hj _ _ _ (fun b hb=>⟨.inl trivial,fun id hid=>by simp at hid⟩))).mono ?_
 rintro e w' ⟨v,au,rfl,S,hR⟩
 refine ⟨by rw [pF hR],S.mem.fr.os,S.mem.fr.tape,S.mem.fr.output,S.mem.fr.size,fun k hk=>S.mem.fr.block k hk (fun h=>h)⟩
end Go.aG

namespace Go.aG
open Go
def aH (xs:List (List RV)):List (List U):=xs.map (List.map U.rv)
section
variable {xs ys:List (List RV)}
theorem zi:xs.map (List.map U.rv)=aH xs:=rfl
theorem ay:(aH xs).length=xs.length:=by simp [aH]
theorem Nl {i:Nat}:((aH xs)[i]?).getD []=((xs[i]?).getD []).map U.rv:=by
 unfold aH
 rw [List.getElem?_map]
 cases xs[i]? <;> rfl
theorem Nn {n:Nat}:(aH xs).take n=aH (xs.take n):=by simp [aH]
theorem Dk:aH xs++aH ys=aH (xs++ys):=by simp [aH]
theorem map_inj {α β:Type} {f:α→β} (hf:∀ x y,f x=f y→x=y):∀ {a b:List α},a.map f=b.map f→a=b
 | [],[],_=>rfl
 | [],_::_,h=>by simp at h
 | _::_,[],h=>by simp at h
 | x::a,y::b,h=>by
   simp only [List.map_cons,List.cons.injEq] at h
   rw [hf x y h.1,map_inj hf h.2]
theorem ig:aH xs=aH ys↔xs=ys:=by
 constructor
 ·intro h
  exact map_inj (fun a b h=>map_inj (fun x y h=>by cases h;rfl) h) h
 ·rintro rfl;rfl
end
def wE (τ:Nat→Option Nat) (h:Hp) (xs ys:List (List U)):Prop:=xs.length=ys.length∧∀ (i:Nat) (x y:List U),xs[i]?=some x→ys[i]?=some y→oz τ h x y
theorem di {τ:Nat→Option Nat} {h:Hp} {xs ys:List (List RV)}:wE τ h (aH xs) (aH ys)↔xs=ys:=by
 constructor
 ·rintro ⟨hl,hr⟩
  refine List.ext_getElem? (fun i=>?_)
  rw [ay,ay] at hl
  by_cases hi:i<xs.length
  ·have h1:=List.getElem?_eq_getElem hi
   have h2:=List.getElem?_eq_getElem (l:=ys) (i:=i) (by omega)
   have:=hr i (xs[i].map U.rv) ((ys[i]'(by omega)).map U.rv) (by simp [aH,h1]) (by simp [aH,h2])
   rw [h1,h2]
   obtain ⟨k1,k2⟩:=this
   simp at k1
   congr 1
   refine List.ext_getElem? (fun j=>?_)
   by_cases hj:j<(xs[i]).length
   ·have g1:=List.getElem?_eq_getElem hj
    have g2:=List.getElem?_eq_getElem (l:=ys[i]'(by omega)) (i:=j) (by omega)
    have:=k2 j _ _ (by rw [List.getElem?_map,g1];rfl) (by rw [List.getElem?_map,g2];rfl)
    rw [g1,g2,aO.1 this]
   ·rw [List.getElem?_eq_none (by omega),List.getElem?_eq_none (by omega)]
  ·rw [List.getElem?_eq_none (by omega),List.getElem?_eq_none (by omega)]
 ·rintro rfl
  refine ⟨rfl,fun i x y hx hy=>?_⟩
  rw [hx] at hy;cases hy
  refine ⟨rfl,fun j a b ha hb=>?_⟩
  rw [ha] at hb;cases hb
  unfold aH at hx
  rw [List.getElem?_map] at hx
  cases hq:xs[i]? with
  | none=>simp [hq] at hx
  | some q=>
    simp [hq] at hx
    subst hx
    rw [List.getElem?_map] at ha
    cases hr:q[j]? with
    | none=>simp [hr] at ha
    | some r=>simp [hr] at ha;subst ha;exact aO.2 rfl
def cB (τ:Nat→Option Nat) (h:Hp):Option HB→Option HB→Prop
 | some (.var xs),some (.var ys)=>aN τ h xs ys
 | some (.row e v xs),some (.row e' v' ys)=>e=e'∧v=v'∧wE τ h xs ys
 | _,_=>False
theorem cB.get {τ:Nat→Option Nat} {h:Hp} {x y:Option HB} (hr:cB τ h x y):∃ a b,x=some a∧y=some b∧lV τ h a b:=by
 unfold cB at hr
 split at hr
 ·exact ⟨_,_,rfl,rfl,.var _ _ (qJ.1 hr)⟩
 ·obtain ⟨rfl,rfl,h1,h2⟩:=hr
  exact ⟨_,_,rfl,rfl,.row _ _ _ _ h1 h2⟩
 ·exact hr.elim
def cL:List (Nat×HB)→Nat→Option HB
 | [],_=>none
 | (i,hb)::r,id=>if id=i then some hb else cL r id
def cE:Option HB→List (Nat×HB)→Nat→Option HB
 | b,[],_=>b
 | b,(i,hb)::r,id=>cE (if id=i then some hb else b) r id
theorem Eb {id:Nat}:∀ {us:List (Nat×HB)} {hp:Hp},bf hp us id=cE (hp id) us id
 | [],hp=>rfl
 | (i,hb)::r,hp=>by
   rw [bf,Eb,cE]
   unfold up
   rfl
theorem AK {id:Nat} {hb:HB}:∀ {us:List (Nat×HB)} {a:Option HB},cE none us id=some hb→cE a us id=some hb
 | [],a,h=>by cases h
 | (i,hb0)::r,a,h=>by
   unfold cE at h ⊢
   by_cases hi:id=i
   ·rw [if_pos hi] at h ⊢;exact h
   ·rw [if_neg hi] at h ⊢;exact AK h
theorem Cs {id:Nat} {hb:HB}:∀ {pre:List (Nat×HB)},cL pre id=some hb→(id,hb)∈pre
 | [],h=>by cases h
 | (i,hb0)::r,h=>by
   unfold cL at h
   split at h
   ·rename_i hi;cases h;subst hi;simp
   ·exact List.mem_cons_of_mem _ (Cs h)
theorem FX {pre us:List (Nat×HB)} {id:Nat} {hb:HB} (h:cE (cL pre id) us id=some hb) (hp:Hp) (hpre:aS hp pre):bf hp us id=some hb:=by
 rw [Eb]
 cases hl:cL pre id with
 | none=>rw [hl] at h;exact AK h
 | some b=>
   rw [hl] at h
   rw [hpre (id,b) (Cs hl)];exact h
def cY (τ:Nat→Option Nat) (h:Hp) (pre us:List (Nat×HB)):Nat→List (Option Nat)→Prop
 | _,[]=>True
 | j,none::r=>cY τ h pre us (j+1) r
 | j,some id::r=>cB τ h (h j) (cE (cL pre id) us id)∧cY τ h pre us (j+1) r
theorem Ci {τ:Nat→Option Nat} {h:Hp} {pre us:List (Nat×HB)}:∀ {l:List (Option Nat)} {j:Nat},cY τ h pre us j l→∀ (i id:Nat),l[i]?=some (some id)→cB τ h (h (j+i)) (cE (cL pre id) us id)
 | [],j,_,i,id,hi=>by simp at hi
 | x::r,j,hk,i,id,hi=>by
   cases i with
   | zero=>
     simp at hi
     subst hi
     exact hk.1
   | succ i=>
     have hk':cY τ h pre us (j+1) r:=by cases x with | none=>exact hk | some q=>exact hk.2
     have:=Ci hk' i id (by simpa using hi)
     rwa [show j+1+i=j+(i+1) by omega] at this
def cP (pK:List (Option Nat)) (j:Nat):Option Nat:=(pK[j]?).getD none
def bG:List (Option Nat)→Prop
 | []=>True
 | none::r=>bG r
 | some x::r=>some x∉r∧bG r
theorem vE:∀ {l:List (Option Nat)},bG l→∀ (i j id:Nat),l[i]?=some (some id)→l[j]?=some (some id)→i=j
 | [],_,i,j,id,h,_=>by simp at h
 | x::r,hn,i,j,id,h1,h2=>by
   have hn':bG r:=by cases x with | none=>exact hn | some q=>exact hn.2
   cases i with
   | zero=>
     simp at h1
     subst h1
     cases j with
     | zero=>rfl
     | succ j=>exact absurd (List.mem_of_getElem? (by simpa using h2)) hn.1
   | succ i=>
     cases j with
     | zero=>
       simp at h2
       subst h2
       exact absurd (List.mem_of_getElem? (by simpa using h1)) hn.1
     | succ j=>rw [vE hn' i j id (by simpa using h1) (by simpa using h2)]
def newL (pre us:List (Nat×HB)):List (Option Nat)→Prop
 | []=>True
 | none::r=>newL pre us r
 | some id::r=>id∈us.map (·.1)∧id∉pre.map (·.1)∧newL pre us r
theorem CD {pre us:List (Nat×HB)}:∀ {l:List (Option Nat)},newL pre us l→∀ (i id:Nat),l[i]?=some (some id)→id∈us.map (·.1)∧id∉pre.map (·.1)
 | [],_,i,id,h=>by simp at h
 | x::r,hn,i,id,h=>by
   have hn':newL pre us r:=by cases x with | none=>exact hn | some q=>exact hn.2.2
   cases i with
   | zero=>simp at h;subst h;exact ⟨hn.1,hn.2.1⟩
   | succ i=>exact CD hn' i id (by simpa using h)
def dn (pK:List (Option Nat)):List (Nat×HB)→Prop
 | []=>True
 | (i,_)::r=>some i∈pK∧dn pK r
theorem zK {pK:List (Option Nat)}:∀ {us:List (Nat×HB)},dn pK us→∀ q∈us,some q.1∈pK
 | [],_,q,h=>by simp at h
 | (i,hb)::r,hu,q,h=>by
   rcases List.mem_cons.1 h with rfl | h
   ·exact hu.1
   ·exact zK hu.2 q h
def dh (σ:List Nat) (pre us:List (Nat×HB)) (rs:List RR) (sv:U) (env:List (Nat×U)) (h:List (Option HB)) (eX:List (Option Nat)):Prop:=
 bG (σ.map some++eX)∧newL pre us eX∧dn (σ.map some++eX) us∧cY (cP (σ.map some++eX)) (ag h) pre us 0 (σ.map some++eX)∧bq (cP (σ.map some++eX)) (ag h) sv (bk (lk env) (ag h) rs)
theorem AL {σ:List Nat} {pre us:List (Nat×HB)} {rs:List RR} {sv:U} {env:List (Nat×U)} {h:List (Option HB)} {eX:List (Option Nat)} (hr:dh σ pre us rs sv env h eX):Fin σ pre us rs sv env h (cP (σ.map some++eX)):=by
 obtain ⟨h1,h2,h3,h4,h5⟩:=hr
 have vh:∀ j id,cP (σ.map some++eX) j=some id→(σ.map some++eX)[j]?=some (some id):=fun j id hj=>by
  unfold cP at hj
  cases hq:(σ.map some++eX)[j]? with
  | none=>rw [hq] at hj;cases hj
  | some x=>rw [hq] at hj;simp at hj;rw [hj]
 refine ⟨fun i j id hi hj=>vE h1 i j id (vh i id hi) (vh j id hj),fun j id hj=>?_,fun j id hj hl=>?_,fun j id hj=>?_,fun q hq=>?_,?_⟩
 ·unfold cP
  rw [List.getElem?_append_left (by have:=(List.getElem?_eq_some_iff.1 hj).1;simpa using this),List.getElem?_map,hj];rfl
 ·have:=vh j id hj
  rw [List.getElem?_append_right (by simpa using hl)] at this
  obtain ⟨g1,g2⟩:=CD h2 _ id this
  exact ⟨g1,fun q hq he=>g2 (List.mem_map.2 ⟨q,hq,he⟩)⟩
 ·have:=Ci h4 j id (vh j id hj)
  rw [Nat.zero_add] at this
  obtain ⟨a,b,g1,g2,g3⟩:=this.get
  exact ⟨a,b,g1,g3,fun hp hpre=>FX g2 hp hpre⟩
 ·obtain ⟨j,hj,he⟩:=List.mem_iff_getElem.1 (zK h3 q hq)
  refine ⟨j,?_⟩
  unfold cP
  rw [List.getElem?_eq_getElem hj,he];rfl
 ·unfold bq at h5
  split at h5
  ·rename_i p xs hres;exact ⟨p,xs,hres,h5.1,h5.2⟩
  ·exact h5.elim
def aP (σ:Nat→Option Nat):List U→List U→Prop
 | [],[]=>True
 | x::xs,y::ys=>Bk σ x y∧aP σ xs ys
 | _,_=>False
theorem fG {σ:Nat→Option Nat}:∀ {xs ys:List U},aP σ xs ys↔ov σ xs ys
 | [],[]=>⟨fun _=>⟨rfl,fun i x y hx=>by simp at hx⟩,fun _=>trivial⟩
 | [],_::_=>⟨fun h=>h.elim,fun h=>by simp [ov] at h⟩
 | _::_,[]=>⟨fun h=>h.elim,fun h=>by simp [ov] at h⟩
 | x::xs,y::ys=>by
   unfold aP
   rw [fG (xs:=xs) (ys:=ys)]
   constructor
   ·rintro ⟨h1,h2,h3⟩
    refine ⟨by simp [h2],fun i a b ha hb=>?_⟩
    cases i with
    | zero=>simp at ha hb;subst ha;subst hb;exact h1
    | succ i=>exact h3 i a b (by simpa using ha) (by simpa using hb)
   ·rintro ⟨h2,h3⟩
    exact ⟨h3 0 x y rfl rfl,by simpa using h2,fun i a b ha hb=>h3 (i+1) a b (by simpa using ha) (by simpa using hb)⟩
section
variable {σ:Nat→Option Nat}
theorem aZ {r r':RV}:Bk σ (.rv r) (.rv r')↔r=r':=⟨fun hr=>by cases hr;rfl,fun e=>by subst e;exact .rv _⟩
theorem kU {x:U}:Bk σ .dead x↔True:=⟨fun _=>trivial,fun _=>.dead _⟩
theorem fH {i j o o':Nat}:Bk σ (.ptr i o) (.ptr j o')↔σ i=some j∧o=o':=⟨fun hr=>by cases hr with | ptr _ _ _ hj=>exact ⟨hj,rfl⟩,fun ⟨e,e'⟩=>by subst e';exact .ptr _ _ _ e⟩
theorem fA {i j v v' l l':Nat}:Bk σ (.row i v l) (.row j v' l')↔σ i=some j∧v=v'∧l=l':=⟨fun hr=>by cases hr with | row _ _ _ _ hj=>exact ⟨hj,rfl,rfl⟩,fun ⟨e,e',e2⟩=>by subst e';subst e2;exact .row _ _ _ _ e⟩
theorem bg {xs ys:List U}:Bk σ (.agg xs) (.agg ys)↔aP σ xs ys:=by rw [fG];exact ⟨fun hr=>by cases hr with | agg _ _ hl hf=>exact ⟨hl,hf⟩,fun ⟨e,e'⟩=>.agg _ _ e e'⟩
theorem kW {xs ys:List U}:Bk σ (.aM xs) (.aM ys)↔aP σ xs ys:=by rw [fG];exact ⟨fun hr=>by cases hr with | aM _ _ hl hf=>exact ⟨hl,hf⟩,fun ⟨e,e'⟩=>.aM _ _ e e'⟩
theorem bn {f f':FuncId} {xs ys:List U}:Bk σ (.fn f xs) (.fn f' ys)↔f=f'∧aP σ xs ys:=by rw [fG];exact ⟨fun hr=>by cases hr with | fn _ _ _ hl hf=>exact ⟨rfl,hl,hf⟩,fun ⟨e,e',e2⟩=>by subst e;exact .fn _ _ _ e' e2⟩
theorem zV {f f':FuncId} {xs ys:List U}:Bk σ (.bT f xs) (.bT f' ys)↔f=f'∧aP σ xs ys:=by rw [fG];exact ⟨fun hr=>by cases hr with | bT _ _ _ hl hf=>exact ⟨rfl,hl,hf⟩,fun ⟨e,e',e2⟩=>by subst e;exact .bT _ _ _ e' e2⟩
theorem kV {t t':TypeId} {x y:U}:Bk σ (.bt t x) (.bt t' y)↔t=t'∧Bk σ x y:=⟨fun hr=>by cases hr with | bt _ _ _ hf=>exact ⟨rfl,hf⟩,fun ⟨e,e'⟩=>by subst e;exact .bt _ _ _ e'⟩
theorem bu {rs:List RV}:aP σ (rs.map .rv) (rs.map .rv)↔True:=⟨fun _=>trivial,fun _=>fG.2 ⟨rfl,fun i x y hx hy=>by
 rw [hx] at hy;cases hy
 rw [List.getElem?_map] at hx
 cases hr:rs[i]? with
 | none=>simp [hr] at hx
 | some r=>simp [hr] at hx;subst hx;exact .rv r⟩⟩
end
theorem cG {τ:Nat→Option Nat} {h:Hp} {rs qs:List RV}:aN τ h (rs.map .rv) (qs.map .rv)↔rs=qs:=by
 induction rs generalizing qs with
 | nil=>cases qs <;> simp [aN]
 | cons r rs ih=>cases qs with
   | nil=>simp [aN]
   | cons q qs=>simp [aN,aO,ih]
def cU (σ:Nat→Option Nat):List HB→List HB→Prop
 | [],[]=>True
 | .var xs::r,.var ys::q=>aP σ xs ys∧cU σ r q
 | .row e v xs::r,.row e' v' ys::q=>e=e'∧v=v'∧(xs=ys∧∃ zs,xs=aH zs)∧cU σ r q
 | _,_=>False
theorem cU.get {σ:Nat→Option Nat}:∀ {a b:List HB},cU σ a b→a.length=b.length∧∀ (j:Nat) (x y:HB),a[j]?=some x→b[j]?=some y→gC σ x y
 | [],[],_=>⟨rfl,fun j x y hx=>by simp at hx⟩
 | .var xs::r,.var ys::q,h=>by
   obtain ⟨g1,g2⟩:=cU.get h.2
   refine ⟨by simp [g1],fun j x y hx hy=>?_⟩
   cases j with
   | zero=>simp at hx hy;subst hx;subst hy;exact .var _ _ (fG.1 h.1)
   | succ j=>exact g2 j x y (by simpa using hx) (by simpa using hy)
 | .row e v xs::r,.row e' v' ys::q,h=>by
   obtain ⟨rfl,rfl,⟨rfl,zs,rfl⟩,h4⟩:=h
   obtain ⟨g1,g2⟩:=cU.get h4
   refine ⟨by simp [g1],fun j x y hx hy=>?_⟩
   cases j with
   | zero=>
     simp at hx hy;subst hx;subst hy
     refine .row _ _ _ _ rfl (fun i x y hx hy=>?_)
     rw [hx] at hy;cases hy
     unfold aH at hx
     rw [List.getElem?_map] at hx
     cases hq:zs[i]? with
     | none=>simp [hq] at hx
     | some z=>simp [hq] at hx;subst hx;exact fG.1 (bu.2 trivial)
   | succ j=>exact g2 j x y (by simpa using hx) (by simpa using hy)
 | [],_::_,h=>h.elim
 | .var _::_,[],h=>h.elim
 | .row .. :: _,[],h=>h.elim
 | .var _::_,.row .. :: _,h=>h.elim
 | .row .. :: _,.var _::_,h=>h.elim
theorem gR {P:Program} {f:FuncId} {N:Nat} {ac:AC} {rs:List RR} (H:aV P f N ac rs) (σ:List Nat) (fW fX:List HB) (dV args:List U) (us:List (Nat×HB)) (sv:U) (hN:args.length≤N) (hA:aP (fun j=>σ[j]?) dV args) (hl:fW.length=σ.length) (vg:bG (σ.map some)) (hB:cU (fun j=>σ[j]?) fW fX)
 (hrun:∀ K:Ex→St→Prop,(∀ env h env' h' eX,cA σ.length ⟨env,h⟩ ⟨env',h'⟩→dh σ (σ.zip fX) us rs sv env' h' eX→K .normal ⟨env,h⟩∧K .ret ⟨env,h⟩)→G P σ.length [.c ac] K (hU 0 dV) (fW.map some)):aI P f args (σ.zip fX) us sv:=by
 obtain ⟨g1,g2⟩:=hB.get
 refine tX H σ (fW.map some) dV hN (fG.1 hA) (by simpa using hl) (fun i j id h1 h2=>vE vg i j id (by simp [h1]) (by simp [h2])) (fun j id hj=>?_) (fun K hK=>hrun K (fun env h env' h' eX hE hr=>hK env h env' h' _ hE (AL hr)))
 have hlt:=(List.getElem?_eq_some_iff.1 hj).1
 have h1:=List.getElem?_eq_getElem (l:=fW) (i:=j) (by omega)
 have h2:=List.getElem?_eq_getElem (l:=fX) (i:=j) (by omega)
 refine ⟨_,_,by rw [List.getElem?_map,h1];rfl,?_,g2 j _ _ h1 h2⟩
 have hz:(σ.zip fX)[j]?=some (id,fX[j]'(by omega)):=by
  rw [List.getElem?_zip_eq_some];exact ⟨hj,h2⟩
 exact List.mem_of_getElem? hz
theorem dH {x:Option HB} {r:List (Option HB)}:ag (x::r) 0=x:=rfl
theorem dG {x:Option HB} {r:List (Option HB)} {n:Nat}:ag (x::r) (n+1)=ag r n:=rfl
theorem He {P:Program} {n0:Nat} {k:List It} {K:Ex→St→Prop} {env:List (Nat×U)} {h:List (Option HB)} {id:Nat} {a:List Nat} {b:List TE} {c:List aR}:GX P n0 id (.d a b c::k) K env h=GX P n0 id k K env h:=rfl
theorem OF {α:Type} {o:Nat} {x l:List α}:splice l o x=l.take o++x++l.drop (o+x.length):=rfl
def pL (τ:Nat→Option Nat) (h:Hp):List U→List RV→Prop
 | [],[]=>True
 | x::xs,r::rs=>Fz τ h x r∧pL τ h xs rs
 | _,_=>False
theorem pL.get {τ:Nat→Option Nat} {h:Hp}:∀ {xs:List U} {rs:List RV},pL τ h xs rs→xs.length=rs.length∧∀ (j:Nat) (x:U) (r:RV),xs[j]?=some x→rs[j]?=some r→Fz τ h x r
 | [],[],_=>⟨rfl,fun j x r hx=>by simp at hx⟩
 | x::xs,r::rs,hf=>by
   obtain ⟨g1,g2⟩:=pL.get hf.2
   refine ⟨by simp [g1],fun j y q hy hq=>?_⟩
   cases j with
   | zero=>simp at hy hq;subst hy;subst hq;exact hf.1
   | succ j=>exact g2 j y q (by simpa using hy) (by simpa using hq)
 | [],_::_,h=>h.elim
 | _::_,[],h=>h.elim
theorem mK {τ:Nat→Option Nat} {h:Hp} {j e af len:Nat} {xs:List (List RV)} (hj:h j=some (.row e af (aH xs))) (fJ:τ j=none) (hl:len≤xs.length) (h1:∀ x∈xs,∀ r∈x,r.one=true):Fz τ h (.row j af len) (.sl e (xs.take len)):=by
 have at_:∀ (i:Nat) (x:List U) (r:List RV),(aH xs)[i]?=some x→(xs.take len)[i]?=some r→x=r.map .rv∧r∈xs:=fun i x r hx hr=>by
  have h1:=List.mem_of_mem_take (List.mem_of_getElem? hr)
  have hlt:=(List.getElem?_eq_some_iff.1 hr).1
  rw [List.getElem?_take,if_pos (by simp at hlt;omega)] at hr
  unfold aH at hx
  rw [List.getElem?_map,hr] at hx
  simp at hx
  exact ⟨hx.symm,h1⟩
 refine .row j e af len (aH xs) (xs.take len) fJ hj (by simp;omega) (by rw [ay];exact hl) (fun i x r hx hr=>?_) (fun i r k q hr hq=>?_) (fun i x r k y q hx hr hy hq=>?_)
 ·rw [(at_ i x r hx hr).1];simp
 ·exact h1 r (List.mem_of_mem_take (List.mem_of_getElem? hr)) q (List.mem_of_getElem? hq)
 ·rw [(at_ i x r hx hr).1,List.getElem?_map,hq] at hy
  simp at hy
  subst hy
  exact .rv q
theorem tW {P:Program} {f:FuncId} {rs:List RV} {args:List U} {pre us:List (Nat×HB)} {sv:U} (H:aI P f (rs.map .rv) [] us sv)
 (hz:∀ hp,aS hp pre→pL (fun _=>none) hp args rs) (hl:args.length=rs.length) (hfl:dm sv) (eG:∀ q∈us,lT q.2∧∀ p∈pre,p.1≠q.1):aI P f args pre us sv:=
 Fb H hl (fun hp hpre j y r hy hr=>(hz hp hpre).get.2 j y r hy hr) hfl eG
theorem bF.AW {C:Ctx} {hp:Hp} {w:World} {aa:Nat→Option Nat} (R:bF C hp w aa) {i0 m o:Nat} {cs:List U} (e:Nat) (hi:hp i0=some (.var cs)) (ho:cs[o]?=some (.rv .bO)) (hm:hp m=none) (hm0:C.h0 m=none) :
 ∃ au,Step C hp (up (up hp m (some (.row e 0 []))) i0 (some (.var (cs.set o (.row m 0 0))))) w w aa au:=by
 have S:=R.ghost m e 0 (.inl ⟨hm,hm0⟩)
 have hne:i0≠m:=fun h=>by subst h;rw [hm] at hi;cases hi
 have hi':(up hp m (some (.row e 0 []))) i0=some (.var cs):=by rw [cv _ _ hne];exact hi
 rcases S.mem.heap i0 _ hi' with ⟨_,e',af,hc⟩ | ⟨b,cur,t,h1,h2,h3⟩
 ·cases hc
 ·have S2:=S.mem.replace i0 (.var (cs.set o (.row m 0 0))) b cur t rfl rfl rfl (Nat.le_refl _) h2 (fun k _ _=>rfl) (.inl ⟨by rw [hi'];rfl,h1⟩) (fun hb hq=>by rw [hi'] at hq;cases hq;exact h1.symm) (fun hq=>by rw [hi'] at hq;cases hq) ⟨by rw [List.length_set];exact h3.1,fun j y hy=>by
   rw [List.getElem?_set] at hy
   split at hy
   ·rename_i hj
    subst hj
    split at hy
    ·cases hy
     obtain ⟨v,v1,v2,v3⟩:=h3.2 _ _ ho
     refine ⟨v,v1,v2,?_⟩
     cases v3 with
     | rv _ _ hr=>
       cases hr
       exact .row _ _ _ _ rfl (by rw [bJ];rfl) (fun e cr xs hx=>by rw [bJ] at hx;cases hx;exact Nat.le_refl _) (fun e xs hx=>.inl ⟨bJ _ _ _,rfl,rfl⟩)
    ·cases hy
   ·exact h3.2 j y hy⟩
  exact ⟨_,S.trans S2 (Nat.le_refl _)⟩
theorem Fc {P:Program} {f:FuncId} {args:List U} {pre us:List (Nat×HB)} {sv:U} {i0 m e o:Nat} {cs:List U} (ho:cs[o]?=some (.rv .bO)) (hm:∀ q∈pre,q.1≠m∧q.1≠i0) (hne:m≠i0) (h1:i0∈us.map (·.1)) (h2:m∈us.map (·.1))
 (H:aI P f args ((i0,.var (cs.set o (.row m 0 0)))::(m,.row e 0 [])::pre) us sv):aI P f args ((i0,.var cs)::pre) us sv:=by
 refine ⟨H.1,fun C hp w aa vs hpre hnew R hvl hvs=>?_⟩
 have hi:hp i0=some (.var cs):=hpre (i0,.var cs) (by simp)
 obtain ⟨hmn,hm0⟩:hp m=none∧C.h0 m=none:=by
  obtain ⟨q,hq,rfl⟩:=List.mem_map.1 h2
  rcases hnew q hq with ⟨hb,hmem⟩ | h
  ·rcases List.mem_cons.1 hmem with he | hmem
   ·cases he;exact absurd rfl hne
   ·exact absurd rfl (hm _ hmem).1
  ·exact h
 obtain ⟨vR,S⟩:=R.AW e hi ho hmn hm0
 have hE:∀ id,id≠m→id≠i0→(up (up hp m (some (.row e 0 []))) i0 (some (.var (cs.set o (.row m 0 0))))) id=hp id:=fun id a b=>by rw [cv _ _ b,cv _ _ a]
 have IM:bf (up (up hp m (some (.row e 0 []))) i0 (some (.var (cs.set o (.row m 0 0))))) us=bf hp us:=by
  funext id
  by_cases hid:id∈us.map (·.1)
  ·exact tj hid
  ·rw [wq hid,wq hid,hE id (fun h=>hid (h▸h2)) (fun h=>hid (h▸h1))]
 refine (H.2 C _ w vR vs (fun q hq=>?_) (fun q hq=>?_) S.mem hvl (fun j s hj=>(hvs j s hj).mono S.er)).mono ?_
 ·rcases List.mem_cons.1 hq with rfl | hq
  ·exact bJ _ _ _
  ·rcases List.mem_cons.1 hq with rfl | hq
   ·show (up (up hp m _) i0 _) m=_
    rw [cv _ _ hne,bJ]
   ·rw [hE _ (hm q hq).1 (hm q hq).2];exact hpre q (by simp [hq])
 ·rcases hnew q hq with ⟨hb,hmem⟩ | ⟨a,b⟩
  ·rcases List.mem_cons.1 hmem with he | hmem
   ·exact .inl ⟨_,by rw [(Prod.mk.inj he).1];exact .head _⟩
   ·exact .inl ⟨hb,by simp [hmem]⟩
  ·by_cases BF:q.1=m
   ·exact .inl ⟨.row e 0 [],by rw [BF];simp⟩
   ·refine .inr ⟨?_,b⟩
    rw [hE _ BF (fun h=>by rw [h,hi] at a;cases a)];exact a
 ·rintro e' w' ⟨v,au,rfl,S2,hR⟩
  rw [IM] at S2 hR
  exact ⟨v,au,rfl,S.trans S2 (Nat.le_refl _),hR⟩
theorem EV:(true != true)=false:=rfl
theorem EU:(true != false)=true:=rfl
theorem ET:(false != true)=true:=rfl
theorem ES:(false != false)=false:=rfl
end Go.aG

namespace Go.aG
open Go
def cI (k j:Nat):Option Nat:=if j<k then some j else none
def mT (τ:Nat→Option Nat) (h:Hp):Nat→List (Option HB)→Prop
 | _,[]=>True
 | _,none::_=>False
 | j,some hb::r=>cB τ h (h j) (some hb)∧mT τ h (j+1) r
theorem Cg {τ:Nat→Option Nat} {h:Hp}:∀ {l:List (Option HB)} {j:Nat},mT τ h j l→∀ i,i<l.length→∃ hb hb',l[i]?=some (some hb')∧h (j+i)=some hb∧lV τ h hb hb'
 | [],j,_,i,hi=>by simp at hi
 | none::_,j,hk,i,hi=>hk.elim
 | some x::r,j,hk,i,hi=>by
   cases i with
   | zero=>
     obtain ⟨a,b,g1,g2,g3⟩:=hk.1.get
     cases g2
     exact ⟨a,x,rfl,g1,g3⟩
   | succ i=>
     obtain ⟨a,b,g1,g2,g3⟩:=Cg hk.2 i (by simpa using hi)
     exact ⟨a,b,by simpa using g1,by rwa [show j+(i+1)=j+1+i by omega],g3⟩
theorem pZ {n0:Nat} {env env':List (Nat×U)} {h:List (Option HB)} (h':List (Option HB)) (hn:n0≤h'.length) (hk:mT (cI h'.length) (ag h) 0 h')
 (he:∀ p∈env',Rn (cI h'.length) (ag h) (lk env p.1) p.2):cA n0 ⟨env,h⟩ ⟨env',h'⟩:=by
 refine xg (cI h'.length) hn (fun j i hj=>?_) (fun j hj=>?_) (fun j=>?_) (sL (fun x=>.dead x) he)
 ·unfold cI at hj;split at hj <;> cases hj;rfl
 ·unfold cI at hj;split at hj
  ·cases hj
  ·omega
 ·by_cases hj:j<h'.length
  ·obtain ⟨hb,hb',g1,g2,g3⟩:=Cg hk j hj
   rw [Nat.zero_add] at g2
   exact .inl ⟨hb,hb',by simp [cI,hj],g2,mb.2 g1,g3⟩
  ·refine .inr ⟨?_,.inl (by simp [cI,hj])⟩
   unfold ag
   rw [List.getElem?_eq_none (by omega)]
theorem CY {τ:Nat→Option Nat} {h:Hp} {j e af len:Nat} {xs:List (List RV)} (hj:h j=some (.row e af (aH xs))) (fJ:τ j=none) (hl:len=xs.length) (h1:∀ x∈xs,∀ r∈x,r.one=true):Rn τ h (.row j af len) (.rv (.sl e xs)):=by
 have:=mK (τ:=τ) hj fJ (len:=len) (by omega) h1
 rw [hl,List.take_length] at this
 rw [hl];exact .fz _ _ this
theorem RO.Nq {w:World} {ok:Nat→Prop} {e:Nat} {v:Value} (h:RO w ok (.sl e []) v):RO w ok .bO v∨RO w ok .gj v:=by
 cases h with
 | sl _ _ a cap c h0 hc hm he hr h1 hy=>
   cases a with
   | none=>have:=(h0 rfl).2;subst this;exact .inl .bO
   | some a=>exact .inr (.gj a cap hm)
theorem Aa {P:Program} {f:FuncId} {e:Nat} {fy bs:List U} {pre us:List (Nat×HB)} {sv:U} (h1:aI P f (fy ++ .rv .bO::bs) pre us sv) (h2:aI P f (fy ++ .rv .gj::bs) pre us sv):aI P f (fy ++ .rv (.sl e [])::bs) pre us sv:=by
 refine ⟨h1.1,fun C hp w aa vs hpre hnew R hvl hvs=>?_⟩
 have hj:=hvs fy.length (.rv (.sl e [])) (by simp)
 have key:∀ r:RV,RO w (an C aa hp) r (vs.getD fy.length undef)→∀ (j:Nat) (s:U),(fy ++ .rv r::bs)[j]?=some s→Rp w (an C aa hp) aa hp s (vs.getD j undef):=fun r hr j s hs=>by
  by_cases he:j=fy.length
  ·subst he
   simp at hs
   subst hs
   exact .rv _ _ hr
  ·refine hvs j s ?_
   by_cases hlt:j<fy.length
   ·rw [List.getElem?_append_left hlt] at hs ⊢;exact hs
   ·rw [List.getElem?_append_right (by omega)] at hs ⊢
    obtain ⟨k,hk⟩:∃ k,j - fy.length=k+1:=⟨j - fy.length - 1,by omega⟩
    rw [hk,List.getElem?_cons_succ] at hs ⊢
    exact hs
 cases hj with
 | rv _ _ hr=>
   rcases RO.Nq hr with hr | hr
   ·exact h1.2 C hp w aa vs hpre hnew R (by simpa using hvl) (key _ hr)
   ·exact h2.2 C hp w aa vs hpre hnew R (by simpa using hvl) (key _ hr)
end Go.aG

namespace Go.aG
open Go
section
variable {P:Program} {n0:Nat} {k:List It} {K:Ex→St→Prop} {env:List (Nat×U)} {h:List (Option HB)}
theorem Fi {a b:AC}:uk P n0 a b k K env h (.rv (.bool true))=G P n0 (.c a::k) K env h:=rfl
theorem Fh {a b:AC}:uk P n0 a b k K env h (.rv (.bool false))=G P n0 (.c b::k) K env h:=rfl
theorem ak {a b:AC} {t:Bool} (h1:t=true→G P n0 (.c a::k) K env h) (h2:t=false→G P n0 (.c b::k) K env h):uk P n0 a b k K env h (.rv (.bool t)):=by
 cases t
 ·exact h2 rfl
 ·exact h1 rfl
section
variable {ao:AO} {xs:List XO} {dst:Option Nat} {r:List aR} {aL:List Nat} {acc:List TE} {bQ:List Nat}
theorem GO:oM P n0 true ao xs dst r k K env h (.rv (.bool true))=pg P n0 ao (xs.map (dM (lk env))) dst r k K env h:=rfl
theorem GN:oM P n0 true ao xs dst r k K env h (.rv (.bool false))=G P n0 (.o r::k) K (cu dst (.aM []) env) h:=rfl
theorem GM:oM P n0 false ao xs dst r k K env h (.rv (.bool true))=G P n0 (.o r::k) K (cu dst (.aM []) env) h:=rfl
theorem GL:oM P n0 false ao xs dst r k K env h (.rv (.bool false))=pg P n0 ao (xs.map (dM (lk env))) dst r k K env h:=rfl
theorem GP {b:Bool}:oM P n0 b ao xs dst r k K env h (.aM [])=G P n0 (.o r::k) K (cu dst (.aM []) env) h:=rfl
theorem GV {b:Bool}:oN P n0 aL acc bQ b ao xs dst r k K env h (.aM [])=G P n0 (.d aL (acc++[⟨bQ,dst,[],[]⟩]) r::k) K (cu dst (.aM []) env) h:=rfl
theorem aC {b t:Bool} (h1:t=b→pg P n0 ao (xs.map (dM (lk env))) dst r k K env h) (h2:t = !b→G P n0 (.o r::k) K (cu dst (.aM []) env) h):oM P n0 b ao xs dst r k K env h (.rv (.bool t)):=by
 cases t <;> cases b <;> first | exact h1 rfl | exact h2 rfl
theorem GU:oN P n0 aL acc bQ true ao xs dst r k K env h (.rv (.bool true))=pq P n0 aL acc bQ ao (xs.map (dM (lk env))) dst r k K env h:=rfl
theorem GS:oN P n0 aL acc bQ true ao xs dst r k K env h (.rv (.bool false))=G P n0 (.d aL (acc++[⟨bQ,dst,[],[]⟩]) r::k) K (cu dst (.aM []) env) h:=rfl
theorem GR:oN P n0 aL acc bQ false ao xs dst r k K env h (.rv (.bool true))=G P n0 (.d aL (acc++[⟨bQ,dst,[],[]⟩]) r::k) K (cu dst (.aM []) env) h:=rfl
theorem GQ:oN P n0 aL acc bQ false ao xs dst r k K env h (.rv (.bool false))=pq P n0 aL acc bQ ao (xs.map (dM (lk env))) dst r k K env h:=rfl
theorem aD {b t:Bool} (h1:t=b→pq P n0 aL acc bQ ao (xs.map (dM (lk env))) dst r k K env h) (h2:t = !b→G P n0 (.d aL (acc++[⟨bQ,dst,[],[]⟩]) r::k) K (cu dst (.aM []) env) h):oN P n0 aL acc bQ b ao xs dst r k K env h (.rv (.bool t)):=by
 cases t <;> cases b <;> first | exact h1 rfl | exact h2 rfl
end
end
theorem ME {x y:U}:sX [.rv (.bool true),x,y]=some (True,x,none,[]):=rfl
theorem MD {x y:U}:sX [.rv (.bool false),x,y]=some (True,y,none,[]):=rfl
theorem cz {x y:Int}:(x == y)=decide (x=y):=rfl
theorem tV {P:Program} {f:FuncId} {N:Nat} {ac:AC} {rs:List RR} (H:aV P f N ac rs) (σ:List Nat) (fW fX:List HB) (dV args:List U) (us:List (Nat×HB)) (sv:U) (hN:args.length≤N) (hA:aP (fun j=>σ[j]?) dV args) (hl:fW.length=σ.length) (vg:bG (σ.map some)) (g1:fW.length=fX.length)
 (g2:∀ (j:Nat) (x y:HB),fW[j]?=some x→fX[j]?=some y→gC (fun j=>σ[j]?) x y)
 (hrun:∀ K:Ex→St→Prop,(∀ env h env' h' eX,cA σ.length ⟨env,h⟩ ⟨env',h'⟩→dh σ (σ.zip fX) us rs sv env' h' eX→K .normal ⟨env,h⟩∧K .ret ⟨env,h⟩)→G P σ.length [.c ac] K (hU 0 dV) (fW.map some)):aI P f args (σ.zip fX) us sv:=by
 refine tX H σ (fW.map some) dV hN (fG.1 hA) (by simpa using hl) (fun i j id h1 h2=>vE vg i j id (by simp [h1]) (by simp [h2])) (fun j id hj=>?_) (fun K hK=>hrun K (fun env h env' h' eX hE hr=>hK env h env' h' _ hE (AL hr)))
 have hlt:=(List.getElem?_eq_some_iff.1 hj).1
 have h1:=List.getElem?_eq_getElem (l:=fW) (i:=j) (by omega)
 have h2:=List.getElem?_eq_getElem (l:=fX) (i:=j) (by omega)
 refine ⟨_,_,by rw [List.getElem?_map,h1];rfl,?_,g2 j _ _ h1 h2⟩
 have hz:(σ.zip fX)[j]?=some (id,fX[j]'(by omega)):=by
  rw [List.getElem?_zip_eq_some];exact ⟨hj,h2⟩
 exact List.mem_of_getElem? hz
theorem Fg {P:Program} {f:FuncId} {args:List U} {pre pre' us:List (Nat×HB)} {sv:U} (h:aI P f args pre us sv) (hp:∀ q,q∈pre↔q∈pre'):aI P f args pre' us sv:=
 ⟨h.1,fun C fh w aa vs a b c d e=>h.2 C fh w aa vs (fun q hq=>a q ((hp q).1 hq)) (fun q hq=>(b q hq).imp (fun ⟨hb,hm⟩=>⟨hb,(hp _).2 hm⟩) id) c d e⟩
def cN (i:Nat) (os:List Nat):List (List U):=os.map fun o=>[.ptr i o]
theorem CU {i:Nat} {os:List Nat}:(cN i os).length=os.length:=by simp [cN]
theorem vS {τ:Nat→Option Nat} {h:Hp} {i j:Nat} {os:List Nat} (fJ:τ i=some j):wE τ h (cN i os) (cN j os):=by
 refine ⟨by simp [cN],fun k x y hx hy=>?_⟩
 unfold cN at hx hy
 rw [List.getElem?_map] at hx hy
 cases hk:os[k]? with
 | none=>simp [hk] at hx
 | some o=>
   simp [hk] at hx hy
   subst hx;subst hy
   exact qJ.1 ⟨.ptr _ _ _ fJ,trivial⟩
theorem EP {σ:Nat→Option Nat} {i j e v:Nat} {os:List Nat} (lA:σ i=some j):gC σ (.row e v (cN i os)) (.row e v (cN j os)):=by
 refine .row _ _ _ _ (by simp [cN]) (fun k x y hx hy=>?_)
 unfold cN at hx hy
 rw [List.getElem?_map] at hx hy
 cases hk:os[k]? with
 | none=>simp [hk] at hx
 | some o=>
   simp [hk] at hx hy
   subst hx;subst hy
   exact fG.1 ⟨.ptr _ _ _ lA,trivial⟩
theorem zX {σ:Nat→Option Nat} {rs:List RV}:gC σ (.var (rs.map .rv)) (.var (rs.map .rv)):=.var _ _ (fG.1 (bu.2 trivial))
theorem wJ {σ:Nat→Option Nat} {xs ys:List U} (h:aP σ xs ys):gC σ (.var xs) (.var ys):=.var _ _ (fG.1 h)
theorem zW {σ:Nat→Option Nat} {e v:Nat} {xs:List (List RV)}:gC σ (.row e v (aH xs)) (.row e v (aH xs)):=by
 refine .row _ _ _ _ rfl (fun i x y hx hy=>?_)
 rw [hx] at hy;cases hy
 unfold aH at hx
 rw [List.getElem?_map] at hx
 cases hq:xs[i]? with
 | none=>simp [hq] at hx
 | some z=>simp [hq] at hx;subst hx;exact fG.1 (bu.2 trivial)
theorem Et {p:Nat→HB→HB→Prop} {a a' b b' c c':HB} (h0:p 0 a a') (h1:p 1 b b') (h2:p 2 c c'):∀ (j:Nat) (x y:HB),[a,b,c][j]?=some x→[a',b',c'][j]?=some y→p j x y:=by
 intro j x y hx hy
 match j with
 | 0=>simp at hx hy;subst hx;subst hy;exact h0
 | 1=>simp at hx hy;subst hx;subst hy;exact h1
 | 2=>simp at hx hy;subst hx;subst hy;exact h2
 | j+3=>simp at hx
theorem zI {p:Nat→HB→HB→Prop} {a a' b b':HB} (h0:p 0 a a') (h1:p 1 b b'):∀ (j:Nat) (x y:HB),[a,b][j]?=some x→[a',b'][j]?=some y→p j x y:=by
 intro j x y hx hy
 match j with
 | 0=>simp at hx hy;subst hx;subst hy;exact h0
 | 1=>simp at hx hy;subst hx;subst hy;exact h1
 | j+2=>simp at hx
theorem bH {P:Program} {f:FuncId} {N:Nat} {ac:AC} {rs:List RR} (H:aV P f N ac rs) (args:List U) (sv:U) (hN:args.length≤N) (hA:aP (fun j=>([]:List Nat)[j]?) args args)
 (hrun:∀ K:Ex→St→Prop,(∀ env h,bq (fun _=>none) (ag h) sv (bk (lk env) (ag h) rs)→K .normal ⟨env,h⟩∧K .ret ⟨env,h⟩)→G P 0 [.c ac] K (hU 0 args) []):aI P f args [] [] sv:=by
 refine tX H [] [] args hN (fG.1 hA) rfl (by simp) (by simp) (fun K hK=>hrun K (fun env h hr=>?_))
 unfold bq at hr
 split at hr
 ·rename_i p xs hres
  exact hK env h env h (fun _=>none) (cW _ _) ⟨by simp,by simp,by simp,by simp,by simp,p,xs,hres,hr.1,hr.2⟩
 ·exact hr.elim
theorem cC {τ:Nat→Option Nat} {h:Hp} {env:List (Nat×U)} {n:Nat} {r:RV} (hl:lk env n = .rv r):bq τ h (.rv r) (bk (lk env) h [.t n]):=by
 simp [bk,bq,bA,hl,aO]
theorem eK {τ:Nat→Option Nat} {h:Hp} {env:List (Nat×U)} {n m:Nat} {r q:RV} (hl:lk env n = .rv r) (hm:lk env m = .rv q):bq τ h (.aM [.rv r,.rv q]) (bk (lk env) h [.t n,.t m]):=by
 simp [bk,bq,bA,hl,hm,aO,bI,aN]
theorem xw {τ:Nat→Option Nat} {h:Hp}:∀ (bs:List RV),pL τ h (bs.map .rv) bs
 | []=>trivial
 | b::bs=>⟨.rv b,xw bs⟩
theorem Cp {P:Program} {f:FuncId} {e id v n:Nat} {xs:List (List RV)} {bs:List RV} {r:RV} (H:aI P f (.rv (.sl e xs)::bs.map .rv) [] [] (.rv r)) (hf:ec r) (hn:n=xs.length) (h1:∀ x∈xs,∀ r∈x,r.one=true) :
 aI P f (.row id v n::bs.map .rv) [(id,.row e v (aH xs))] [] (.rv r):=by
 refine tW (rs:=.sl e xs::bs) H (fun hp hpre=>⟨?_,?_⟩) (by simp) (.rv _ hf) (by simp)
 ·have:=mK (h:=hp) (τ:=fun _=>none) (j:=id) (e:=e) (af:=v) (len:=n) (xs:=xs) (hpre _ (.head _)) rfl (by omega) h1
  rwa [hn,List.take_length,← hn] at this
 ·exact xw bs
theorem Lr {P:Program} {f:FuncId} {e id v n:Nat} {xs:List (List RV)} {bs:List RV} {rs:List RV} (H:aI P f (.rv (.sl e xs)::bs.map .rv) [] [] (.aM (rs.map .rv))) (hf:∀ r∈rs,ec r) (hn:n=xs.length) (h1:∀ x∈xs,∀ r∈x,r.one=true) :
 aI P f (.row id v n::bs.map .rv) [(id,.row e v (aH xs))] [] (.aM (rs.map .rv)):=by
 refine tW (rs:=.sl e xs::bs) H (fun hp hpre=>⟨?_,?_⟩) (by simp) (.aM _ (fun j y hy=>?_)) (by simp)
 ·have:=mK (h:=hp) (τ:=fun _=>none) (j:=id) (e:=e) (af:=v) (len:=n) (xs:=xs) (hpre _ (.head _)) rfl (by omega) h1
  rwa [hn,List.take_length,← hn] at this
 ·exact xw bs
 ·rw [List.getElem?_map] at hy
  cases hr:rs[j]? with
  | none=>simp [hr] at hy
  | some r=>simp [hr] at hy;subst hy;exact .rv _ (hf r (List.mem_of_getElem? hr))
end Go.aG

namespace Go.aG
open Go
theorem rM {n0:Nat} {env:List (Nat×U)} {h:List (Option HB)} (n e v:Nat) (hn:lk env n = .rv .bO):cA n0 ⟨env,h⟩ ⟨(n,.row h.length v 0)::env,h++[some (.row e v [])]⟩:=by
 intro C a w R
 obtain ⟨⟨aa,RF⟩,h1,h0⟩:=R
 have hnone:ag h h.length=none:=by unfold ag;rw [List.getElem?_eq_none (Nat.le_refl _)]
 have rU:C.h0 h.length=none:=h0 _ h1
 have S:=RF.mem.ghost h.length e v (.inl ⟨hnone,rU⟩)
 have fu:=RF.step S
 have hh:ag (h++[some (.row e v [])])=up (ag h) h.length (some (.row e v [])):=by
  have:=uX (h:=h) (q:=(h.length,.row e v [])) (Nat.le_refl _)
  rw [← this]
  unfold aT;rw [if_pos rfl]
 have hv:=RF.env n
 rw [hn] at hv
 refine ⟨⟨up aa h.length none,?_,fun m=>?_,fu.size,fu.defers⟩,?_,h0⟩
 ·show bF C (ag (h++[some (.row e v [])])) w (up aa h.length none)
  rw [hh];exact fu.mem
 ·show Rp w (an C (up aa h.length none) (ag (h++[some (.row e v [])]))) (up aa h.length none) (ag (h++[some (.row e v [])])) (lk ((n,.row h.length v 0)::env) m) _
  rw [hh,sM]
  by_cases hm:m=n
  ·subst hm
   rw [bJ]
   cases hv with
   | rv _ _ hr=>
     generalize a.tmps.getD m undef=v at hr
     cases hr
     refine .row _ _ _ _ rfl (by rw [bJ];rfl) (fun e cr xs hx=>by rw [bJ] at hx;cases hx;exact Nat.le_refl _) (fun e xs hx=>.inl ⟨bJ _ _ _,rfl,rfl⟩)
  ·rw [cv _ _ hm];exact fu.env m
 ·show n0≤(h++[some (HB.row e v [])]).length
  have Ho:n0≤h.length:=h1
  simp;omega
theorem bF.GW {C:Ctx} {hp:Hp} {w:World} {aa:Nat→Option Nat} (R:bF C hp w aa) {i0 m k v:Nat} {xs:List (List U)} (e:Nat) (hi:hp i0=some (.row 1 v xs)) (ho:xs[k]?=some [.rv .bO]) (hm:hp m=none) (hm0:C.h0 m=none) :
 ∃ au,Step C hp (up (up hp m (some (.row e 0 []))) i0 (some (.row 1 v (xs.set k [.row m 0 0])))) w w aa au:=by
 have S:=R.ghost m e 0 (.inl ⟨hm,hm0⟩)
 have hne:i0≠m:=fun h=>by subst h;rw [hm] at hi;cases hi
 have hi':(up hp m (some (.row e 0 []))) i0=some (.row 1 v xs):=by rw [cv _ _ hne];exact hi
 rcases S.mem.heap i0 _ hi' with ⟨_,e',af,hc⟩ | ⟨b,cur,t,h1,h2,h3⟩
 ·cases hc;simp at ho
 ·have S2:=S.mem.replace i0 (.row 1 v (xs.set k [.row m 0 0])) b cur t rfl rfl rfl (Nat.le_refl _) h2 (fun k _ _=>rfl) (.inl ⟨by rw [hi'];rfl,h1⟩) (fun hb hq=>by
   rw [hi'] at hq;cases hq
   exact ⟨Nat.le_refl _,fun _=>⟨rfl,h1.symm,fun b' _ cur t hc=>⟨cur,t,hc,rfl⟩⟩⟩) (fun hq=>by rw [hi'] at hq;cases hq) ⟨fun x hx=>by
   rcases List.mem_or_eq_of_mem_set hx with h | h
   ·exact h3.1 x h
   ·rw [h];rfl,by rw [List.length_set];exact h3.2.1,fun i x hx=>by
   rw [List.getElem?_set] at hx
   split at hx
   ·rename_i hik
    subst hik
    split at hx
    ·cases hx
     intro j y hy
     cases j with
     | succ j=>simp at hy
     | zero=>
       simp at hy
       subst hy
       obtain ⟨u,v1,v2,v3⟩:=h3.2.2 _ _ ho 0 _ rfl
       refine ⟨u,v1,v2,?_⟩
       cases v3 with
       | rv _ _ hr=>
         cases hr
         exact .row _ _ _ _ rfl (by rw [bJ];rfl) (fun e cr xs hx=>by rw [bJ] at hx;cases hx;exact Nat.le_refl _) (fun e xs hx=>.inl ⟨bJ _ _ _,rfl,rfl⟩)
    ·cases hx
   ·exact h3.2.2 i x hx⟩
  exact ⟨_,S.trans S2 (Nat.le_refl _)⟩
def eg (n:Nat) (e:Nat):List (Option HB):=List.replicate n (some (.row e 0 []))
def dO (b n k:Nat):List (List U):=(List.range n).map fun p=>if p<k then [.row (b+p) 0 0] else [.rv .bO]
theorem FO {n0:Nat} {env:List (Nat×U)} {h:List (Option HB)} {r v n e k:Nat} (hr:h[r]?=some (some (.row 1 v (dO h.length n k)))) (hk:k<n) :
 cA n0 ⟨env,h++eg k e⟩ ⟨env,(h.set r (some (.row 1 v (dO h.length n (k+1)))))++eg (k+1) e⟩:=by
 intro C a w R
 obtain ⟨⟨aa,RF⟩,h1,h0⟩:=R
 have hrl:r<h.length:=(List.getElem?_eq_some_iff.1 hr).1
 have hlen:(h++eg k e).length=h.length+k:=by simp [eg]
 have hnone:ag (h++eg k e) (h.length+k)=none:=by unfold ag;rw [List.getElem?_eq_none (by rw [hlen];exact Nat.le_refl _)]
 have rU:C.h0 (h.length+k)=none:=h0 _ (by have:n0≤(h++eg k e).length:=h1;omega)
 have hi:ag (h++eg k e) r=some (.row 1 v (dO h.length n k)):=by
  unfold ag;rw [List.getElem?_append_left hrl,hr]
 have ho:(dO h.length n k)[k]?=some [.rv .bO]:=by simp [dO,hk]
 have M:bF C (ag (h++eg k e)) w aa:=RF.mem
 obtain ⟨au,S⟩:=M.GW e hi ho hnone rU
 have yc:(dO h.length n k).set k [.row (h.length+k) 0 0]=dO h.length n (k+1):=by
  refine List.ext_getElem (by simp [dO]) (fun i a1 a2=>?_)
  simp only [List.getElem_set,dO,List.getElem_map,List.getElem_range]
  by_cases hik:k=i
  ·subst hik;simp
  ·rw [if_neg hik]
   by_cases hlt:i<k
   ·rw [if_pos hlt,if_pos (by omega)]
   ·rw [if_neg hlt,if_neg (by omega)]
 have hh:ag ((h.set r (some (.row 1 v (dO h.length n (k+1)))))++eg (k+1) e)=up (up (ag (h++eg k e)) (h.length+k) (some (.row e 0 []))) r (some (.row 1 v ((dO h.length n k).set k [.row (h.length+k) 0 0]))):=by
  rw [yc]
  funext j
  unfold ag up
  by_cases hj:j=r
  ·subst hj
   rw [if_pos rfl,List.getElem?_append_left (by simpa using hrl),List.getElem?_set]
   simp [hrl]
  ·rw [if_neg hj]
   by_cases uZ:j=h.length+k
   ·subst uZ
    rw [if_pos rfl,List.getElem?_append_right (by simp)]
    simp [eg]
   ·rw [if_neg uZ]
    dsimp only
    by_cases hjl:j<h.length
    ·rw [List.getElem?_append_left (by simpa using hjl),List.getElem?_append_left hjl,List.getElem?_set_ne (Ne.symm hj)]
    ·rw [List.getElem?_append_right (by simp;omega),List.getElem?_append_right (by omega)]
     simp only [List.length_set,eg,List.getElem?_replicate]
     by_cases Bt:j - h.length<k
     ·rw [if_pos (by omega),if_pos Bt]
     ·rw [if_neg (by omega),if_neg Bt]
 have fu:=RF.step S
 refine ⟨⟨au,?_,fun m=>?_,fu.size,fu.defers⟩,?_,h0⟩
 ·show bF C (ag _) w au
  rw [hh];exact fu.mem
 ·show Rp w (an C au (ag _)) au (ag _) _ _
  rw [hh];exact fu.env m
 ·show n0≤((h.set r _)++eg (k+1) e).length
  have:n0≤(h++eg k e).length:=h1
  simp [eg] at this ⊢;omega
theorem FN {n0:Nat} {env:List (Nat×U)} {h:List (Option HB)} {r v n e:Nat} (hr:h[r]?=some (some (.row 1 v (List.replicate n [.rv .bO])))) :
 cA n0 ⟨env,h⟩ ⟨env,(h.set r (some (.row 1 v (dO h.length n n))))++eg n e⟩:=by
 have hrl:r<h.length:=(List.getElem?_eq_some_iff.1 hr).1
 have hz:dO h.length n 0=List.replicate n [.rv .bO]:=by
  refine List.ext_getElem (by simp [dO]) (fun i h1 h2=>?_)
  simp [dO]
 have key:∀ k,k≤n→cA n0 ⟨env,h⟩ ⟨env,(h.set r (some (.row 1 v (dO h.length n k))))++eg k e⟩:=by
  intro k
  induction k with
  | zero=>
    intro _
    have:h.set r (some (.row 1 v (dO h.length n 0)))=h:=by
     rw [hz]
     refine List.ext_getElem? (fun i=>?_)
     rw [List.getElem?_set]
     by_cases hi:r=i
     ·subst hi;rw [if_pos rfl,if_pos hrl,hr]
     ·rw [if_neg hi]
    rw [this]
    simpa [eg] using cW n0 ⟨env,h⟩
  | succ k ih=>
    intro hk
    refine (ih (by omega)).trans ?_
    have hl:(h.set r (some (.row 1 v (dO h.length n k)))).length=h.length:=by simp
    have:=FO (n0:=n0) (env:=env) (h:=h.set r (some (.row 1 v (dO h.length n k)))) (r:=r) (v:=v) (n:=n) (e:=e) (k:=k) (by rw [hl,List.getElem?_set];simp [hrl]) (by omega)
    rw [hl,List.set_set] at this
    exact this
 exact key n (Nat.le_refl _)
theorem Fe {P:Program} {f:FuncId} {rs:List RV} {us:List (Nat×HB)} {sv sZ:U} (H:aI P f (rs.map .rv) [] us sv) (hz:Rn (fun _=>none) (bf (fun _=>none) us) sv sZ) (ah:∃ rs',sZ = .rv rs'∨∃ qs:List RV,sZ = .aM (qs.map .rv)):aI P f (rs.map .rv) [] [] sZ:=by
 refine ⟨H.1,fun C hp w aa vs hpre hnew R hvl hvs=>?_⟩
 let C2:Ctx:=⟨w,fun b=>an C aa hp b,fun _=>False,C.N,fun _=>none,fun _=>none⟩
 have oQ:∀ b,C2.sR b→an C2 (fun _=>none) (fun _=>none) b:=fun b hb=>⟨.inl hb,fun id hid=>by simp at hid⟩
 have R2:bF C2 (fun _=>none) w (fun _=>none):=⟨fun id hb h=>(by cases h),fun i j b h=>(by simp at h),fun i b h=>(by simp at h),⟨rfl,rfl,rfl,Nat.le_refl _,fun b _ _=>rfl⟩,fun id hb hb0 h=>(by cases h)⟩
 refine (H.2 C2 (fun _=>none) w (fun _=>none) vs (fun q hq=>by simp at hq) (fun q hq=>.inr ⟨rfl,rfl⟩) R2 hvl (fun j s hj=>?_)).mono ?_
 ·have h1:=hvs j s hj
  rw [List.getElem?_map] at hj
  cases hr:rs[j]? with
  | none=>simp [hr] at hj
  | some r=>
    simp [hr] at hj
    subst hj
    cases h1 with
    | rv _ _ h=>exact .rv _ _ (h.mono fun b hb _=>⟨oQ b hb,rfl⟩)
 ·rintro e w' ⟨v,au,rfl,S,hR⟩
  have R':=S.mem
  have hsz:w.heap.size≤w'.heap.size:=R'.fr.size
  have oZ:∀ b,an C aa hp b→b<w.heap.size→an C aa hp b∧w'.heap[b]?=w.heap[b]?:=fun b hb hlt=>⟨hb,R'.fr.block b hlt (fun h=>h)⟩
  have CF:∀ b,w.heap.size≤b→an C aa hp b:=fun b hb=>⟨.inr (Nat.le_trans R.fr.size hb),fun id hid he=>by have:=(R.own id b hid he).2;omega⟩
  have E:dK w w' (an C aa hp) (an C aa hp) aa aa hp hp:=dK.of oZ (fun id hb hq=>⟨hb,hq,by
   cases hb with
   | var cs=>rfl
   | row e af xs=>exact ⟨Nat.le_refl _,fun _=>⟨rfl,rfl,fun b hb cur t hc=>⟨cur,t,by rw [R'.fr.block b (R.own id b (by rw [hq];rfl) hb).2 (fun h=>h)];exact hc,rfl⟩⟩⟩⟩)
  have out:Rp w' (an C aa hp) aa hp sZ v:=hR.leave (τ:=fun _=>none) (aa:=aa) (hp:=hp) (fun b hb=>by
   rcases hb.1 with h | h
   ·exact h
   ·exact CF b h) (fun j b _ hs hb=>by
   rcases (R'.own j b hs hb).1 with ⟨h,_⟩ | h
   ·cases h
   ·exact CF b h) (fun j hb hj=>R'.heap j hb hj) (fun j id hj=>by cases hj) hz
  refine ⟨v,aa,rfl,⟨⟨fun id hb hq=>?_,R.inj,fun id b h1 h2=>⟨(R.own id b h1 h2).1,by have:=(R.own id b h1 h2).2;omega⟩,⟨R'.fr.os.trans R.fr.os,R'.fr.tape.trans R.fr.tape,R'.fr.output.trans R.fr.output,Nat.le_trans R.fr.size hsz,fun b h1 h2=>?_⟩,fun id hb hb0 h1 h2=>?_⟩,E⟩,out⟩
  ·have cj:hp id=some hb:=hq
   rcases R.heap id hb cj with h | ⟨b,cur,t,a1,a2,a3⟩
   ·exact .inl h
   ·refine .inr ⟨b,cur,t,a1,?_,a3.mono E⟩
    rw [R'.fr.block b (R.own id b (by rw [cj];rfl) a1).2 (fun h=>h)];exact a2
  ·have hb:b<w.heap.size:=by have:=R.fr.size;omega
   rw [R'.fr.block b hb (fun h=>h)]
   exact R.fr.block b h1 h2
  ·have cj:hp id=some hb:=h1
   refine (R.er id hb hb0 cj h2).trans ?_
   cases hb with
   | var cs=>rfl
   | row e af xs=>exact ⟨Nat.le_refl _,fun _=>⟨rfl,rfl,fun b hb cur t hc=>⟨cur,t,by rw [R'.fr.block b (R.own id b (by rw [cj];rfl) hb).2 (fun h=>h)];exact hc,rfl⟩⟩⟩
end Go.aG

namespace Go.aG
open Go
inductive dz (n:Nat):U→Prop where
 | dead:dz n .dead
 | rv (r:RV):dz n (.rv r)
 | ptr (id off:Nat) (h:id<n):dz n (.ptr id off)
 | bw (id af i off:Nat) (h:id<n):dz n (.bw id af i off)
 | row (id af len:Nat) (h:id<n):dz n (.row id af len)
 | win (id af off len:Nat) (h:id<n):dz n (.win id af off len)
 | agg (cs:List U) (h:∀ (j:Nat) (y:U),cs[j]?=some y→dz n y):dz n (.agg cs)
 | aM (cs:List U) (h:∀ (j:Nat) (y:U),cs[j]?=some y→dz n y):dz n (.aM cs)
 | fn (f:FuncId) (cs:List U) (h:∀ (j:Nat) (y:U),cs[j]?=some y→dz n y):dz n (.fn f cs)
 | bT (f:FuncId) (cs:List U) (h:∀ (j:Nat) (y:U),cs[j]?=some y→dz n y):dz n (.bT f cs)
 | bt (t:TypeId) (x:U) (h:dz n x):dz n (.bt t x)
theorem dz.rn {n:Nat} {h:Hp} {x:U} (hc:dz n x):Rn (cI n) h x x:=by
 induction hc with
 | dead=>exact .dead _
 | rv r=>exact .fz _ _ (.rv r)
 | ptr id off h=>exact .ptr _ _ _ (by simp [cI,h])
 | bw id af i off h=>exact .bw _ _ _ _ _ (by simp [cI,h])
 | row id af len h=>exact .row _ _ _ _ (by simp [cI,h])
 | win id af off len h=>exact .win _ _ _ _ _ (by simp [cI,h])
 | agg cs h ih=>exact .agg _ _ rfl (fun i x y hx hy=>by rw [hx] at hy;cases hy;exact ih i x hx)
 | aM cs h ih=>exact .aM _ _ rfl (fun i x y hx hy=>by rw [hx] at hy;cases hy;exact ih i x hx)
 | fn f cs h ih=>exact .fn _ _ _ rfl (fun i x y hx hy=>by rw [hx] at hy;cases hy;exact ih i x hx)
 | bT f cs h ih=>exact .bT _ _ _ rfl (fun i x y hx hy=>by rw [hx] at hy;cases hy;exact ih i x hx)
 | bt t x h ih=>exact .bt _ _ _ ih
def lR (n:Nat):List U→Prop
 | []=>True
 | x::r=>dz n x∧lR n r
theorem lR.get {n:Nat}:∀ {l:List U},lR n l→∀ (j:Nat) (y:U),l[j]?=some y→dz n y
 | [],_,j,y,h=>by simp at h
 | x::r,hc,j,y,h=>by
   cases j with
   | zero=>simp at h;subst h;exact hc.1
   | succ j=>exact hc.2.get j y (by simpa using h)
theorem oF {n:Nat} {r:RV}:dz n (.rv r)↔True:=⟨fun _=>trivial,fun _=>.rv r⟩
theorem oE {n i o:Nat}:dz n (.ptr i o)↔i<n:=⟨fun h=>by cases h;assumption,fun h=>.ptr _ _ h⟩
theorem nt {n i v l:Nat}:dz n (.row i v l)↔i<n:=⟨fun h=>by cases h;assumption,fun h=>.row _ _ _ h⟩
theorem gD {n:Nat} {rs:List RV}:lR n (rs.map .rv):=by
 induction rs with
 | nil=>trivial
 | cons r rs ih=>exact ⟨.rv r,ih⟩
def lS (n:Nat):HB→Prop
 | .var cs=>lR n cs
 | .row _ _ xs=>∀ (i:Nat) (x:List U),xs[i]?=some x→lR n x
theorem lX {n e v:Nat} {xs:List (List RV)}:lS n (.row e v (aH xs)):=fun i x hx=>by
 unfold aH at hx
 rw [List.getElem?_map] at hx
 cases hq:xs[i]? with
 | none=>simp [hq] at hx
 | some z=>simp [hq] at hx;subst hx;exact gD
theorem lS.rn {n:Nat} {h:Hp} {hb:HB} (hc:lS n hb):lV (cI n) h hb hb:=by
 cases hb with
 | var cs=>exact .var _ _ ⟨rfl,fun i x y hx hy=>by rw [hx] at hy;cases hy;exact (lR.get hc i x hx).rn⟩
 | row e v xs=>exact .row _ _ _ _ rfl (fun i x y hx hy=>by
    rw [hx] at hy;cases hy
    exact ⟨rfl,fun j a b ha hb=>by rw [ha] at hb;cases hb;exact (lR.get (hc i x hx) j a ha).rn⟩)
def fP (n:Nat) (env:List (Nat×U)):List (Nat×U)→Prop
 | []=>True
 | (m,v)::r=>(v = .dead∨lk env m=v∧dz n v)∧fP n env r
theorem fP.get {n:Nat} {env:List (Nat×U)}:∀ {env':List (Nat×U)},fP n env env'→∀ p∈env',p.2 = .dead∨lk env p.1=p.2∧dz n p.2
 | [],_,p,hp=>by simp at hp
 | (m,v)::r,h,p,hp=>by
   rcases List.mem_cons.1 hp with rfl | hp
   ·exact h.1
   ·exact h.2.get p hp
def gB (P:HB→Prop):List (Option HB)→Prop
 | []=>True
 | some hb::r=>P hb∧gB P r
 | none::_=>False
theorem gB.get {P:HB→Prop}:∀ {l:List (Option HB)},gB P l→∀ j,j<l.length→∃ hb,l[j]?=some (some hb)∧P hb
 | [],_,j,hj=>by simp at hj
 | some hb::r,h,j,hj=>by
   cases j with
   | zero=>exact ⟨hb,rfl,h.1⟩
   | succ j=>obtain ⟨x,a,b⟩:=h.2.get j (by simpa using hj);exact ⟨x,by simpa using a,b⟩
 | none::r,h,_,_=>h.elim
theorem gB.of {P:HB→Prop}:∀ {l:List (Option HB)},(∀ (j:Nat) (x:Option HB),l[j]?=some x→∃ hb,x=some hb∧P hb)→gB P l
 | [],_=>trivial
 | x::r,h=>by
   obtain ⟨hb,rfl,hp⟩:=h 0 x rfl
   exact ⟨hp,gB.of fun j y hy=>h (j+1) y (by simpa using hy)⟩
theorem uy {n0:Nat} {env env':List (Nat×U)} {h' C:List (Option HB)} (hn:n0≤h'.length) (hC:gB (lS h'.length) h') (he:fP h'.length env env'):cA n0 ⟨env,h'++C⟩ ⟨env',h'⟩:=by
 refine xg (cI h'.length) hn (fun j i hj=>?_) (fun j hj=>?_) (fun j=>?_) (sL (fun x=>.dead x) (fun p hp=>?_))
 ·unfold cI at hj;split at hj <;> cases hj;rfl
 ·unfold cI at hj;split at hj
  ·cases hj
  ·omega
 ·by_cases hj:j<h'.length
  ·obtain ⟨hb,g1,g2⟩:=hC.get j hj
   exact .inl ⟨hb,hb,by simp [cI,hj],mb.2 (by rw [List.getElem?_append_left hj];exact g1),mb.2 g1,g2.rn⟩
  ·refine .inr ⟨?_,.inl (by simp [cI,hj])⟩
   unfold ag
   rw [List.getElem?_eq_none (by omega)]
 ·rcases he.get p hp with h | ⟨h1,h2⟩
  ·rw [h];exact .dead _
  ·rw [h1];exact h2.rn
structure fE (P:Program) (n:Nat) (t:TypeId) (rs:List RV):Prop where
 ty:fo P n t rs
theorem DW {P:Program} {f g:TypeId→List RV→Prop} (h:∀ t rs,f t rs→g t rs):∀ {fs:List Field} {rs:List RV},qQ P f fs rs→qQ P g fs rs
 | [],_,hf=>hf
 | _::_,_,⟨a,b,e,h1,h2⟩=>⟨a,b,e,h _ _ h1,DW h h2⟩
theorem DU {P:Program} {n:Nat} {t:TypeId} {k:IntKind} {rs:List RV} (hu:P.underlying t=some (.int k)) (h:fE P (n+1) t rs):∃ i,rs=[.int k i]∧(Lit.int k i).wf=true:=by
 have h:=h.ty;unfold fo at h;simp only [hu] at h;exact h
theorem OS {P:Program} {n:Nat} {t:TypeId} {rs:List RV} (hu:P.underlying t=some .bool) (h:fE P (n+1) t rs):∃ b,rs=[.bool b]:=by
 have h:=h.ty;unfold fo at h;simp only [hu] at h;exact h
theorem DV {P:Program} {n:Nat} {t:TypeId} {fs:Array Field} {rs:List RV} (hu:P.underlying t=some (.struct fs)) (h:fE P (n+1) t rs):qQ P (fE P n) fs.toList rs:=by
 have h:=h.ty;unfold fo at h;simp only [hu] at h
 exact DW (fun _ _ h=>⟨h⟩) h
theorem DT {P:Program} {n m:Nat} {t e:TypeId} {rs:List RV} (hu:P.underlying t=some (.array m e)) (h:fE P (n+1) t rs):∃ xs:List (List RV),rs=xs.flatten∧xs.length=m∧∀ x∈xs,fE P n e x:=by
 have h:=h.ty;unfold fo at h;simp only [hu] at h
 obtain ⟨xs,h1,h2,h3⟩:=h
 exact ⟨xs,h1,h2,fun x hx=>⟨h3 x hx⟩⟩
theorem Mj {P:Program} {H:Type} {enc:TypeId×Value→H} {w:World} {r:Reach} {b0 n:Nat} {t:TypeId} {v:Value} {d:DataW H} {ps:List MemPlace} (hf:kZ P n t=true) (hval:Value.okWide P w r b0 t v) (hd:DataW.Trod enc P w 0 (fun _=>true) true t v d ps) :
 ∃ rs,fE P n t rs∧∀ (ok:Nat→Prop) (aa:Nat→Option Nat) (hp:Hp),(∀ b,b<w.heap.size→ok b)→Rp w ok aa hp (pN P t rs) v:=by
 obtain ⟨rs,h1,h2⟩:=Mi hf hval hd ⟨w,fun _=>True,fun _=>True,0,fun _=>.none,fun _=>.none⟩ (fun _=>.none)
 exact ⟨rs,⟨h1⟩,h2⟩
theorem EG {P:Program} {t:TypeId} {rs:List RV} (h:bX P t=some true):pN P t rs = .agg (rs.map .rv):=by
 unfold pN;rw [h]
theorem MK {hp:Hp} {a:Nat} {hb:HB} (h:hp a=some hb):aS hp [(a,hb)]:=fun q hq=>by simp at hq;subst hq;exact h
end Go.aG

namespace Go.aG
open Go
attribute [go_sem] Gz GK GG GH GJ Gu Gx Gv GI Gy Hg GZ Hh He GY Hf GA Gw GB GF GC GD wP vn yS pg wQ vo yT pq bz o1 o2 gI dD oh tQ tG tT tU fits lf lF lE vr vq uI lG sK gM nj ua tI tM tO tN wK pO oc mZ tH sQ fj vl nI vp mS rP uC vF vD uu vz vB vA uF nM sF sG qw oK uE uD rE uc vX nX lC qP ta fT gS sI hU lk dH dG cu th aT fO dM ie zB List.map_cons List.map_nil List.length_cons List.length_nil List.length_append List.length_map List.length_set List.set_cons_zero List.set_cons_succ List.cons_append List.nil_append List.append_nil List.getElem?_cons_zero List.getElem?_cons_succ List.getElem?_nil List.take_succ_cons List.take_zero List.drop_succ_cons List.drop_zero List.drop_nil List.take_nil Option.getD_some Option.getD_none Option.map_some Option.map_none true_and and_true Nat.zero_add Nat.add_zero decide_eq_true_eq Bool.false_eq_true ay Nl zi Nn Dk Int.toNat_natCast EV EU ET ES Bool.not_true Bool.not_false OF oe nu chunks Fi Fh GO GN GM GL GU GS GR GQ GP GV ME MD
attribute [go_sem_proc] Nat.reduceEqDiff Nat.reduceAdd Nat.reduceSub Nat.reduceMul Nat.reduceLeDiff Nat.reduceLT reduceCtorEq Int.reduceToNat
attribute [go_sem_proc ↓] reduceIte
theorem Lt (n:Nat):Int.ofNat (no_index (OfNat.ofNat n))=OfNat.ofNat n:=rfl
attribute [go_sem] Lt
theorem qU:IntKind.i64.wrap (0+1)=1:=by decide
theorem qV:IntKind.i64.wrap (1+1)=2:=by decide
theorem qW:IntKind.i64.wrap (2+1)=3:=by decide
theorem qX:IntKind.i64.wrap (3+1)=4:=by decide
theorem qY:IntKind.i64.wrap (4+1)=5:=by decide
theorem qZ:IntKind.i64.wrap (5+1)=6:=by decide
theorem pQ (n:Nat):((no_index (OfNat.ofNat n):Nat):Int)=OfNat.ofNat n:=rfl
def fc (P:Program) (f:FuncId) (N:Nat) (rs:List RR):AC:=(uJ P f N rs).getD .skip
theorem bh {P:Program} {f:FuncId} {N:Nat} {rs:List RR} (h:(uJ P f N rs).isSome=true):aV P f N (fc P f N rs) rs:=by
 obtain ⟨c,hc⟩:=Option.isSome_iff_exists.1 h
 unfold fc;rw [hc];exact Gs hc
end Go.aG

namespace Go.aG
open Go
structure Ln where
 kind:Int
 n:Int
 deriving DecidableEq,Inhabited
structure Q4 (α:Type) where
 a:α
 b:α
 c:α
 d:α
 deriving DecidableEq,Inhabited
structure ai where
 shown:Bool
 position:Int
 off:Q4 Ln
 width:Ln
 height:Ln
 eW:Ln
 eV:Ln
 fm:Ln
 fk:Ln
 bC:Q4 Ln
 pad:Q4 Ln
 bR:Q4 Int
 cn:Bool
 uP:Bool
 z:Int
 clip:Bool
 back:Int
 line:Int
 deriving DecidableEq,Inhabited
structure Nd where
 s:ai
 parent:Int
 deriving DecidableEq,Inhabited
def Ln.cells (x:Ln):List RV:=[.int .i64 x.kind,.int .i64 x.n]
def Q4.mu (q:Q4 Ln):List RV:=[.int .i64 q.a.kind,.int .i64 q.a.n,.int .i64 q.b.kind,.int .i64 q.b.n,.int .i64 q.c.kind,.int .i64 q.c.n,.int .i64 q.d.kind,.int .i64 q.d.n]
def Q4.ints (q:Q4 Int):List RV:=[.int .i64 q.a,.int .i64 q.b,.int .i64 q.c,.int .i64 q.d]
def ai.cells (s:ai):List RV:=[.bool s.shown,.int .i64 s.position,
 .int .i64 s.off.a.kind,.int .i64 s.off.a.n,.int .i64 s.off.b.kind,.int .i64 s.off.b.n,.int .i64 s.off.c.kind,.int .i64 s.off.c.n,.int .i64 s.off.d.kind,.int .i64 s.off.d.n,
 .int .i64 s.width.kind,.int .i64 s.width.n,.int .i64 s.height.kind,.int .i64 s.height.n,.int .i64 s.eW.kind,.int .i64 s.eW.n,.int .i64 s.eV.kind,.int .i64 s.eV.n,.int .i64 s.fm.kind,.int .i64 s.fm.n,.int .i64 s.fk.kind,.int .i64 s.fk.n,
 .int .i64 s.bC.a.kind,.int .i64 s.bC.a.n,.int .i64 s.bC.b.kind,.int .i64 s.bC.b.n,.int .i64 s.bC.c.kind,.int .i64 s.bC.c.n,.int .i64 s.bC.d.kind,.int .i64 s.bC.d.n,
 .int .i64 s.pad.a.kind,.int .i64 s.pad.a.n,.int .i64 s.pad.b.kind,.int .i64 s.pad.b.n,.int .i64 s.pad.c.kind,.int .i64 s.pad.c.n,.int .i64 s.pad.d.kind,.int .i64 s.pad.d.n,
 .int .i64 s.bR.a,.int .i64 s.bR.b,.int .i64 s.bR.c,.int .i64 s.bR.d,
 .bool s.cn,.bool s.uP,.int .i64 s.z,.bool s.clip,.int .i64 s.back,.int .i64 s.line]
abbrev ai.sv (s:ai):U:=.agg (s.cells.map .rv)
abbrev Ln.sv (x:Ln):U:=.agg (x.cells.map .rv)
def Nd.cells (x:Nd):List RV:=x.s.cells++[.int .i64 x.parent]
abbrev Nd.sv (x:Nd):U:=.agg (x.cells.map .rv)
def ck (l:List Nd):List (List RV):=l.map Nd.cells
def ic {α:Type} (q:Q4 α):Nat→α
 | 0=>q.a
 | 1=>q.b
 | 2=>q.c
 | _=>q.d
def Q4.list {α:Type} (q:Q4 α):List α:=[q.a,q.b,q.c,q.d]
def fK (s:ai):List Ln:=s.off.list++[s.width,s.height,s.eW,s.eV,s.fm,s.fk]++s.bC.list++s.pad.list
theorem aB (s:ai):(fK s).length=18:=rfl
def qy (l:List Ln):List (List RV):=l.map Ln.cells
def sN (x:Ln):Bool:=(decide (x.kind=0) && decide (x.n=0)) || decide (x.kind=1) || decide (x.kind=2)
def gi (p:Ln) (b:Int):Bool:=!(decide (p.kind=0) || decide (p.n<0) || decide (b<0))
def zw (s:ai):Bool:=decide (s.position≥0) && decide (s.position≤3) && decide (s.back≥0) && decide (s.line≥0) && (s.uP || decide (s.z=0))
def gN (s:ai):Bool:=(fK s).all sN && ([s.width,s.height,s.eW,s.eV,s.fm,s.fk].all fun x=>decide (0≤x.n)) &&
 (gi s.pad.a s.bR.a && gi s.pad.b s.bR.b && gi s.pad.c s.bR.c && gi s.pad.d s.bR.d) && zw s
def qv (n most:Int):Bool:=decide (-most≤n) && decide (n≤most)
def oW (x:Ln):Bool:=!((decide (x.kind=1) && !qv x.n 1099511627776) || (decide (x.kind=2) && !qv x.n 1000000))
def om (s:ai):Bool:=(fK s).all oW && (s.bR.list.all fun n=>decide (n≤1099511627776)) && (qv s.z 1073741824 && decide (s.back≤16777216) && decide (s.line≤16777216))
theorem aq (s:ai):s.cells.length=48:=rfl
theorem av (x:Nd):x.cells.length=49:=rfl
theorem ax (l:List Nd):(ck l).length=l.length:=by simp [ck]
theorem mw {l:List Nd} {i:Nat} (h:i<l.length):(ck l)[i]?.getD []=(l[i]'h).cells:=by simp [ck,h]
theorem aE (l:List Ln):(qy l).length=l.length:=by simp [qy]
theorem Lu {l:List Ln} {i:Nat} (h:i<l.length):(qy l)[i]?.getD []=(l[i]'h).cells:=by simp [qy,h]
theorem iq (s:ai):(s.cells.map U.rv)[0]?=some (.rv (.bool s.shown)):=rfl
theorem jB (s:ai):(s.cells.drop 0)[0]?=some (.bool s.shown):=rfl
theorem ir (s:ai):(s.cells.map U.rv)[1]?=some (.rv (.int .i64 s.position)):=rfl
theorem jC (s:ai):(s.cells.drop 1)[0]?=some (.int .i64 s.position):=rfl
theorem iG (s:ai):(s.cells.map U.rv)[2]?=some (.rv (.int .i64 s.off.a.kind)):=rfl
theorem jN (s:ai):(s.cells.drop 2)[0]?=some (.int .i64 s.off.a.kind):=rfl
theorem iR (s:ai):(s.cells.map U.rv)[3]?=some (.rv (.int .i64 s.off.a.n)):=rfl
theorem jY (s:ai):(s.cells.drop 3)[0]?=some (.int .i64 s.off.a.n):=rfl
theorem jc (s:ai):(s.cells.map U.rv)[4]?=some (.rv (.int .i64 s.off.b.kind)):=rfl
theorem kz (s:ai):(s.cells.drop 4)[0]?=some (.int .i64 s.off.b.kind):=rfl
theorem jl (s:ai):(s.cells.map U.rv)[5]?=some (.rv (.int .i64 s.off.b.n)):=rfl
theorem kK (s:ai):(s.cells.drop 5)[0]?=some (.int .i64 s.off.b.n):=rfl
theorem jm (s:ai):(s.cells.map U.rv)[6]?=some (.rv (.int .i64 s.off.c.kind)):=rfl
theorem kL (s:ai):(s.cells.drop 6)[0]?=some (.int .i64 s.off.c.kind):=rfl
theorem jn (s:ai):(s.cells.map U.rv)[7]?=some (.rv (.int .i64 s.off.c.n)):=rfl
theorem kM (s:ai):(s.cells.drop 7)[0]?=some (.int .i64 s.off.c.n):=rfl
theorem jo (s:ai):(s.cells.map U.rv)[8]?=some (.rv (.int .i64 s.off.d.kind)):=rfl
theorem kN (s:ai):(s.cells.drop 8)[0]?=some (.int .i64 s.off.d.kind):=rfl
theorem jq (s:ai):(s.cells.map U.rv)[9]?=some (.rv (.int .i64 s.off.d.n)):=rfl
theorem kO (s:ai):(s.cells.drop 9)[0]?=some (.int .i64 s.off.d.n):=rfl
theorem iu (s:ai):(s.cells.map U.rv)[10]?=some (.rv (.int .i64 s.width.kind)):=rfl
theorem jD (s:ai):(s.cells.drop 10)[0]?=some (.int .i64 s.width.kind):=rfl
theorem iw (s:ai):(s.cells.map U.rv)[11]?=some (.rv (.int .i64 s.width.n)):=rfl
theorem jE (s:ai):(s.cells.drop 11)[0]?=some (.int .i64 s.width.n):=rfl
theorem iy (s:ai):(s.cells.map U.rv)[12]?=some (.rv (.int .i64 s.height.kind)):=rfl
theorem jF (s:ai):(s.cells.drop 12)[0]?=some (.int .i64 s.height.kind):=rfl
theorem iz (s:ai):(s.cells.map U.rv)[13]?=some (.rv (.int .i64 s.height.n)):=rfl
theorem jG (s:ai):(s.cells.drop 13)[0]?=some (.int .i64 s.height.n):=rfl
theorem iA (s:ai):(s.cells.map U.rv)[14]?=some (.rv (.int .i64 s.eW.kind)):=rfl
theorem jH (s:ai):(s.cells.drop 14)[0]?=some (.int .i64 s.eW.kind):=rfl
theorem iB (s:ai):(s.cells.map U.rv)[15]?=some (.rv (.int .i64 s.eW.n)):=rfl
theorem jI (s:ai):(s.cells.drop 15)[0]?=some (.int .i64 s.eW.n):=rfl
theorem iC (s:ai):(s.cells.map U.rv)[16]?=some (.rv (.int .i64 s.eV.kind)):=rfl
theorem jJ (s:ai):(s.cells.drop 16)[0]?=some (.int .i64 s.eV.kind):=rfl
theorem iD (s:ai):(s.cells.map U.rv)[17]?=some (.rv (.int .i64 s.eV.n)):=rfl
theorem jK (s:ai):(s.cells.drop 17)[0]?=some (.int .i64 s.eV.n):=rfl
theorem iE (s:ai):(s.cells.map U.rv)[18]?=some (.rv (.int .i64 s.fm.kind)):=rfl
theorem jL (s:ai):(s.cells.drop 18)[0]?=some (.int .i64 s.fm.kind):=rfl
theorem iF (s:ai):(s.cells.map U.rv)[19]?=some (.rv (.int .i64 s.fm.n)):=rfl
theorem jM (s:ai):(s.cells.drop 19)[0]?=some (.int .i64 s.fm.n):=rfl
theorem iH (s:ai):(s.cells.map U.rv)[20]?=some (.rv (.int .i64 s.fk.kind)):=rfl
theorem jO (s:ai):(s.cells.drop 20)[0]?=some (.int .i64 s.fk.kind):=rfl
theorem iI (s:ai):(s.cells.map U.rv)[21]?=some (.rv (.int .i64 s.fk.n)):=rfl
theorem jP (s:ai):(s.cells.drop 21)[0]?=some (.int .i64 s.fk.n):=rfl
theorem iJ (s:ai):(s.cells.map U.rv)[22]?=some (.rv (.int .i64 s.bC.a.kind)):=rfl
theorem jQ (s:ai):(s.cells.drop 22)[0]?=some (.int .i64 s.bC.a.kind):=rfl
theorem iK (s:ai):(s.cells.map U.rv)[23]?=some (.rv (.int .i64 s.bC.a.n)):=rfl
theorem jR (s:ai):(s.cells.drop 23)[0]?=some (.int .i64 s.bC.a.n):=rfl
theorem iL (s:ai):(s.cells.map U.rv)[24]?=some (.rv (.int .i64 s.bC.b.kind)):=rfl
theorem jS (s:ai):(s.cells.drop 24)[0]?=some (.int .i64 s.bC.b.kind):=rfl
theorem iM (s:ai):(s.cells.map U.rv)[25]?=some (.rv (.int .i64 s.bC.b.n)):=rfl
theorem jT (s:ai):(s.cells.drop 25)[0]?=some (.int .i64 s.bC.b.n):=rfl
theorem iN (s:ai):(s.cells.map U.rv)[26]?=some (.rv (.int .i64 s.bC.c.kind)):=rfl
theorem jU (s:ai):(s.cells.drop 26)[0]?=some (.int .i64 s.bC.c.kind):=rfl
theorem iO (s:ai):(s.cells.map U.rv)[27]?=some (.rv (.int .i64 s.bC.c.n)):=rfl
theorem jV (s:ai):(s.cells.drop 27)[0]?=some (.int .i64 s.bC.c.n):=rfl
theorem iP (s:ai):(s.cells.map U.rv)[28]?=some (.rv (.int .i64 s.bC.d.kind)):=rfl
theorem jW (s:ai):(s.cells.drop 28)[0]?=some (.int .i64 s.bC.d.kind):=rfl
theorem iQ (s:ai):(s.cells.map U.rv)[29]?=some (.rv (.int .i64 s.bC.d.n)):=rfl
theorem jX (s:ai):(s.cells.drop 29)[0]?=some (.int .i64 s.bC.d.n):=rfl
theorem iS (s:ai):(s.cells.map U.rv)[30]?=some (.rv (.int .i64 s.pad.a.kind)):=rfl
theorem jZ (s:ai):(s.cells.drop 30)[0]?=some (.int .i64 s.pad.a.kind):=rfl
theorem iT (s:ai):(s.cells.map U.rv)[31]?=some (.rv (.int .i64 s.pad.a.n)):=rfl
theorem ke (s:ai):(s.cells.drop 31)[0]?=some (.int .i64 s.pad.a.n):=rfl
theorem iU (s:ai):(s.cells.map U.rv)[32]?=some (.rv (.int .i64 s.pad.b.kind)):=rfl
theorem kf (s:ai):(s.cells.drop 32)[0]?=some (.int .i64 s.pad.b.kind):=rfl
theorem iV (s:ai):(s.cells.map U.rv)[33]?=some (.rv (.int .i64 s.pad.b.n)):=rfl
theorem kg (s:ai):(s.cells.drop 33)[0]?=some (.int .i64 s.pad.b.n):=rfl
theorem iW (s:ai):(s.cells.map U.rv)[34]?=some (.rv (.int .i64 s.pad.c.kind)):=rfl
theorem ki (s:ai):(s.cells.drop 34)[0]?=some (.int .i64 s.pad.c.kind):=rfl
theorem iX (s:ai):(s.cells.map U.rv)[35]?=some (.rv (.int .i64 s.pad.c.n)):=rfl
theorem kj (s:ai):(s.cells.drop 35)[0]?=some (.int .i64 s.pad.c.n):=rfl
theorem iY (s:ai):(s.cells.map U.rv)[36]?=some (.rv (.int .i64 s.pad.d.kind)):=rfl
theorem kk (s:ai):(s.cells.drop 36)[0]?=some (.int .i64 s.pad.d.kind):=rfl
theorem iZ (s:ai):(s.cells.map U.rv)[37]?=some (.rv (.int .i64 s.pad.d.n)):=rfl
theorem ko (s:ai):(s.cells.drop 37)[0]?=some (.int .i64 s.pad.d.n):=rfl
theorem ja (s:ai):(s.cells.map U.rv)[38]?=some (.rv (.int .i64 s.bR.a)):=rfl
theorem kr (s:ai):(s.cells.drop 38)[0]?=some (.int .i64 s.bR.a):=rfl
theorem jb (s:ai):(s.cells.map U.rv)[39]?=some (.rv (.int .i64 s.bR.b)):=rfl
theorem ku (s:ai):(s.cells.drop 39)[0]?=some (.int .i64 s.bR.b):=rfl
theorem jd (s:ai):(s.cells.map U.rv)[40]?=some (.rv (.int .i64 s.bR.c)):=rfl
theorem kC (s:ai):(s.cells.drop 40)[0]?=some (.int .i64 s.bR.c):=rfl
theorem je (s:ai):(s.cells.map U.rv)[41]?=some (.rv (.int .i64 s.bR.d)):=rfl
theorem kD (s:ai):(s.cells.drop 41)[0]?=some (.int .i64 s.bR.d):=rfl
theorem gP (s:ai):(s.cells.map U.rv)[42]?=some (.rv (.bool s.cn)):=rfl
theorem kE (s:ai):(s.cells.drop 42)[0]?=some (.bool s.cn):=rfl
theorem jf (s:ai):(s.cells.map U.rv)[43]?=some (.rv (.bool s.uP)):=rfl
theorem kF (s:ai):(s.cells.drop 43)[0]?=some (.bool s.uP):=rfl
theorem jg (s:ai):(s.cells.map U.rv)[44]?=some (.rv (.int .i64 s.z)):=rfl
theorem kG (s:ai):(s.cells.drop 44)[0]?=some (.int .i64 s.z):=rfl
theorem jh (s:ai):(s.cells.map U.rv)[45]?=some (.rv (.bool s.clip)):=rfl
theorem kH (s:ai):(s.cells.drop 45)[0]?=some (.bool s.clip):=rfl
theorem ji (s:ai):(s.cells.map U.rv)[46]?=some (.rv (.int .i64 s.back)):=rfl
theorem kI (s:ai):(s.cells.drop 46)[0]?=some (.int .i64 s.back):=rfl
theorem jk (s:ai):(s.cells.map U.rv)[47]?=some (.rv (.int .i64 s.line)):=rfl
theorem kJ (s:ai):(s.cells.drop 47)[0]?=some (.int .i64 s.line):=rfl
theorem jr (s:ai):((s.cells.map U.rv).drop 10).take 2=s.width.cells.map U.rv:=rfl
theorem js (s:ai):((s.cells.map U.rv).drop 12).take 2=s.height.cells.map U.rv:=rfl
theorem jt (s:ai):((s.cells.map U.rv).drop 14).take 2=s.eW.cells.map U.rv:=rfl
theorem ju (s:ai):((s.cells.map U.rv).drop 16).take 2=s.eV.cells.map U.rv:=rfl
theorem jv (s:ai):((s.cells.map U.rv).drop 18).take 2=s.fm.cells.map U.rv:=rfl
theorem jx (s:ai):((s.cells.map U.rv).drop 20).take 2=s.fk.cells.map U.rv:=rfl
theorem jw (s:ai):((s.cells.map U.rv).drop 2).take 8=s.off.mu.map U.rv:=rfl
theorem jy (s:ai):((s.cells.map U.rv).drop 22).take 8=s.bC.mu.map U.rv:=rfl
theorem jz (s:ai):((s.cells.map U.rv).drop 30).take 8=s.pad.mu.map U.rv:=rfl
theorem jA (s:ai):((s.cells.map U.rv).drop 38).take 4=s.bR.ints.map U.rv:=rfl
theorem gO (s:ai):(s.cells.map U.rv).take 48=s.cells.map U.rv:=rfl
theorem ij (s:ai):((s.cells.map U.rv).drop 0).take 48=s.cells.map U.rv:=rfl
theorem ry {α:Type} {p:α→Bool} {l:List α} {k:Nat} (h:k<l.length) (hk:(l.drop k).all p=l.all p) (hp:p (l[k]'h)=true):(l.drop (k+1)).all p=l.all p:=by
 rw [← hk,List.drop_eq_getElem_cons h,List.all_cons,hp,Bool.true_and]
theorem ru {α:Type} {p:α→Bool} {l:List α} {k:Nat} (h:k<l.length) (hk:(l.drop k).all p=l.all p) (hp:p (l[k]'h)=false):l.all p=false:=by
 rw [← hk,List.drop_eq_getElem_cons h,List.all_cons,hp,Bool.false_and]
theorem rq {α:Type} {p:α→Bool} {l:List α} {k:Nat} (h:l.length≤k) (hk:(l.drop k).all p=l.all p):l.all p=true:=by
 rw [← hk,List.drop_of_length_le h];rfl
theorem vC (x:Nd):(x.cells.map U.rv)[48]?=some (.rv (.int .i64 x.parent)):=rfl
theorem qA (x:Nd):x.cells.take 49=x.cells:=rfl
theorem OL (s:ai):∀ r∈s.cells,r.one=true:=by
 intro r hr
 simp -implicitDefEqProofs only [ai.cells,List.mem_cons,List.not_mem_nil,or_false] at hr
 repeat' rcases hr with rfl | hr
 all_goals first | rfl | (subst hr;rfl)
theorem LU (x:Nd):∀ r∈x.cells,r.one=true:=by
 intro r hr
 rcases List.mem_append.1 hr with hr | hr
 ·exact OL _ r hr
 ·simp at hr;rw [hr];rfl
theorem yH (l:List Nd):∀ x∈ck l,∀ r∈x,r.one=true:=by
 intro x hx
 obtain ⟨n,_,rfl⟩:=List.mem_map.1 hx
 exact LU n
def aJ (ys:List Int):List (List RV):=ys.map fun n=>[.int .i64 n]
theorem aj (l:List Int):(aJ l).length=l.length:=by simp [aJ]
theorem nL {l:List Int} {i:Nat} (h:i<l.length):(aJ l)[i]?.getD []=[.int .i64 (l[i]'h)]:=by simp [aJ,h]
theorem mo (l:List Int):∀ x∈aJ l,∀ r∈x,r.one=true:=by
 intro x hx r hr
 obtain ⟨n,_,rfl⟩:=List.mem_map.1 hx
 simp at hr;rw [hr];rfl
theorem mm {l:List Int} {i:Nat} (h:i<l.length):(aJ l)[i]?.getD []=[.int .i64 (l.getD i 0)]:=by simp [aJ,h]
theorem nW {ys:List Int} {k:Nat} {v:Int}:(aH (aJ ys)).set k [.rv (.int .i64 v)]=aH (aJ (ys.set k v)):=by simp [aH,aJ,List.map_set]
theorem zj {n:Nat}:List.replicate n [U.rv (.int .i64 0)]=aH (aJ (List.replicate n 0)):=by simp [aH,aJ]
theorem vW {ys:List Int} {v:Int}:aH (aJ ys)++[[.rv (.int .i64 v)]]=aH (aJ (ys++[v])):=by simp [aH,aJ]
theorem cQ {k:Nat} (h:k<4611686018427387904):IntKind.i64.wrap ((k:Int)+1)=((k+1:Nat):Int):=by
 rw [wrap_i64 (by omega) (by omega)];omega
theorem zD {k:Nat} (h:0<k) (h2:k<4611686018427387904):IntKind.i64.wrap ((k:Int) - 1)=((k - 1:Nat):Int):=by
 rw [wrap_i64 (by omega) (by omega)];omega
end Go.aG

namespace Go.aG
open Go Go.Proofs
theorem DX {n:Nat} {rs:List RV} (h:fE Go.Proofs.Try.prog (n+1) 3 rs):∃ i,rs=[.int .i64 i]:=by
 obtain ⟨i,h,_⟩:=DU Try.underlying3 h
 exact ⟨i,h⟩
theorem oq {n:Nat} {rs:List RV} (h:fE Go.Proofs.Try.prog (n+1) 2 rs):∃ i,rs=[.int .i64 i]:=by
 obtain ⟨i,h,_⟩:=DU Try.underlying2 h
 exact ⟨i,h⟩
theorem wk {n:Nat} {rs:List RV} (h:fE Go.Proofs.Try.prog (n+1) 4 rs):∃ b,rs=[.bool b]:=by
 exact OS Try.underlying4 h
theorem mB {n:Nat} {rs:List RV} (h:fE Go.Proofs.Try.prog (n+2) 35 rs):∃ x:Ln,rs=x.cells:=by
 have h:=DV Try.underlying35 h
 obtain ⟨_,_,rfl,h1,_,_,rfl,h2,rfl⟩:=h
 obtain ⟨i,rfl⟩:=DX h1
 obtain ⟨j,rfl⟩:=oq h2
 exact ⟨⟨i,j⟩,rfl⟩
theorem Cq {α:Type} {xs:List α} (h:xs.length=4):∃ a b c d,xs=[a,b,c,d]:=by
 match xs,h with
 | [a,b,c,d],_=>exact ⟨a,b,c,d,rfl⟩
theorem zA {n:Nat} {rs:List RV} (h:fE Go.Proofs.Try.prog (n+3) 36 rs):∃ q:Q4 Ln,rs=q.mu:=by
 obtain ⟨xs,rfl,hl,hx⟩:=DT Try.underlying36 h
 obtain ⟨a,b,c,d,rfl⟩:=Cq hl
 obtain ⟨a,rfl⟩:=mB (hx a (by simp))
 obtain ⟨b,rfl⟩:=mB (hx b (by simp))
 obtain ⟨c,rfl⟩:=mB (hx c (by simp))
 obtain ⟨d,rfl⟩:=mB (hx d (by simp))
 exact ⟨⟨a,b,c,d⟩,rfl⟩
theorem OR {n:Nat} {rs:List RV} (h:fE Go.Proofs.Try.prog (n+2) 37 rs):∃ q:Q4 Int,rs=q.ints:=by
 obtain ⟨xs,rfl,hl,hx⟩:=DT Try.underlying37 h
 obtain ⟨a,b,c,d,rfl⟩:=Cq hl
 obtain ⟨a,rfl⟩:=oq (hx a (by simp))
 obtain ⟨b,rfl⟩:=oq (hx b (by simp))
 obtain ⟨c,rfl⟩:=oq (hx c (by simp))
 obtain ⟨d,rfl⟩:=oq (hx d (by simp))
 exact ⟨⟨a,b,c,d⟩,rfl⟩
theorem OT {n:Nat} {rs:List RV} (h:fE Go.Proofs.Try.prog (n+4) 39 rs):∃ s:ai,rs=s.cells:=by
 have h:=DV Try.underlying39 h
 obtain ⟨_,_,rfl,h1,_,_,rfl,h2,_,_,rfl,h3,_,_,rfl,h4,_,_,rfl,h5,_,_,rfl,h6,_,_,rfl,h7,_,_,rfl,h8,_,_,rfl,h9,_,_,rfl,Hq,_,_,rfl,Hr,_,_,rfl,h12,_,_,rfl,Hs,_,_,rfl,Ht,_,_,rfl,Hu,_,_,rfl,Hv,_,_,rfl,Hw,_,_,rfl,Hy,rfl⟩:=h
 obtain ⟨b1,rfl⟩:=wk h1
 obtain ⟨i2,rfl⟩:=DX h2
 obtain ⟨q3,rfl⟩:=zA h3
 obtain ⟨x4,rfl⟩:=mB h4
 obtain ⟨x5,rfl⟩:=mB h5
 obtain ⟨x6,rfl⟩:=mB h6
 obtain ⟨x7,rfl⟩:=mB h7
 obtain ⟨x8,rfl⟩:=mB h8
 obtain ⟨x9,rfl⟩:=mB h9
 obtain ⟨MN,rfl⟩:=zA Hq
 obtain ⟨MO,rfl⟩:=zA Hr
 obtain ⟨MP,rfl⟩:=OR h12
 obtain ⟨EJ,rfl⟩:=wk Hs
 obtain ⟨EK,rfl⟩:=wk Ht
 obtain ⟨i15,rfl⟩:=oq Hu
 obtain ⟨EL,rfl⟩:=wk Hv
 obtain ⟨i17,rfl⟩:=oq Hw
 obtain ⟨i18,rfl⟩:=oq Hy
 exact ⟨⟨b1,i2,q3,x4,x5,x6,x7,x8,x9,MN,MO,MP,EJ,EK,i15,EL,i17,i18⟩,rfl⟩
end Go.aG

namespace Go.aG
open Go Go.Proofs
theorem Er:bX Go.Proofs.Try.prog 39=some true:=by kernel_rfl
theorem Mh {rs:List RV} (h:fE Go.Proofs.Try.prog 4 39 rs):∃ s:ai,pN Go.Proofs.Try.prog 39 rs=s.sv:=by
 obtain ⟨s,rfl⟩:=OT h
 exact ⟨s,EG Er⟩
end Go.aG

namespace Go.aG
open Go
def bp (l:List Nd) (n:Nat):Int:=(l.getD n default).parent
theorem qB {l:List Nd} {n:Nat} (h:n<l.length):(l[n]'h).parent=bp l n:=by simp [bp,h]
def WF (l:List Nd) (k:Nat):Prop:=bp l 0 = -1∧∀ j,0<j→j<k→0≤bp l j∧bp l j<j
theorem WF.mono {l:List Nd} {k m:Nat} (h:WF l k) (hm:m≤k):WF l m:=⟨h.1,fun j a b=>h.2 j a (by omega)⟩
def br (l:List Nd) (n:Nat):List Nat:=if h:0≤bp l n∧bp l n<n then n::br l (bp l n).toNat else [n]
termination_by n
decreasing_by omega
theorem nU {l:List Nd} {n:Nat} (h:0≤bp l n∧bp l n<n):br l n=n::br l (bp l n).toNat:=by
 rw [br,dif_pos h]
theorem qF {l:List Nd} {n:Nat} (h:¬ (0≤bp l n∧bp l n<n)):br l n=[n]:=by
 rw [br,dif_neg h]
theorem yW {l:List Nd}:br l 0=[0]:=qF (by omega)
theorem CS {l:List Nd} {n:Nat}:∃ r,br l n=n::r:=by
 by_cases h:0≤bp l n∧bp l n<n
 ·exact ⟨_,nU h⟩
 ·exact ⟨_,qF h⟩
theorem yU {l:List Nd}:∀ n,(br l n).length≤n+1:=by
 intro n
 induction n using Nat.strongRecOn with
 | _ n ih=>
   by_cases h:0≤bp l n∧bp l n<n
   ·rw [nU h];have:=ih (bp l n).toNat (by omega);simp;omega
   ·rw [qF h];simp
theorem qE {l:List Nd}:∀ n x,x∈br l n→x≤n:=by
 intro n
 induction n using Nat.strongRecOn with
 | _ n ih=>
   intro x hx
   by_cases h:0≤bp l n∧bp l n<n
   ·rw [nU h] at hx
    rcases List.mem_cons.1 hx with rfl | hx
    ·omega
    ·have:=ih (bp l n).toNat (by omega) x hx;omega
   ·rw [qF h] at hx;simp at hx;omega
def fF (p:List Nat) (i:Nat):Int:=match p[i]? with
 | some x=>x
 | none=>-1
theorem zO {p:List Nat} {i:Nat} (h:i<p.length):fF p i=((p[i]'h:Nat):Int):=by simp [fF,h]
theorem EI {p:List Nat} {i:Nat} (h:p.length≤i):fF p i = -1:=by
 unfold fF;rw [List.getElem?_eq_none h]
theorem zN {p:List Nat} {i:Nat}:0≤fF p i↔i<p.length:=by
 by_cases h:i<p.length
 ·rw [zO h];simp [h]
 ·rw [EI (by omega)];simp;omega
theorem zP {l:List Nd} {n:Nat}:fF (br l n) 0=n:=by
 obtain ⟨r,h⟩:=CS (l:=l) (n:=n)
 simp [fF,h]
theorem Mo {l:List Nd} {k:Nat} (hw:WF l k):∀ n,n<k→∀ i,(h:i<(br l n).length)→bp l ((br l n)[i]'h)=fF (br l n) (i+1):=by
 intro n
 induction n using Nat.strongRecOn with
 | _ n ih=>
   intro hn i hi
   by_cases h:0≤bp l n∧bp l n<n
   ·have hp:=nU h
    cases i with
    | zero=>
      simp -implicitDefEqProofs only [hp,List.getElem_cons_zero]
      rw [show fF (n::br l (bp l n).toNat) (0+1)=fF (br l (bp l n).toNat) 0 from by simp [fF],zP]
      omega
    | succ i=>
      simp -implicitDefEqProofs only [hp,List.length_cons] at hi
      have:=ih (bp l n).toNat (by omega) (by omega) i (by omega)
      simp -implicitDefEqProofs only [hp,List.getElem_cons_succ]
      rw [show fF (n::br l (bp l n).toNat) (i+1+1)=fF (br l (bp l n).toNat) (i+1) from by simp [fF]]
      exact this
   ·have hp:=qF h
    have h0:n=0:=by
     rcases Nat.eq_zero_or_pos n with h0 | h0
     ·exact h0
     ·exact absurd (hw.2 n h0 hn) h
    subst h0
    simp -implicitDefEqProofs only [hp,List.length_singleton] at hi
    obtain rfl:i=0:=by omega
    simp -implicitDefEqProofs only [hp,List.getElem_cons_zero]
    rw [hw.1];rfl
theorem MM {l:List Nd} {k n i:Nat} (hn:n<k) (h:i<(br l n).length):(br l n)[i]'h<k:=by
 have:=qE n _ (List.getElem_mem h);omega
theorem ML {l:List Nd}:∀ n i,(h:i<(br l n).length)→(br l n).drop i=br l ((br l n)[i]'h):=by
 intro n
 induction n using Nat.strongRecOn with
 | _ n ih=>
   intro i hi
   by_cases h:0≤bp l n∧bp l n<n
   ·have hp:=nU h
    cases i with
    | zero=>simp [hp]
    | succ i=>
      simp -implicitDefEqProofs only [hp,List.length_cons] at hi
      simp -implicitDefEqProofs only [hp,List.drop_succ_cons,List.getElem_cons_succ]
      exact ih _ (by omega) i (by omega)
   ·have hp:=qF h
    simp -implicitDefEqProofs only [hp,List.length_singleton] at hi
    obtain rfl:i=0:=by omega
    simp [hp]
def kP (l:List Nd) (k:Nat):Option Nat:=(br l (k - 1)).findIdx? fun (j:Nat)=>decide ((j:Int)=bp l k)
def gJ (l:List Nd) (k:Nat):Bool:=decide (k=0) || (kP l k).isSome
def nY (l:List Nd):Bool:=decide (0<l.length) && decide (bp l 0 = -1) && (List.range l.length).all (gJ l)
def eM (l:List Nd):Bool:=nY l && l.all fun x=>gN x.s
theorem Ea {l:List Nd} {k:Nat} (h:(kP l k).isSome=true):0≤bp l k∧bp l k≤((k - 1:Nat):Int)∧(bp l k).toNat∈br l (k - 1):=by
 obtain ⟨i,hi⟩:=Option.isSome_iff_exists.1 h
 unfold kP at hi
 rw [List.findIdx?_eq_some_iff_getElem] at hi
 obtain ⟨hlt,hp,_⟩:=hi
 simp at hp
 have h1:=List.getElem_mem hlt
 have h2:=qE _ _ h1
 refine ⟨by omega,by omega,?_⟩
 rw [← hp];simp
theorem OW {l:List Nd} {k:Nat} (h0:0≤bp l k) (h:(bp l k).toNat∈br l (k - 1)):(kP l k).isSome=true:=by
 unfold kP
 rw [List.findIdx?_isSome,List.any_eq_true]
 exact ⟨_,h,by simp;omega⟩
theorem OU {l:List Nd} {k i:Nat} (h:i<(br l (k - 1)).length) (hp:(((br l (k - 1))[i]'h:Nat):Int)=bp l k) (hn:∀ j,(h:j<(br l (k - 1)).length)→j<i→(((br l (k - 1))[j]'h:Nat):Int)≠bp l k):kP l k=some i:=by
 unfold kP
 rw [List.findIdx?_eq_some_iff_getElem]
 exact ⟨h,by simpa using hp,fun j hj=>by simpa using hn j (by omega) hj⟩
theorem OV {l:List Nd} {k:Nat} (hn:∀ j,(h:j<(br l (k - 1)).length)→(((br l (k - 1))[j]'h:Nat):Int)≠bp l k):kP l k=none:=by
 unfold kP
 rw [List.findIdx?_eq_none_iff]
 intro x hx
 obtain ⟨j,hj,rfl⟩:=List.getElem_of_mem hx
 simpa using hn j hj
theorem Pd {l:List Nd} {k:Nat} (h0:bp l 0 = -1) (h:∀ j,j<k→gJ l j=true):WF l k:=by
 refine ⟨h0,fun j hj hk=>?_⟩
 have:=h j hk
 simp [gJ] at this
 rcases this with h | h
 ·omega
 ·have:=Ea h;omega
structure cZ (l:List Nd):Prop where
 pos:0<l.length
 root:bp l 0 = -1
 up:∀ j,0<j→j<l.length→0≤bp l j∧bp l j<j∧(bp l j).toNat∈br l (j - 1)
theorem cZ.wf {l:List Nd} (h:cZ l):WF l l.length:=⟨h.root,fun j a b=>⟨(h.up j a b).1,(h.up j a b).2.1⟩⟩
theorem zl {l:List Nd}:nY l=true↔cZ l:=by
 simp -implicitDefEqProofs only [nY,Bool.and_eq_true,decide_eq_true_eq,List.all_eq_true,List.mem_range]
 constructor
 ·rintro ⟨⟨h1,h2⟩,h3⟩
  refine ⟨h1,h2,fun j hj hl=>?_⟩
  have:=h3 j hl
  simp [gJ] at this
  rcases this with h | h
  ·omega
  ·obtain ⟨a,b,c⟩:=Ea h
   exact ⟨a,by omega,c⟩
 ·intro h
  refine ⟨⟨h.pos,h.root⟩,fun j hj=>?_⟩
  rcases Nat.eq_zero_or_pos j with h0 | h0
  ·simp [gJ,h0]
  ·obtain ⟨a,b,c⟩:=h.up j h0 hj
   simp [gJ,OW a c]
def depth (l:List Nd) (n:Nat):Nat:=(br l n).length
theorem Av {l:List Nd} {k n:Nat} (hw:WF l k) (h0:0<n) (hn:n<k):depth l n=depth l (bp l n).toNat+1:=by
 unfold depth;rw [nU (hw.2 n h0 hn)];simp
theorem Aw {l:List Nd}:depth l 0=1:=by simp [depth,yW]
def nr (l:List Nd):Int:=if eM l=false then 2 else if (decide (l.length>65535) || (List.range l.length).any (fun k=>decide (depth l k>256)) || l.any fun x=>!om x.s)=true then 3 else 0
end Go.aG

namespace Go.aG
open Go
def bK (l:List Nd) (k p:Nat):List Nat:=(List.range k).filter fun j=>decide (0<j) && decide (bp l j=p)
def dB (l:List Nd) (p:Nat):List Nat:=bK l l.length p
theorem yB {l:List Nd} {p:Nat}:bK l 0 p=[]:=rfl
theorem yA {l:List Nd} {k p:Nat}:bK l (k+1) p=bK l k p++if 0<k∧bp l k=p then [k] else []:=by
 by_cases h:0<k∧bp l k=p
 ·simp [bK,List.range_succ,h]
 ·rw [if_neg h]
  have:(decide (0<k) && decide (bp l k=p))=false:=by
   rw [Bool.eq_false_iff];simpa using h
  simp [bK,List.range_succ,this]
theorem vu {l:List Nd} {k p:Nat}:(bK l k p).length≤k:=by
 have:=List.length_filter_le (fun j=>decide (0<j) && decide (bp l j=p)) (List.range k)
 simpa [bK] using this
theorem qz {l:List Nd} {c p:Nat}:c∈dB l p↔0<c∧c<l.length∧bp l c=p:=by
 simp [dB,bK];omega
def cV (l:List Nd) (n:Nat):Nat:=match (dB l n).getLast? with
 | none=>n+1
 | some c=>if h:n<c∧c<l.length then cV l c else n+1
termination_by l.length - n
decreasing_by omega
theorem AA {l:List Nd} {n:Nat} (h:dB l n=[]):cV l n=n+1:=by
 rw [cV,h];rfl
theorem Az {l:List Nd} {n c:Nat} (h:(dB l n).getLast?=some c) (h1:n<c) (h2:c<l.length):cV l n=cV l c:=by
 rw [cV,h];simp [h1,h2]
def qN (l:List Nd) (n:Nat):Bool:=(l.getD n default).s.shown
theorem Np {l:List Nd} {n:Nat} (h:n<l.length):(l[n]'h).s.shown=qN l n:=by simp [qN,h]
def lH (l:List Nd) (n:Nat):Bool:=(br l n).all (qN l)
theorem LH {l:List Nd}:lH l 0=qN l 0:=by simp [lH,yW]
theorem LG {l:List Nd} {k n:Nat} (hw:WF l k) (h0:0<n) (hn:n<k):lH l n=(qN l n && lH l (bp l n).toNat):=by
 unfold lH;rw [nU (hw.2 n h0 hn)];rfl
end Go.aG

namespace Go.aG
open Go
theorem vw {l:List Nd} {n:Nat}:n∈br l n:=by obtain ⟨r,h⟩:=CS (l:=l) (n:=n);simp [h]
theorem yV {l:List Nd} {a n:Nat} (h:a∈br l n):∀ x,x∈br l a→x∈br l n:=by
 obtain ⟨i,hi,rfl⟩:=List.getElem_of_mem h
 intro x hx
 rw [← ML n i hi] at hx
 exact List.mem_of_mem_drop hx
theorem oX {l:List Nd} {k n m:Nat} (hw:WF l m) (h0:0<k) (hk:k<m):n∈br l k↔n=k∨n∈br l (bp l k).toNat:=by
 rw [nU (hw.2 k h0 hk)];simp
theorem LR {l:List Nd} {n:Nat}:n∈br l 0↔n=0:=by rw [yW];simp
theorem cZ.step {l:List Nd} (h:cZ l) {n k:Nat} (hk:k<l.length) (hn:n<k) (hm:n∈br l k):n∈br l (k - 1):=by
 rw [oX h.wf (by omega) hk] at hm
 rcases hm with hm | hm
 ·omega
 ·exact yV (h.up k (by omega) hk).2.2 n hm
theorem cZ.zU {l:List Nd} (h:cZ l) {n:Nat}:∀ k j,k<l.length→n∈br l k→n≤j→j≤k→n∈br l j:=by
 intro k
 induction k using Nat.strongRecOn with
 | _ k ih=>
   intro j hk hm h1 h2
   rcases Nat.lt_or_ge j k with uZ | uZ
   ·exact ih (k - 1) (by omega) j (by omega) (h.step hk (by omega) hm) h1 (by omega)
   ·obtain rfl:j=k:=by omega
    exact hm
theorem cZ.child {l:List Nd} (h:cZ l) {n:Nat}:∀ k,k<l.length→n∈br l k→n≠k→∃ c,c∈dB l n∧c∈br l k:=by
 intro k
 induction k using Nat.strongRecOn with
 | _ k ih=>
   intro hk hm hne
   rcases Nat.eq_zero_or_pos k with h0 | h0
   ·subst h0;rw [LR] at hm;exact absurd hm hne
   ·obtain ⟨p1,p2,_⟩:=h.up k h0 hk
    rw [oX h.wf h0 hk] at hm
    rcases hm with hm | hm
    ·exact absurd hm hne
    ·by_cases hp:n=(bp l k).toNat
     ·exact ⟨k,qz.2 ⟨h0,hk,by omega⟩,vw⟩
     ·obtain ⟨c,c1,c2⟩:=ih (bp l k).toNat (by omega) (by omega) hm hp
      exact ⟨c,c1,(oX h.wf h0 hk).2 (.inr c2)⟩
theorem Le {l:List Nd} {n c:Nat} (h:(dB l n).getLast?=some c):∀ x∈dB l n,x≤c:=by
 have key:∀ k,∀ c,(bK l k n).getLast?=some c→∀ x∈bK l k n,x≤c:=by
  intro k
  induction k with
  | zero=>intro c h;simp [yB] at h
  | succ k ih=>
    intro c h x hx
    rw [yA] at h hx
    by_cases hc:0<k∧bp l k=n
    ·rw [if_pos hc] at h hx
     simp at h
     subst h
     rcases List.mem_append.1 hx with hx | hx
     ·simp [bK] at hx;omega
     ·simp at hx;omega
    ·rw [if_neg hc,List.append_nil] at h hx
     exact ih c h x hx
 exact key _ c h
theorem cZ.ends {l:List Nd} (h:cZ l):∀ m n,l.length - n=m→n<l.length→n<cV l n∧cV l n≤l.length∧∀ k,k<l.length→(n∈br l k↔n≤k∧k<cV l n):=by
 intro m
 induction m using Nat.strongRecOn with
 | _ m ih=>
   intro n hm hn
   cases hl:(dB l n).getLast? with
   | none=>
     have dX:dB l n=[]:=List.getLast?_eq_none_iff.1 hl
     rw [AA dX]
     refine ⟨by omega,hn,fun k hk=>⟨fun hm=>?_,fun hb=>?_⟩⟩
     ·refine ⟨qE _ _ hm,?_⟩
      apply Classical.byContradiction
      intro hc
      obtain ⟨c,c1,_⟩:=h.child k hk hm (by omega)
      rw [dX] at c1;simp at c1
     ·obtain rfl:k=n:=by omega
      exact vw
   | some c=>
     have lp:c∈dB l n:=List.mem_of_getLast? hl
     obtain ⟨c1,c2,c3⟩:=qz.1 lp
     have hnc:n<c:=by have:=(h.up c c1 c2).2.1;omega
     rw [Az hl hnc c2]
     obtain ⟨e1,e2,e3⟩:=ih (l.length - c) (by omega) c rfl c2
     have BB:n∈br l c:=(oX h.wf c1 c2).2 (.inr (by rw [c3,Int.toNat_natCast];exact vw))
     refine ⟨by omega,e2,fun k hk=>⟨fun hm=>?_,fun hb=>?_⟩⟩
     ·refine ⟨qE _ _ hm,?_⟩
      rcases Nat.lt_or_ge k (c+1) with hkc | hkc
      ·omega
      ·obtain ⟨c',d1,d2⟩:=h.child k hk hm (by omega)
       have hle:=Le hl c' d1
       obtain ⟨g1,g2,g3⟩:=qz.1 d1
       by_cases HN:c'=c
       ·subst HN;exact ((e3 k hk).1 d2).2
       ·have:=h.zU k c hk d2 (by omega) (by omega)
        rw [oX h.wf c1 c2,c3,Int.toNat_natCast] at this
        rcases this with t | t
        ·omega
        ·have:=qE _ _ t
         have:=(h.up c' g1 g2).2.1
         omega
     ·rcases Nat.lt_or_ge k c with hkc | hkc
      ·exact h.zU c k c2 BB hb.1 (by omega)
      ·exact yV ((e3 k hk).2 ⟨hkc,hb.2⟩) n BB
theorem cZ.below {l:List Nd} (h:cZ l) {n k:Nat} (hn:n<l.length) (hk:k<l.length):n∈br l k↔n≤k∧k<cV l n:=(h.ends _ n rfl hn).2.2 k hk
theorem cZ.rK {l:List Nd} (h:cZ l) {n:Nat} (hn:n<l.length):n<cV l n∧cV l n≤l.length:=⟨(h.ends _ n rfl hn).1,(h.ends _ n rfl hn).2.1⟩
end Go.aG

namespace Go.aG
open Go
theorem KQ:aV Go.Proofs.Try.prog 78 21 (fc Go.Proofs.Try.prog 78 21 [(.t 2)]) [(.t 2)]:=bh (by kernel_rfl)
theorem KT:aV Go.Proofs.Try.prog 61 14 (fc Go.Proofs.Try.prog 61 14 [(.t 4)]) [(.t 4)]:=bh (by kernel_rfl)
theorem Ox (x:Ln):aI Go.Proofs.Try.prog 78 [x.sv] [] [] (.rv (.bool (sN x))):=by
 refine gR KQ [] [] [] [x.sv] [x.sv] [] _ (by simp) (by simp [aP,Ln.sv,Ln.cells,bg,aZ]) rfl (by simp [bG]) (by simp [cU]) (fun K hK=>?_)
 conv in fc _ _ _ _=>reduce
 simp -implicitDefEqProofs only [Ln.sv,Ln.cells,go_sem,Int.reduceNegSucc]
 repeat' (first | (simp -implicitDefEqProofs only [go_sem,Int.reduceNegSucc]) | (with_reducible refine aF ?_) | ((first | refine ak (fun hg=>?_) (fun hg=>?_) | refine aC (fun hg=>?_) (fun hg=>?_) | refine aD (fun hg=>?_) (fun hg=>?_)) <;> try simp -implicitDefEqProofs only [hg,Bool.not_true,Bool.not_false]) | ((with_reducible apply And.intro);focus (first | trivial | omega | decide | (simp -implicitDefEqProofs only [maxLen];omega) | (simp [maxLen,aq,av,ax,aE,aj,ay,aB] <;> omega))) | fail)
 all_goals (try ((first | refine (hK _ _ _ _ [] (cW _ _) ?_).2 | refine (hK _ _ ?_).2 | refine (hK _ _ _ _ [] (cW _ _) ?_).1 | refine (hK _ _ ?_).1 | fail);clear hK;(simp_all [dh,bG,newL,dn,cY,bq,bk,lk,bA,cB,cL,cE,dH,dG,ag,di,bI,aO,cO,dj,dU,aQ,dS,aN,cP,cG,cz,sN]) <;> try omega))
theorem zq (n m:Int) (hm:0≤m) (hm2:m<4611686018427387904):aI Go.Proofs.Try.prog 61 [.rv (.int .i64 n),.rv (.int .i64 m)] [] [] (.rv (.bool (qv n m))):=by
 refine Fa KT [.int .i64 n,.int .i64 m] _ (by simp) (fun K hK=>?_)
 have e1:IntKind.i64.wrap (0 - m) = -m:=by rw [wrap_i64 (by omega) (by omega)];omega
 conv in fc _ _ _ _=>reduce
 simp -implicitDefEqProofs only [e1,go_sem,Int.reduceNegSucc]
 repeat' (first | (simp -implicitDefEqProofs only [go_sem,Int.reduceNegSucc]) | (with_reducible refine aF ?_) | ((first | refine ak (fun hg=>?_) (fun hg=>?_) | refine aC (fun hg=>?_) (fun hg=>?_) | refine aD (fun hg=>?_) (fun hg=>?_)) <;> try simp -implicitDefEqProofs only [hg,Bool.not_true,Bool.not_false]) | ((with_reducible apply And.intro);focus (first | trivial | omega | decide | (simp -implicitDefEqProofs only [maxLen];omega) | (simp [maxLen,aq,av,ax,aE,aj,ay,aB] <;> omega))) | fail)
 all_goals (try ((first | refine (hK _ _ _ _ [] (cW _ _) ?_).2 | refine (hK _ _ ?_).2 | refine (hK _ _ _ _ [] (cW _ _) ?_).1 | refine (hK _ _ ?_).1 | fail);clear hK;(simp_all [dh,bG,newL,dn,cY,bq,bk,lk,bA,cB,cL,cE,dH,dG,ag,di,bI,aO,cO,dj,dU,aQ,dS,aN,cP,cG,cz,qv]) <;> try omega))
end Go.aG

namespace Go.aG
open Go
theorem KS:aV Go.Proofs.Try.prog 79 15 (fc Go.Proofs.Try.prog 79 15 []) []:=bh (by kernel_rfl)
theorem KR:aV Go.Proofs.Try.prog 60 43 (fc Go.Proofs.Try.prog 60 43 [(.t 2)]) [(.t 2)]:=bh (by kernel_rfl)
def upto (o:Nat) (k:Nat):List Nat:=(List.range k).map fun q=>o+q*2
theorem OZ {o k:Nat}:upto o (k+1)=upto o k++[o+k*2]:=by simp [upto,List.range_succ]
theorem Ee {o k:Nat}:(upto o k).length=k:=by simp [upto]
theorem zo (i j m o v:Nat) (cs:List RV) (os:List Nat) (h1:i≠j) (h2:i≠m) (h3:j≠m) (hb:os.length<1000) :
 aI Go.Proofs.Try.prog 79 [.ptr i o,.ptr j 0] [(i,.var (cs.map .rv)),(j,.var [.row m v os.length]),(m,.row 1 v (cN i os))] [(j,.var [.row m (v+4) (os.length+4)]),(m,.row 1 (v+4) (cN i (os++upto o 4)))] (.aM []):=by
 refine tV KS [i,j,m] [.var (cs.map .rv),.var [.row 2 v os.length],.row 1 v (cN 0 os)] [.var (cs.map .rv),.var [.row m v os.length],.row 1 v (cN i os)] [.ptr 0 o,.ptr 1 0] _ _ _ (by simp) (by simp [aP,fH,fA,aZ,bg,kV,bn,kW,kU,cU,ig,bG]) rfl (by simp [bG,h1,h2,h3]) rfl (Et zX (wJ (by simp [aP,fH,fA,aZ,bg,kV,bn,kW,kU,cU,ig,bG,fA])) (EP rfl)) (fun K hK=>?_)
 conv in fc _ _ _ _=>reduce
 simp -implicitDefEqProofs only [go_sem,Int.reduceNegSucc]
 refine dN (ι:=Nat) (fun k=>[(4,.rv (.int .i64 k)),(0,.ptr 0 o),(1,.ptr 1 0)]) (fun k=>[some (.var (cs.map .rv)),some (.var [.row 2 (v+k) (os.length+k)]),some (.row 1 (v+k) (cN 0 (os++upto o k)))]) (fun k=>k≤4) (fun k=>4 - k) 0 (by simp) (by simpa [upto] using bV (by simp [lk])) (fun k hk K' hN hX hR=>?_)
 simp -implicitDefEqProofs only [go_sem,Int.reduceNegSucc]
 refine ak (fun hg=>?_) (fun hg=>?_)
 ·have aK:k<4:=by simp at hg;omega
  have d1:List.take (os.length+k) (cN 0 (os++upto o k))++[[U.ptr 0 (o+k*2)]]=cN 0 (os++upto o (k+1)):=by
   rw [OZ,List.take_of_length_le (by simp [CU,Ee])]
   simp [cN]
  simp -implicitDefEqProofs only [CU,List.length_append,Ee,go_sem,Int.reduceNegSucc]
  repeat' (first | (simp -implicitDefEqProofs only [go_sem,Int.reduceNegSucc]) | (with_reducible refine aF ?_) | ((first | refine ak (fun hg=>?_) (fun hg=>?_) | refine aC (fun hg=>?_) (fun hg=>?_) | refine aD (fun hg=>?_) (fun hg=>?_)) <;> try simp -implicitDefEqProofs only [hg,Bool.not_true,Bool.not_false]) | ((with_reducible apply And.intro);focus (first | trivial | omega | decide | (simp -implicitDefEqProofs only [maxLen];omega) | (simp [maxLen,aq,av,ax,aE,aj,ay,aB] <;> omega))) | fail)
  rw [d1,cQ (by omega)]
  refine hN (k+1) _ _ (by omega) (by omega) (pZ _ (by simp) ?_ ?_)
  ·simp [mT,ag,cB,aN,cO,cI,vS,cG,Nat.add_assoc]
  ·simp [lk,aO,dj,cI]
 ·have aK:k=4:=by simp at hg;omega
  subst aK
  simp -implicitDefEqProofs only [go_sem,Int.reduceNegSucc]
  refine hX _ _ _ ?_
  repeat' (first | (simp -implicitDefEqProofs only [go_sem,Int.reduceNegSucc]) | (with_reducible refine aF ?_) | ((first | refine ak (fun hg=>?_) (fun hg=>?_) | refine aC (fun hg=>?_) (fun hg=>?_) | refine aD (fun hg=>?_) (fun hg=>?_)) <;> try simp -implicitDefEqProofs only [hg,Bool.not_true,Bool.not_false]) | ((with_reducible apply And.intro);focus (first | trivial | omega | decide | (simp -implicitDefEqProofs only [maxLen];omega) | (simp [maxLen,aq,av,ax,aE,aj,ay,aB] <;> omega))) | fail)
  refine (hK _ _ _ _ [] (cW _ _) ?_).1
  simp [dh,bG,newL,dn,cY,bq,bk,lk,bA,cB,cL,cE,dH,dG,ag,di,bI,aO,cO,dj,dU,aQ,dS,aN,cP,cG,h1,h2,h3,Ne.symm h1,Ne.symm h2,Ne.symm h3,cO,vS,cG]
theorem Oq (i j m o:Nat) (cs:List RV) (h1:i≠j) (h2:i≠m) (h3:j≠m) :
 aI Go.Proofs.Try.prog 79 [.ptr i o,.ptr j 0] [(j,.var [.rv .bO]),(i,.var (cs.map .rv))] [(j,.var [.row m 4 4]),(m,.row 1 4 (cN i (upto o 4)))] (.aM []):=by
 have:=zo i j m o 0 cs [] h1 h2 h3 (by simp)
 simp -implicitDefEqProofs only [List.length_nil,Nat.zero_add,List.nil_append] at this
 refine Fc (e:=1) (o:=0) (m:=m) rfl (by simp [h1,h2]) (Ne.symm h3) (by simp) (by simp) (Fg this ?_)
 intro q
 simp [cN]
 constructor
 ·rintro (h | h | h) <;> simp [h]
 ·rintro (h | h | h) <;> simp [h]
def hJ:List Nat:=[2,4,6,8,10,12,14,16,18,20,22,24,26,28,30,32,34,36]
theorem DC (i m:Nat) (s:ai) (h1:i≠m) :
 aI Go.Proofs.Try.prog 60 [.ptr i 0] [(i,.var (s.cells.map .rv))] [(m,.row 1 13 (cN i hJ))] (.row m 13 18):=by
 refine tV KR [i] [.var (s.cells.map .rv)] [.var (s.cells.map .rv)] [.ptr 0 0] _ _ _ (by simp) (by simp [aP,fH,fA,aZ,bg,kV,bn,kW,kU,cU,ig,bG]) rfl (by simp [bG]) rfl (fun j x y hx hy=>by
  match j with
  | 0=>simp at hx hy;subst hx;subst hy;exact zX
  | j+1=>simp at hx) (fun K hK=>?_)
 conv in fc _ _ _ _=>reduce
 simp -implicitDefEqProofs only [go_sem,Int.reduceNegSucc]
 refine ct (Oq 0 1 2 2 s.cells (by decide) (by decide) (by decide)) (by simp [aS,ag]) (by simp [aW,aT]) ?_
 repeat' (first | (simp -implicitDefEqProofs only [go_sem,Int.reduceNegSucc]) | (with_reducible refine aF ?_) | ((first | refine ak (fun hg=>?_) (fun hg=>?_) | refine aC (fun hg=>?_) (fun hg=>?_) | refine aD (fun hg=>?_) (fun hg=>?_)) <;> try simp -implicitDefEqProofs only [hg,Bool.not_true,Bool.not_false]) | ((with_reducible apply And.intro);focus (first | trivial | omega | decide | (simp -implicitDefEqProofs only [maxLen];omega) | (simp [maxLen,aq,av,ax,aE,aj,ay,aB] <;> omega))) | fail)
 rw [show List.take 4 (cN 0 (upto 2 4))++[[U.ptr 0 10],[U.ptr 0 12],[U.ptr 0 14],[U.ptr 0 16],[U.ptr 0 18],[U.ptr 0 20]]=cN 0 [2,4,6,8,10,12,14,16,18,20] from rfl]
 refine ct (zo 0 1 2 22 5 s.cells [2,4,6,8,10,12,14,16,18,20] (by decide) (by decide) (by decide) (by decide)) (by simp [aS,ag]) (by simp [aW,aT]) ?_
 repeat' (first | (simp -implicitDefEqProofs only [go_sem,Int.reduceNegSucc]) | (with_reducible refine aF ?_) | ((first | refine ak (fun hg=>?_) (fun hg=>?_) | refine aC (fun hg=>?_) (fun hg=>?_) | refine aD (fun hg=>?_) (fun hg=>?_)) <;> try simp -implicitDefEqProofs only [hg,Bool.not_true,Bool.not_false]) | ((with_reducible apply And.intro);focus (first | trivial | omega | decide | (simp -implicitDefEqProofs only [maxLen];omega) | (simp [maxLen,aq,av,ax,aE,aj,ay,aB] <;> omega))) | fail)
 refine ct (zo 0 1 2 30 9 s.cells [2,4,6,8,10,12,14,16,18,20,22,24,26,28] (by decide) (by decide) (by decide) (by decide)) (by simp [aS,ag,upto,List.range_succ]) (by simp [aW,aT]) ?_
 repeat' (first | (simp -implicitDefEqProofs only [go_sem,Int.reduceNegSucc]) | (with_reducible refine aF ?_) | ((first | refine ak (fun hg=>?_) (fun hg=>?_) | refine aC (fun hg=>?_) (fun hg=>?_) | refine aD (fun hg=>?_) (fun hg=>?_)) <;> try simp -implicitDefEqProofs only [hg,Bool.not_true,Bool.not_false]) | ((with_reducible apply And.intro);focus (first | trivial | omega | decide | (simp -implicitDefEqProofs only [maxLen];omega) | (simp [maxLen,aq,av,ax,aE,aj,ay,aB] <;> omega))) | fail)
 refine (hK _ _ _ _ [none,some m,none] (cW _ _) ?_).2
 rw [show 2::4::6::8::10::12::14::16::18::20::22::24::26::28::upto 30 4=hJ from rfl]
 simp [dh,bG,newL,dn,cY,bq,bk,lk,bA,cB,cL,cE,dH,dG,ag,di,bI,aO,cO,dj,dU,aQ,dS,aN,cP,cG,h1,Ne.symm h1,cO,vS,cG]
end Go.aG
