/- Part 2 of the proof: EngO, EngP, EngQ, EngR, EngS, EngT, EngU, EngV, EngW, EngX, EngY, EngZ, EngZa, EngZb, EngZc, EngZd, K0, KF, T0, T1, T2, K1, K2. -/
import Derived.Test.YtnaoehbodmiekaaGreatPlaceAlone1
import Derived.ProofKit
import Derived.OpenShut
import Derived.Below
import Derived.Test.YtnaoehbodmiekaaGreatProg
import Derived.KernelRfl
set_option linter.unusedSimpArgs false
set_option linter.unusedVariables false
set_option maxRecDepth 100000
set_option maxHeartbeats 16000000
namespace Go.aJ
open Go
structure St where
 env:List (Nat×SV)
 h:List (Option HB)
def lk:List (Nat×SV)→Nat→SV
 | [],_=>.dead
 | (m,v)::r,n=>if m=n then v else lk r n
def aB (h:List (Option HB)) (id:Nat):Option HB:=match h[id]? with
 | some x=>x
 | none=>none
def gu (dst:Option Nat) (v:SV) (env:List (Nat×SV)):List (Nat×SV):=match dst with
 | some d=>(d,v)::env
 | none=>env
def aQ (h:List (Option HB)) (q:Nat×HB):List (Option HB):=if q.1=h.length then h++[some q.2] else h.set q.1 (some q.2)
def xB (h:List (Option HB)):Option (Nat×HB)→List (Option HB)
 | none=>h
 | some q=>aQ h q
def mA:List (Option HB)→List (Nat×HB)→List (Option HB)
 | h,[]=>h
 | h,q::r=>mA (aQ h q) r
def aV (pre:List (Nat×HB)):List (Option HB)→List (Nat×HB)→Prop
 | _,[]=>True
 | h,q::r=>(q.1=h.length∨(q.1<h.length∧∃ hb,(q.1,hb)∈pre))∧aV pre (aQ h q) r
theorem wV (env:List (Nat×SV)) (d:Nat) (v:SV):lk ((d,v)::env)=up (lk env) d v:=by
 funext n
 simp only [lk,up]
 by_cases h:d=n
 ·simp [h]
 ·rw [if_neg h,if_neg (Ne.symm h)]
theorem ve (h:List (Option HB)) (q:Nat×HB):h.length≤(aQ h q).length:=by
 unfold aQ;split <;> simp
theorem zb {h:List (Option HB)} {q:Nat×HB} (hq:q.1≤h.length):aB (aQ h q)=up (aB h) q.1 (some q.2):=by
 funext id
 unfold aQ aB up
 by_cases he:q.1=h.length
 ·rw [if_pos he]
  by_cases hi:id=q.1
  ·subst hi;simp [he]
  ·rw [if_neg hi]
   show _=(match h[id]? with | some x=>x | none=>none)
   by_cases hl:id<h.length
   ·rw [List.getElem?_append_left hl]
   ·rw [List.getElem?_append_right (by omega),List.getElem?_eq_none (l:=h) (by omega),List.getElem?_eq_none (by simp;omega)]
 ·rw [if_neg he,List.getElem?_set]
  by_cases hi:id=q.1
  ·subst hi
   have:q.1<h.length:=by omega
   simp [this]
  ·rw [if_neg (Ne.symm hi),if_neg hi]
theorem vR {pre:List (Nat×HB)}:∀ {us:List (Nat×HB)} {h:List (Option HB)},aV pre h us→aB (mA h us)=bP (aB h) us∧h.length≤(mA h us).length
 | [],h,_=>⟨rfl,Nat.le_refl _⟩
 | q::r,h,hk=>by
   obtain ⟨h1,h2⟩:=hk
   have hle:q.1≤h.length:=by rcases h1 with h1 | ⟨h1,_⟩ <;> omega
   obtain ⟨g1,g2⟩:=vR h2
   refine ⟨?_,Nat.le_trans (ve h q) g2⟩
   obtain ⟨id,hb⟩:=q
   rw [mA,g1,zb hle];rfl
structure jE (C:Ctx) (n0:Nat) (s:St) (a:Act) (w:World):Prop where
 rep:∃ aa,kg C (lk s.env) (aB s.h) a w aa
 wR:n0≤s.h.length
 h0:∀ id,n0≤id→C.h0 id=none
theorem HJ {C:Ctx} {n0:Nat} {s:St} {a:Act} {w:World} (R:jE C n0 s a w) {pre:List (Nat×HB)}:∀ {us:List (Nat×HB)} {h:List (Option HB)},s.h.length≤h.length→aV pre h us→so C (aB s.h) pre us
 | [],h,_,_=>fun q hq=>by simp at hq
 | p::r,h,hl,hk=>fun q hq=>by
   rcases List.mem_cons.1 hq with rfl | hq
   ·rcases hk.1 with h1 | ⟨_,h1⟩
    ·refine .inr ⟨?_,R.h0 _ (by have:=R.wR;omega)⟩
     unfold aB
     rw [List.getElem?_eq_none (by omega)]
    ·exact .inl h1
   ·exact HJ R (h:=aQ h p) (by have:=ve h p;omega) hk.2 q hq
theorem Iq {w:World} {ok:Nat→Prop} {aa:Nat→Option Nat} {hp:Hp}:Rp w ok aa hp (.aO []) undef:=.aO [] [] rfl (fun j y hj=>by simp at hj)
theorem TV {w:World} {ok:Nat→Prop} {aa:Nat→Option Nat} {hp:Hp} {v:Value} (h:Rp w ok aa hp (.aO []) v):v=undef:=by
 cases h with
 | aO _ vs hl _=>
   have:vs=[]:=List.eq_nil_of_length_eq_zero (by simpa using hl)
   subst this;rfl
def kZ (en:Nat→SV):Option (Nat×Bool)→Option Bool
 | none=>some true
 | some (d,b)=>match en d with
   | .rv (.bool t)=>some (t == b)
   | .aO []=>some false
   | _=>none
def qO (P:Program) (f:FuncId) (args:List SV) (h:List (Option HB)) (K:SV→List (Option HB)→Prop):Prop:=
 ∃ pre us sv,aL P f args pre us sv∧aR (aB h) pre∧aV pre h us∧K sv (mA h us)
def yp (P:Program) (h:List (Option HB)) (K:SV→List (Option HB)→Prop):List SV→Prop
 | .fn f caps::args=>qO P f (args++caps) h K
 | .fK f caps::args=>qO P f (caps++args) h K
 | _=>False
def wK (P:Program) (name:String) (h:List (Option HB)) (K:SV→List (Option HB)→Prop):List SV→Prop
 | s::args=>match oR s with
   | some (t,x)=>match oT P t name with
     | some (f,none)=>qO P f (x::args) h K
     | some (f,some (n,agg))=>match gE n agg (aB h) x with
       | some (p,y,_,_)=>p∧qO P f (y::args) h K
       | none=>False
     | none=>False
   | none=>False
 | _=>False
def zV (h:List (Option HB)) (K:SV→List (Option HB)→Prop):XR→Prop
 | some (p,sv,u,_)=>p∧K sv (xB h u)
 | none=>False
def tD (P:Program) (ao:AO) (args:List SV) (h:List (Option HB)) (K:SV→List (Option HB)→Prop):Prop:=
 match ao with
 | .call f=>qO P f args h K
 | .oB=>yp P h K args
 | .inv name=>wK P name h K args
 | ao=>zV h K (bY ao args (aB h) h.length)
def RW (P:Program) (K:St→Prop):List bH→St→Prop
 | [],s=>K s
 | op::r,s=>match kZ (lk s.env) op.guard with
   | some true=>tD P op.ao (op.xs.map (jq (lk s.env))) s.h fun sv h'=>RW P K r ⟨gu op.dst sv s.env,h'⟩
   | some false=>RW P K r ⟨gu op.dst (.aO []) s.env,s.h⟩
   | none=>False
theorem Hi {n:Nat} {agg:Bool} {hp:Hp} {x y:SV} {p:Prop} {u:Option (Nat×HB)} {rd:List Nat} (h:gE n agg hp x=some (p,y,u,rd)):∀ id∈rd,(hp id).isSome=true:=by
 unfold gE at h
 repeat' split at h
 all_goals first | (cases h;done) | (cases h;simp [*])
def uM (h:List (Option HB)) (rd:List Nat):List (Nat×HB):=rd.filterMap fun id=>(aB h id).map fun hb=>(id,hb)
theorem Gq {P:Program} {o:Oper} {name:String} {s x y:SV} {t:TypeId} {args:List SV} {f:FuncId} {n:Nat} {agg:Bool} {gT:List Operand} (hc:kY P o.op=some (.inv name,gT)) (hi:oR s=some (t,x)) (hf:oT P t name=some (f,some (n,agg))) {h:List (Option HB)} {p:Prop} {u:Option (Nat×HB)} {rd:List Nat} (hE:gE n agg (aB h) x=some (p,y,u,rd)) (aE:p)
 {pre us:List (Nat×HB)} {sv:SV} (H:aL P f (y::args) pre us sv) (h2:aR (aB h) pre) (h3:aV pre h us):pI P o (s::args) (uM h rd++pre) us sv∧aR (aB h) (uM h rd++pre)∧aV (uM h rd++pre) h us:=by
 have hrd:=Hi hE
 have hpre:aR (aB h) (uM h rd++pre):=fun q hq=>by
  rcases List.mem_append.1 hq with hq | hq
  ·obtain ⟨id,_,hid⟩:=List.mem_filterMap.1 hq
   cases fX:aB h id with
   | none=>simp [fX] at hid
   | some hb=>simp [fX] at hid;subst hid;exact fX
  ·exact h2 q hq
 have Td:∀ {us:List (Nat×HB)} {h':List (Option HB)},aV pre h' us→aV (uM h rd++pre) h' us:=by
  intro us
  induction us with
  | nil=>intro h' _;trivial
  | cons q r ih=>
    intro h' hk
    refine ⟨hk.1.imp (fun h=>h) (fun ⟨a,hb,hm⟩=>⟨a,hb,List.mem_append.2 (.inr hm)⟩),ih hk.2⟩
 refine ⟨CU hc hi hf (y:=y) (fun hp hP=>?_) (zW:=pre) (fun q hq=>List.mem_append.2 (.inr hq)) H (fun C hp hnew hP q hq=>?_),hpre,Td h3⟩
 ·refine ⟨p,u,rd,Hh hE (fun id hid=>?_),aE⟩
  obtain ⟨hb,pV⟩:=Option.isSome_iff_exists.1 (hrd id hid)
  rw [pV]
  exact hP (id,hb) (List.mem_append.2 (.inl (List.mem_filterMap.2 ⟨id,hid,by simp [pV]⟩)))
 ·rcases hnew q hq with ⟨hb,hm⟩ | hn
  ·rcases List.mem_append.1 hm with hm | hm
   ·
    have:∀ {us:List (Nat×HB)} {h':List (Option HB)},aV pre h' us→∀ q∈us,(∃ hb,(q.1,hb)∈pre)∨h'.length≤q.1:=by
     intro us
     induction us with
     | nil=>intro h' _ q hq;simp at hq
     | cons r l ih=>
       intro h' hk q hq
       rcases List.mem_cons.1 hq with rfl | hq
       ·rcases hk.1 with h1 | ⟨_,h1⟩
        ·exact .inr (by omega)
        ·exact .inl h1
       ·rcases ih hk.2 q hq with h1 | h1
        ·exact .inl h1
        ·exact .inr (by have:=ve h' r;omega)
    rcases this h3 q hq with h1 | h1
    ·exact .inl h1
    ·exfalso
     obtain ⟨id,_,hid⟩:=List.mem_filterMap.1 hm
     cases fX:aB h id with
     | none=>simp [fX] at hid
     | some hb'=>
       simp [fX] at hid
       have:id<h.length:=by
        unfold aB at fX
        cases hl:h[id]? with
        | none=>simp [hl] at fX
        | some x=>exact (List.getElem?_eq_some_iff.1 hl).1
       omega
   ·exact .inl ⟨hb,hm⟩
  ·exact .inr hn
theorem Ti {P:Program} {o:Oper} {ao:AO} {gT:List Operand} (hc:kY P o.op=some (ao,gT)) {args:List SV} {h:List (Option HB)} {K:SV→List (Option HB)→Prop} (hW:tD P ao args h K) :
 ∃ pre us sv,pI P o args pre us sv∧aR (aB h) pre∧aV pre h us∧K sv (mA h us):=by
 unfold tD at hW
 split at hW
 ·obtain ⟨pre,us,sv,h1,h2,h3,h4⟩:=hW
  exact ⟨pre,us,sv,HL hc h1,h2,h3,h4⟩
 ·unfold yp at hW
  split at hW
  ·obtain ⟨pre,us,sv,h1,h2,h3,h4⟩:=hW
   exact ⟨pre,us,sv,HN hc h1,h2,h3,h4⟩
  ·obtain ⟨pre,us,sv,h1,h2,h3,h4⟩:=hW
   exact ⟨pre,us,sv,HM hc h1,h2,h3,h4⟩
  ·exact hW.elim
 ·unfold wK at hW
  split at hW
  ·rename_i s jc
   split at hW
   ·rename_i t x hi
    split at hW
    ·rename_i f hf
     obtain ⟨pre,us,sv,h1,h2,h3,h4⟩:=hW
     exact ⟨pre,us,sv,CU hc hi hf (y:=x) (fun hp hP=>rfl) (fun q hq=>hq) h1 (fun C hp hn _=>hn),h2,h3,h4⟩
    ·rename_i f n agg hf
     split at hW
     ·rename_i p y u rd hE
      obtain ⟨aE,pre,us,sv,h1,h2,h3,h4⟩:=hW
      obtain ⟨g1,g2,g3⟩:=Gq hc hi hf hE aE h1 h2 h3
      exact ⟨_,us,sv,g1,g2,g3,h4⟩
     ·exact hW.elim
    ·exact hW.elim
   ·exact hW.elim
  ·exact hW.elim
 ·unfold zV at hW
  split at hW
  ·rename_i p sv u rd hE
   obtain ⟨hp,hK⟩:=hW
   have oL:aB h h.length=none:=by unfold aB;rw [List.getElem?_eq_none (Nat.le_refl _)]
   refine ⟨_,xA u,sv,HO hc hE hp oL,fun q hq=>?_,?_,?_⟩
   ·obtain ⟨id,_,hid⟩:=List.mem_filterMap.1 hq
    cases fX:aB h id with
    | none=>simp [fX] at hid
    | some hb=>simp [fX] at hid;subst hid;exact fX
   ·cases u with
    | none=>trivial
    | some q=>
      have ur:=CT hE
      refine ⟨?_,trivial⟩
      rcases ur.1 q rfl with h1 | h1
      ·exact .inl h1
      ·right
       have hs:=ur.2 _ h1
       obtain ⟨hb,pV⟩:=Option.isSome_iff_exists.1 hs
       refine ⟨?_,hb,List.mem_filterMap.2 ⟨q.1,h1,by simp [pV]⟩⟩
       unfold aB at pV
       cases hl:h[q.1]? with
       | none=>simp [hl] at pV
       | some x=>exact (List.getElem?_eq_some_iff.1 hl).1
   ·cases u with
    | none=>exact hK
    | some q=>exact hK
  ·exact hW.elim
theorem BH {C:Ctx} {en:Nat→SV} {hp:Hp} {a:Act} {w:World} {aa:Nat→Option Nat} (RF:kg C en hp a w aa) {ops:Array Oper} {o:Oper} {N:Nat} {P:Program} {op:bH} (hc:nM P ops N o=some op) {b:Bool} (h:kZ en op.guard=some b):Region.wanted o (yielded ops a.tmps)=b:=by
 unfold nM at hc
 split at hc
 ·cases hc
 ·split at hc
  ·cases hc
  ·split at hc
   ·split at hc
    ·rename_i hg
     cases hc
     simp only [kZ,Option.some.injEq] at h
     simp [Region.wanted,hg,← h]
    ·rename_i j b' hg
     split at hc
     ·rename_i d hd
      cases hc
      simp only [kZ] at h
      split at h
      ·rename_i t ht
       simp only [Option.some.injEq] at h
       have:=RF.env d
       rw [ht] at this
       have hv:=tG this
       have OG:a.tmps[d]?=some (.bool t):=by
        rw [Array.getD_eq_getD_getElem?] at hv
        cases hx:a.tmps[d]? with
        | none=>simp [hx,undef] at hv
        | some x=>simp [hx] at hv;rw [hv]
       simp only [Region.wanted,hg,yielded,hd,Option.bind_some,OG]
       rw [← h];cases t <;> cases b' <;> rfl
      ·rename_i ht
       simp only [Option.some.injEq] at h
       have:=RF.env d
       rw [ht] at this
       have hv:=TV this
       have hno:yielded ops a.tmps j=none:=by
        simp only [yielded,hd,Option.bind_some]
        rw [Array.getD_eq_getD_getElem?] at hv
        cases hx:a.tmps[d]? with
        | none=>rfl
        | some x=>simp [hx] at hv;rw [hv];rfl
       simp only [Region.wanted,hg,hno]
       rw [← h];rfl
      ·cases h
     ·cases hc
   ·cases hc
theorem Be {P:Program} {ops:Array Oper} {N:Nat} {o:Oper} {op:bH} (hc:nM P ops N o=some op):∃ gT,kY P o.op=some (op.ao,gT)∧tZ gT=some op.xs∧o.dst=op.dst∧∀ d,op.dst=some d→d<N:=by
 unfold nM at hc
 split at hc
 ·cases hc
 ·rename_i ao xs hao
  split at hc
  ·cases hc
  ·rename_i ys hys
   split at hc
   ·rename_i hd
    split at hc
    ·cases hc
     exact ⟨xs,hao,hys,rfl,fun d lR=>by have BR:o.dst=some d:=lR;rw [BR] at hd;simpa using hd⟩
    ·split at hc
     ·cases hc
      exact ⟨xs,hao,hys,rfl,fun d lR=>by have BR:o.dst=some d:=lR;rw [BR] at hd;simpa using hd⟩
     ·cases hc
   ·cases hc
theorem kg.Ig {C:Ctx} {env:List (Nat×SV)} {hp:Hp} {a:Act} {w:World} {aa:Nat→Option Nat} (R:kg C (lk env) hp a w aa) {dst:Option Nat} (hd:∀ d,dst=some d→d<C.N) {s:SV} {v:Value} (h:Rp w (aI C aa hp) aa hp s v) :
 kg C (lk (gu dst s env)) hp (a.put dst v) w aa:=by
 cases dst with
 | none=>exact R
 | some d=>
   have:=R.put (hd d rfl) h
   rw [← wV] at this;exact this
theorem IB {P:Program} {C:Ctx} {n0:Nat} {ops:Array Oper} {K:St→Prop} {Q:Exit→Act→World→Prop} (hK:∀ s a w,K s→jE C n0 s a w→Q .normal a w) :
 ∀ (l:List bH) (is:List Nat) (s:St) (a:Act) (w:World),is.length=l.length→(∀ (j i:Nat) (op:bH),is[j]?=some i→l[j]?=some op→∃ o,ops[i]?=some o∧nM P ops C.N o=some op)→
  RW P K l s→jE C n0 s a w→wpOps P ops Q is a w
 | [],[],s,a,w,_,_,h,R=>hK s a w h R
 | [],_::_,s,a,w,hl,_,_,_=>by simp at hl
 | _::_,[],s,a,w,hl,_,_,_=>by simp at hl
 | op::l,i::is,s,a,w,hl,hc,h,R=>by
   obtain ⟨o,ho,mM⟩:=hc 0 i op rfl rfl
   obtain ⟨gT,ri,mc,uo,uq⟩:=Be mM
   have ih:=IB (P:=P) (ops:=ops) hK l is
   have hl':is.length=l.length:=by simpa using hl
   have nQ:∀ (j i:Nat) (op:bH),is[j]?=some i→l[j]?=some op→∃ o,ops[i]?=some o∧nM P ops C.N o=some op:=fun j i op h1 h2=>hc (j+1) i op (by simpa using h1) (by simpa using h2)
   simp only [wpOps,ho]
   unfold RW at h
   cases hg:kZ (lk s.env) op.guard with
   | none=>simp [hg] at h
   | some b=>
     obtain ⟨aa,RF⟩:=R.rep
     have hw:=BH RF mM hg
     cases b with
     | false=>
       rw [hg] at h
       rw [if_neg (by rw [hw];simp)]
       refine ih _ _ _ hl' nQ h ⟨⟨aa,?_⟩,R.wR,R.h0⟩
       rw [uo]
       exact RF.Ig uq Iq
     | true=>
       rw [hg] at h
       rw [if_pos hw]
       left
       obtain ⟨pre,us,sv,h1,h2,h3,h4⟩:=Ti ri h
       obtain ⟨g1,g2⟩:=vR h3
       refine h1 C (aB s.h) w aa a _ _ _ _ ri h2 (HJ R (Nat.le_refl _) h3) RF.mem (xX RF mc) (fun v w' aK hS hR=>?_)
       refine ih _ _ _ hl' nQ h4 ⟨⟨aK,?_⟩,Nat.le_trans R.wR g2,R.h0⟩
       rw [uo]
       have lI:=RF.step hS
       rw [← g1] at lI hR
       exact lI.Ig uq hR
end Go.aJ

namespace Go.aJ
open Go
structure TE where
 fF:List Nat
 dst:Option Nat
 pre:List Nat
 us:List Nat
def om:List XO→List Nat
 | []=>[]
 | .t n::r=>n::om r
 | .c _::r=>om r
def pg (op:bH):List Nat:=match op.guard with
 | some (d,_)=>d::om op.xs
 | none=>om op.xs
def qt (a b:List Nat):Bool:=a.all fun x=>!b.contains x
def ng (x y:TE):Bool:=
 (match x.dst with
  | some d=>!y.fF.contains d && !(y.dst == some d)
  | none=>true) &&
 (match y.dst with
  | some d=>!x.fF.contains d
  | none=>true) && qt x.us y.pre && qt x.us y.us && qt y.us x.pre
def EF (aW:List (List Nat)) (i:Nat) (x:TE):Nat→List TE→Bool
 | _,[]=>true
 | j,y::r=>((aW.getD j []).contains i || ng x y) && EF aW i x (j+1) r
def Mc (aW:List (List Nat)):Nat→List TE→Bool
 | _,[]=>true
 | i,x::r=>EF aW i x (i+1) r && Mc aW (i+1) r
def jY (o:Oper):List Nat:=(o.after.toList.filter (fun e=>Region.binds .any e)).map (·.on)
inductive EN where
 | skip
 | run (args:List SV) (pre us:List (Nat×HB)) (sv:SV)
def CP (op:bH) (s:St):EN→St
 | .skip=>⟨gu op.dst (.aO []) s.env,s.h⟩
 | .run _ _ us sv=>⟨gu op.dst sv s.env,mA s.h us⟩
def jm (op:bH):EN→TE
 | .skip=>⟨pg op,op.dst,[],[]⟩
 | .run _ pre us _=>⟨pg op,op.dst,pre.map (·.1),us.map (·.1)⟩
def Tr (P:Program) (ops:Array Oper):Nat→List bH→St→List EN→St→Prop
 | _,[],s,[],s'=>s=s'
 | i,op::l,s,e::es,s'=>(match e with
    | .skip=>kZ (lk s.env) op.guard=some false
    | .run args pre us sv=>kZ (lk s.env) op.guard=some true∧args=op.xs.map (jq (lk s.env))∧(∀ o,ops[i]?=some o→pI P o args pre us sv)∧aR (aB s.h) pre∧aV pre s.h us)∧Tr P ops (i+1) l (CP op s e) es s'
 | _,_,_,_,_=>False
def fP:List bH→List EN→St→Nat→St
 | op::l,e::es,s,i+1=>fP l es (CP op s e) i
 | _,_,s,_=>s
theorem Tr.length {P:Program} {ops:Array Oper}:∀ {l:List bH} {i:Nat} {s s':St} {es:List EN},Tr P ops i l s es s'→es.length=l.length
 | [],i,s,s',[],_=>rfl
 | [],i,s,s',_::_,h=>h.elim
 | _::_,i,s,s',[],h=>h.elim
 | op::l,i,s,s',e::es,h=>by simp [Tr.length h.2]
theorem Tr.last {P:Program} {ops:Array Oper}:∀ {l:List bH} {i:Nat} {s s':St} {es:List EN},Tr P ops i l s es s'→fP l es s l.length=s'
 | [],i,s,s',[],h=>h
 | [],i,s,s',_::_,h=>h.elim
 | _::_,i,s,s',[],h=>h.elim
 | op::l,i,s,s',e::es,h=>by simpa [fP] using Tr.last h.2
theorem Tr.at_ {P:Program} {ops:Array Oper}:∀ {l:List bH} {i:Nat} {s s':St} {es:List EN},Tr P ops i l s es s'→∀ (j:Nat) (op:bH),l[j]?=some op→∃ e,es[j]?=some e∧fP l es s (j+1)=CP op (fP l es s j) e∧(match e with
 | .skip=>kZ (lk (fP l es s j).env) op.guard=some false
 | .run args pre us sv=>kZ (lk (fP l es s j).env) op.guard=some true∧args=op.xs.map (jq (lk (fP l es s j).env))∧(∀ o,ops[i+j]?=some o→pI P o args pre us sv)∧aR (aB (fP l es s j).h) pre∧aV pre (fP l es s j).h us)
 | [],i,s,s',es,h,j,op,hj=>by simp at hj
 | _::_,i,s,s',[],h,_,_,_=>h.elim
 | Xn::l,i,s,s',e::es,h,j,op,hj=>by
   cases j with
   | zero=>
     simp at hj;subst hj
     refine ⟨e,rfl,?_,?_⟩
     ·cases l <;> cases es <;> rfl
     ·have:=h.1
      cases e <;> exact this
   | succ j=>
     have:=Tr.at_ h.2 j op (by simpa using hj)
     obtain ⟨e',h1,h2,h3⟩:=this
     refine ⟨e',by simpa using h1,h2,?_⟩
     rw [show i+(j+1)=i+1+j by omega]
     exact h3
theorem Jn {l:List bH} {es:List EN} {s:St} (P:Program) (ops:Array Oper) {i:Nat} {s':St} (h:Tr P ops i l s es s'):∀ j,j≤l.length→s.h.length≤(fP l es s j).h.length:=fun j=>by
 induction j with
 | zero=>intro _;cases l <;> cases es <;> exact Nat.le_refl _
 | succ j ih=>
   intro hj
   obtain ⟨e,h1,h2,h3⟩:=h.at_ j _ (List.getElem?_eq_getElem (by omega))
   rw [h2]
   refine Nat.le_trans (ih (by omega)) ?_
   cases e with
   | skip=>exact Nat.le_refl _
   | run args pre us sv=>exact (vR h3.2.2.2.2).2
def cnt (L:Nat→Bool):Nat→Nat
 | 0=>0
 | n+1=>cnt L n+(if L n then 0 else 1)
theorem EB {L L':Nat→Bool}:∀ {n:Nat},(∀ i,i<n→L' i=L i)→cnt L' n=cnt L n
 | 0,_=>rfl
 | n+1,h=>by rw [cnt,cnt,EB (fun i hi=>h i (by omega)),h n (by omega)]
theorem EC {L L':Nat→Bool} {j:Nat} (hj:L j=false) (hj':L' j=true) (ho:∀ i,i≠j→L' i=L i):∀ {n:Nat},j<n→cnt L n=cnt L' n+1
 | n+1,h=>by
   rw [cnt,cnt]
   by_cases hn:j=n
   ·subst hn
    rw [EB (L:=L) (L':=L') (fun i hi=>ho i (by omega)),hj,hj'];simp
   ·rw [EC hj hj' ho (n:=n) (by omega),ho n (fun e=>hn e.symm)];omega
theorem ED {L:Nat→Bool}:∀ {n:Nat},cnt L n=0→∀ i,i<n→L i=true
 | n+1,h,i,hi=>by
   rw [cnt] at h
   by_cases hn:i=n
   ·subst hn;cases hL:L i with
    | true=>rfl
    | false=>simp [hL] at h
   ·exact ED (n:=n) (by omega) i (by omega)
theorem Ez (L:Nat→Bool):∀ n,cnt L n≤n
 | 0=>Nat.le_refl _
 | n+1=>by rw [cnt];have:=Ez L n;split <;> omega
theorem xC {hp aE:Hp}:∀ {us:List (Nat×HB)} {id:Nat},id∈us.map (·.1)→bP hp us id=bP aE us id
 | [],id,h=>by simp at h
 | (i,hb)::r,id,h=>by
   by_cases hr:id∈r.map (·.1)
   ·rw [bP,bP];exact xC hr
   ·have hi:id=i:=by
     rcases List.mem_cons.1 h with h | h
     ·exact h
     ·exact absurd h hr
    subst hi
    have hne:∀ q∈r,q.1≠id:=fun q hq he=>hr (List.mem_map.2 ⟨q,hq,he⟩)
    rw [bP,bP,tJ hne,tJ hne,cr,cr]
theorem uQ {α:Type} (f:Nat→α) (wr:Nat→Prop) (hs:∀ i,¬ wr i→f (i+1)=f i) {k j:Nat} (zg:k≤j) (h:∀ i,k≤i→i<j→¬ wr i):f j=f k:=by
 induction j with
 | zero=>have:k=0:=by omega
         rw [this]
 | succ j ih=>
   by_cases he:k=j+1
   ·rw [he]
   ·rw [hs j (h j (by omega) (by omega)),ih (by omega) (fun i h1 h2=>h i h1 (by omega))]
theorem yH {a b:List Nat} (h:qt a b=true) {x:Nat} (ha:x∈a) (hb:x∈b):False:=by
 unfold qt at h
 rw [List.all_eq_true] at h
 have:=h x ha
 simp at this
 exact this hb
structure jP (P:Program) (ops:Array Oper) (N:Nat) (l:List bH) (es:List EN) (s0 s1:St) (aW:List (List Nat)):Prop where
 tr:Tr P ops 0 l s0 es s1
 size:ops.size=l.length
 comp:∀ (i:Nat) (op:bH),l[i]?=some op→∃ o,ops[i]?=some o∧nM P ops N o=some op
 back:∀ (i:Nat) (o:Oper),ops[i]?=some o→∀ k∈jY o,k<i
 Lm:∀ (i:Nat) (o:Oper),ops[i]?=some o→∀ k∈aW.getD i [],∃ (L:List Nat),(∀ x∈L,x∈jY o)∧(k∈L∨∃ x∈L,k∈aW.getD x [])
 ok:∀ (a b:Nat) (CV CW:bH) (ea eb:EN),a<b→l[a]?=some CV→l[b]?=some CW→es[a]?=some ea→es[b]?=some eb→a∈aW.getD b []∨ng (jm CV ea) (jm CW eb)=true
section
variable {P:Program} {ops:Array Oper} {N:Nat} {l:List bH} {es:List EN} {s0 s1:St} {aW:List (List Nat)}
def qP (ops:Array Oper) (L:Nat→Bool):Prop:=∀ (i:Nat) (o:Oper),ops[i]?=some o→L i=true→∀ k∈jY o,L k=true
theorem jP.xZ (H:jP P ops N l es s0 s1 aW) {L:Nat→Bool} (hc:qP ops L):∀ (i:Nat) (o:Oper),ops[i]?=some o→(∀ k∈jY o,L k=true)→∀ k∈aW.getD i [],L k=true:=by
 intro i
 induction i using Nat.strongRecOn with
 | _ i ih=>
   intro o ho hn k hk
   obtain ⟨ls,h1,h2⟩:=H.Lm i o ho k hk
   rcases h2 with h2 | ⟨x,hx,h2⟩
   ·exact hn k (h1 k h2)
   ·have kr:=H.back i o ho x (h1 x hx)
    have hxs:x<ops.size:=by have:=(Array.getElem?_eq_some_iff.1 ho).1;omega
    have FX:=Array.getElem?_eq_getElem hxs
    exact ih x kr _ FX (hc x _ FX (hn x (h1 x hx))) k h2
structure Inv (l:List bH) (es:List EN) (s0:St) (L:Nat→Bool) (en:Nat→SV) (hp:Hp):Prop where
 env:∀ m,∃ k,k≤l.length∧en m=lk (fP l es s0 k).env m∧(∀ (i:Nat) (op:bH),i<k→l[i]?=some op→op.dst=some m→L i=true)∧(∀ (i:Nat) (op:bH),k≤i→l[i]?=some op→op.dst=some m→L i=false)
 heap:∀ id,∃ k,k≤l.length∧hp id=aB (fP l es s0 k).h id∧(∀ (i:Nat) (op:bH) (e:EN),i<k→l[i]?=some op→es[i]?=some e→id∈(jm op e).us→L i=true)∧(∀ (i:Nat) (op:bH) (e:EN),k≤i→l[i]?=some op→es[i]?=some e→id∈(jm op e).us→L i=false)
theorem jP.Bv (H:jP P ops N l es s0 s1 aW) (m i:Nat) (h:∀ op,l[i]?=some op→op.dst≠some m):lk (fP l es s0 (i+1)).env m=lk (fP l es s0 i).env m:=by
 cases hi:l[i]? with
 | none=>
   have hlen:∀ (l:List bH) (es:List EN) (s:St) (i:Nat),l.length≤i→fP l es s (i+1)=fP l es s i:=by
    intro l
    induction l with
    | nil=>intro es s i _;cases i <;> rfl
    | cons op l ih=>
      intro es s i hi
      cases es with
      | nil=>cases i <;> rfl
      | cons e es=>
        cases i with
        | zero=>simp at hi
        | succ i=>simp only [fP];exact ih es _ i (by simpa using hi)
   rw [hlen l es s0 i (List.getElem?_eq_none_iff.1 hi)]
 | some op=>
   obtain ⟨e,_,h2,_⟩:=H.tr.at_ i op hi
   rw [h2]
   have hd:=h op hi
   have hput:∀ v,lk (gu op.dst v (fP l es s0 i).env) m=lk (fP l es s0 i).env m:=fun v=>by
    cases lR:op.dst with
    | none=>rfl
    | some d=>
      rw [lR] at hd
      rw [gu,wV,gA _ _ (fun e=>hd (by rw [e]))]
   cases e <;> exact hput _
theorem jP.BW (H:jP P ops N l es s0 s1 aW) (id i:Nat) (h:∀ op e,l[i]?=some op→es[i]?=some e→id∉(jm op e).us):aB (fP l es s0 (i+1)).h id=aB (fP l es s0 i).h id:=by
 cases hi:l[i]? with
 | none=>
   have hlen:∀ (l:List bH) (es:List EN) (s:St) (i:Nat),l.length≤i→fP l es s (i+1)=fP l es s i:=by
    intro l
    induction l with
    | nil=>intro es s i _;cases i <;> rfl
    | cons op l ih=>
      intro es s i hi
      cases es with
      | nil=>cases i <;> rfl
      | cons e es=>
        cases i with
        | zero=>simp at hi
        | succ i=>simp only [fP];exact ih es _ i (by simpa using hi)
   rw [hlen l es s0 i (List.getElem?_eq_none_iff.1 hi)]
 | some op=>
   obtain ⟨e,he,h2,h3⟩:=H.tr.at_ i op hi
   rw [h2]
   have hd:=h op e hi he
   cases e with
   | skip=>rfl
   | run args pre us sv=>
     obtain ⟨_,_,_,_,hk⟩:=h3
     show aB (mA (fP l es s0 i).h us) id=_
     rw [(vR hk).1]
     exact tJ (fun q hq he=>hd (List.mem_map.2 ⟨q,hq,he⟩))
theorem jP.JG (H:jP P ops N l es s0 s1 aW) {L:Nat→Bool} (hc:qP ops L) {j:Nat} {op:bH} {o:Oper} (hj:l[j]?=some op) (ho:ops[j]?=some o) (hL:L j=false) (hn:∀ k∈jY o,L k=true)
 {m:Nat} (hm:m∈pg op∨op.dst=some m) (i:Nat) (cl:bH) (hi:l[i]?=some cl) (hd:cl.dst=some m):(i<j→L i=true)∧(j<i→L i=false):=by
 obtain ⟨e,he,_⟩:=H.tr.at_ j op hj
 have hlen:=H.tr.length
 have fE:i<es.length:=by rw [hlen];exact (List.getElem?_eq_some_iff.1 hi).1
 have jg:=List.getElem?_eq_getElem fE
 have hdt:∀ e,(jm cl e).dst=some m:=fun e=>by cases e <;> exact hd
 have Gb:∀ e,(jm op e).fF=pg op:=fun e=>by cases e <;> rfl
 have FG:∀ e,(jm op e).dst=op.dst:=fun e=>by cases e <;> rfl
 refine ⟨fun hij=>?_,fun hji=>?_⟩
 ·rcases H.ok i j cl op _ e hij hi hj jg he with h | h
  ·exact H.xZ hc j o ho hn i h
  ·exfalso
   simp only [ng,Bool.and_eq_true] at h
   have ha:=h.1.1.1.1
   rw [hdt] at ha
   rw [Gb,FG] at ha
   rcases hm with hm | hm
   ·simp [hm] at ha
   ·simp [hm] at ha
 ·cases BI:L i with
  | false=>rfl
  | true=>
    exfalso
    rcases H.ok j i op cl e _ hji hj hi he jg with h | h
    ·have lg:=Array.getElem?_eq_getElem (xs:=ops) (i:=i) (by rw [H.size,← hlen];exact fE)
     have:=H.xZ hc i _ lg (hc i _ lg BI) j h
     rw [hL] at this;cases this
    ·simp only [ng,Bool.and_eq_true] at h
     have hb:=h.1.1.1.2
     have ha:=h.1.1.1.1
     rw [hdt] at hb
     rw [Gb] at hb
     rw [FG,hdt] at ha
     rcases hm with hm | hm
     ·simp [hm] at hb
     ·simp [hm] at ha
theorem jP.TQ (H:jP P ops N l es s0 s1 aW) {L:Nat→Bool} (hc:qP ops L) {en:Nat→SV} {hp:Hp} (I:Inv l es s0 L en hp) {j:Nat} {op:bH} {o:Oper} (hj:l[j]?=some op) (ho:ops[j]?=some o) (hL:L j=false) (hn:∀ k∈jY o,L k=true)
 {m:Nat} (hm:m∈pg op∨op.dst=some m):en m=lk (fP l es s0 j).env m:=by
 obtain ⟨k,hk,h1,h2,h3⟩:=I.env m
 rw [h1]
 have hw:=H.JG hc hj ho hL hn hm
 by_cases zg:k≤j
 ·refine (uQ (fun i=>lk (fP l es s0 i).env m) (fun i=>∃ cl,l[i]?=some cl∧cl.dst=some m) (fun i hi=>H.Bv m i (fun op ho hd=>hi ⟨op,ho,hd⟩)) zg (fun i hi1 hi2 ⟨cl,ho,hd⟩=>?_)).symm
  have:=h3 i cl hi1 ho hd
  rw [(hw i cl ho hd).1 hi2] at this;cases this
 ·refine uQ (fun i=>lk (fP l es s0 i).env m) (fun i=>∃ cl,l[i]?=some cl∧cl.dst=some m) (fun i hi=>H.Bv m i (fun op ho hd=>hi ⟨op,ho,hd⟩)) (by omega) (fun i hi1 hi2 ⟨cl,ho,hd⟩=>?_)
  have:=h2 i cl hi2 ho hd
  by_cases hij:i=j
  ·subst hij;rw [hL] at this;cases this
  ·rw [(hw i cl ho hd).2 (by omega)] at this;cases this
theorem jP.JI (H:jP P ops N l es s0 s1 aW) {L:Nat→Bool} (hc:qP ops L) {j:Nat} {op:bH} {e:EN} {o:Oper} (hj:l[j]?=some op) (he:es[j]?=some e) (ho:ops[j]?=some o) (hL:L j=false) (hn:∀ k∈jY o,L k=true)
 {id:Nat} (hm:id∈(jm op e).pre∨id∈(jm op e).us) (i:Nat) (cl:bH) (ei:EN) (hi:l[i]?=some cl) (jg:es[i]?=some ei) (hd:id∈(jm cl ei).us):(i<j→L i=true)∧(j<i→L i=false):=by
 have hlen:=H.tr.length
 refine ⟨fun hij=>?_,fun hji=>?_⟩
 ·rcases H.ok i j cl op _ e hij hi hj jg he with h | h
  ·exact H.xZ hc j o ho hn i h
  ·exfalso
   simp only [ng,Bool.and_eq_true] at h
   rcases hm with hm | hm
   ·exact yH h.1.1.2 hd hm
   ·exact yH h.1.2 hd hm
 ·cases BI:L i with
  | false=>rfl
  | true=>
    exfalso
    rcases H.ok j i op cl e _ hji hj hi he jg with h | h
    ·have fE:i<es.length:=(List.getElem?_eq_some_iff.1 jg).1
     have lg:=Array.getElem?_eq_getElem (xs:=ops) (i:=i) (by rw [H.size,← hlen];exact fE)
     have:=H.xZ hc i _ lg (hc i _ lg BI) j h
     rw [hL] at this;cases this
    ·simp only [ng,Bool.and_eq_true] at h
     rcases hm with hm | hm
     ·exact yH h.2 hd hm
     ·exact yH h.1.2 hm hd
theorem jP.Ij (H:jP P ops N l es s0 s1 aW) {L:Nat→Bool} (hc:qP ops L) {en:Nat→SV} {hp:Hp} (I:Inv l es s0 L en hp) {j:Nat} {op:bH} {e:EN} {o:Oper} (hj:l[j]?=some op) (he:es[j]?=some e) (ho:ops[j]?=some o) (hL:L j=false) (hn:∀ k∈jY o,L k=true)
 {id:Nat} (hm:id∈(jm op e).pre∨id∈(jm op e).us):hp id=aB (fP l es s0 j).h id:=by
 obtain ⟨k,hk,h1,h2,h3⟩:=I.heap id
 rw [h1]
 have hw:=H.JI hc hj he ho hL hn hm
 by_cases zg:k≤j
 ·refine (uQ (fun i=>aB (fP l es s0 i).h id) (fun i=>∃ cl ei,l[i]?=some cl∧es[i]?=some ei∧id∈(jm cl ei).us) (fun i hi=>H.BW id i (fun op e ho he hd=>hi ⟨op,e,ho,he,hd⟩)) zg (fun i hi1 hi2 ⟨cl,ei,ho,jg,hd⟩=>?_)).symm
  have:=h3 i cl ei hi1 ho jg hd
  rw [(hw i cl ei ho jg hd).1 hi2] at this;cases this
 ·refine uQ (fun i=>aB (fP l es s0 i).h id) (fun i=>∃ cl ei,l[i]?=some cl∧es[i]?=some ei∧id∈(jm cl ei).us) (fun i hi=>H.BW id i (fun op e ho he hd=>hi ⟨op,e,ho,he,hd⟩)) (by omega) (fun i hi1 hi2 ⟨cl,ei,ho,jg,hd⟩=>?_)
  have:=h2 i cl ei hi2 ho jg hd
  by_cases hij:i=j
  ·subst hij;rw [hL] at this;cases this
  ·rw [(hw i cl ei ho jg hd).2 (by omega)] at this;cases this
def mw (L:Nat→Bool) (j:Nat):Nat→Bool:=fun i=>if i=j then true else L i
theorem jP.Gr (H:jP P ops N l es s0 s1 aW) {L:Nat→Bool} (hc:qP ops L) {en:Nat→SV} {hp:Hp} (I:Inv l es s0 L en hp) {j:Nat} {op:bH} {e:EN} {o:Oper} (hj:l[j]?=some op) (he:es[j]?=some e) (ho:ops[j]?=some o) (hL:L j=false) (hn:∀ k∈jY o,L k=true)
 {qu:Nat→SV} {aE:Hp} (h1:∀ m,op.dst=some m→qu m=lk (fP l es s0 (j+1)).env m) (h2:∀ m,op.dst≠some m→qu m=en m) (h3:∀ id,id∈(jm op e).us→aE id=aB (fP l es s0 (j+1)).h id) (h4:∀ id,id∉(jm op e).us→aE id=hp id) :
 Inv l es s0 (mw L j) qu aE:=by
 have hjl:=(List.getElem?_eq_some_iff.1 hj).1
 have Au:∀ i,L i=true→mw L j i=true:=fun i h=>by unfold mw;split <;> simp [h]
 refine ⟨fun m=>?_,fun id=>?_⟩
 ·by_cases hm:op.dst=some m
  ·have hw:=H.JG hc hj ho hL hn (.inr hm)
   refine ⟨j+1,by omega,h1 m hm,fun i cl hi ho hd=>?_,fun i cl hi ho hd=>?_⟩
   ·by_cases hij:i=j
    ·subst hij;simp [mw]
    ·exact Au i ((hw i cl ho hd).1 (by omega))
   ·unfold mw
    rw [if_neg (by omega)]
    exact (hw i cl ho hd).2 (by omega)
  ·obtain ⟨k,g1,g2,g3,g4⟩:=I.env m
   refine ⟨k,g1,(h2 m hm).trans g2,fun i cl hi ho hd=>Au i (g3 i cl hi ho hd),fun i cl hi lg hd=>?_⟩
   unfold mw
   by_cases hij:i=j
   ·subst hij;rw [hj] at lg;cases lg;exact absurd hd hm
   ·rw [if_neg hij];exact g4 i cl hi lg hd
 ·by_cases hm:id∈(jm op e).us
  ·have hw:=H.JI hc hj he ho hL hn (.inr hm)
   refine ⟨j+1,by omega,h3 id hm,fun i cl ei hi ho jg hd=>?_,fun i cl ei hi ho jg hd=>?_⟩
   ·by_cases hij:i=j
    ·subst hij;simp [mw]
    ·exact Au i ((hw i cl ei ho jg hd).1 (by omega))
   ·unfold mw
    rw [if_neg (by omega)]
    exact (hw i cl ei ho jg hd).2 (by omega)
  ·obtain ⟨k,g1,g2,g3,g4⟩:=I.heap id
   refine ⟨k,g1,(h4 id hm).trans g2,fun i cl ei hi ho jg hd=>Au i (g3 i cl ei hi ho jg hd),fun i cl ei hi lg jg hd=>?_⟩
   unfold mw
   by_cases hij:i=j
   ·subst hij;rw [hj] at lg;cases lg;rw [he] at jg;cases jg;exact absurd hd hm
   ·rw [if_neg hij];exact g4 i cl ei hi lg jg hd
theorem jP.Pj (H:jP P ops N l es s0 s1 aW) {L:Nat→Bool} {en:Nat→SV} {hp:Hp} (I:Inv l es s0 L en hp) (hall:∀ i,i<l.length→L i=true):en=lk s1.env∧hp=aB s1.h:=by
 have FR:=H.tr.last
 refine ⟨funext fun m=>?_,funext fun id=>?_⟩
 ·obtain ⟨k,g1,g2,g3,g4⟩:=I.env m
  rw [g2,← FR]
  refine (uQ (fun i=>lk (fP l es s0 i).env m) (fun i=>∃ cl,l[i]?=some cl∧cl.dst=some m) (fun i hi=>H.Bv m i (fun op ho hd=>hi ⟨op,ho,hd⟩)) g1 (fun i hi1 hi2 ⟨cl,ho,hd⟩=>?_)).symm
  have:=g4 i cl hi1 ho hd
  rw [hall i hi2] at this;cases this
 ·obtain ⟨k,g1,g2,g3,g4⟩:=I.heap id
  rw [g2,← FR]
  refine (uQ (fun i=>aB (fP l es s0 i).h id) (fun i=>∃ cl ei,l[i]?=some cl∧es[i]?=some ei∧id∈(jm cl ei).us) (fun i hi=>H.BW id i (fun op e ho he hd=>hi ⟨op,e,ho,he,hd⟩)) g1 (fun i hi1 hi2 ⟨cl,ei,ho,jg,hd⟩=>?_)).symm
  have:=g4 i cl ei hi1 ho jg hd
  rw [hall i hi2] at this;cases this
def Lf (listed:Array Bool) (i:Nat):Bool:=listed.getD i false
theorem Dh {listed:Array Bool} (hs:listed.size=ops.size) {i:Nat}:i∈Region.ready .any ops listed↔i<ops.size∧Lf listed i=false∧∀ o,ops[i]?=some o→∀ k∈jY o,Lf listed k=true:=by
 unfold Region.ready
 rw [List.mem_filter,List.mem_range]
 constructor
 ·rintro ⟨h1,h2⟩
  simp only [Bool.and_eq_true,Bool.not_eq_true'] at h2
  refine ⟨h1,?_,fun o ho k hk=>?_⟩
  ·have:=h2.1
   simp only [Lf,Array.getD_eq_getD_getElem?] at this ⊢
   cases hx:listed[i]? with
   | none=>simp [hx] at this
   | some x=>simp [hx] at this ⊢;exact this
  ·have h3:=h2.2
   rw [ho] at h3
   simp only [Option.map_some,Option.getD_some,Array.all_eq_true'] at h3
   unfold jY at hk
   obtain ⟨e,he,rfl⟩:=List.mem_map.1 hk
   obtain ⟨sQ,NZ⟩:=List.mem_filter.1 he
   have:=h3 e (by simpa using sQ)
   simp [NZ] at this
   simpa [Lf] using this
 ·rintro ⟨h1,h2,h3⟩
  refine ⟨h1,?_⟩
  have ho:=Array.getElem?_eq_getElem h1
  simp only [Bool.and_eq_true,Bool.not_eq_true']
  refine ⟨?_,?_⟩
  ·simp only [Lf,Array.getD_eq_getD_getElem?] at h2 ⊢
   have hx:=Array.getElem?_eq_getElem (xs:=listed) (i:=i) (by omega)
   rw [hx] at h2 ⊢
   exact h2
  ·rw [ho]
   simp only [Option.map_some,Option.getD_some,Array.all_eq_true']
   intro e he
   cases hb:Region.binds .any e with
   | false=>simp
   | true=>
     have:=h3 _ ho e.on (List.mem_map.2 ⟨e,List.mem_filter.2 ⟨by simpa using he,hb⟩,rfl⟩)
     simpa [Lf] using this
theorem SS {xs:List XO} {n:Nat} (h:XO.t n∈xs):n∈om xs:=by
 induction xs with
 | nil=>simp at h
 | cons x r ih=>
   rcases List.mem_cons.1 h with rfl | h'
   ·simp [om]
   ·cases x with
    | t m=>simp [om,ih h']
    | c s=>exact ih h'
theorem Mo {en qu:Nat→SV} {xs:List XO} (h:∀ n,n∈om xs→en n=qu n):xs.map (jq en)=xs.map (jq qu):=by
 refine List.map_congr_left (fun x hx=>?_)
 cases x with
 | t n=>exact h n (SS hx)
 | c s=>rfl
theorem MK {en qu:Nat→SV} {op:bH} (h:∀ n,n∈pg op→en n=qu n):kZ en op.guard=kZ qu op.guard:=by
 cases hg:op.guard with
 | none=>rfl
 | some q=>
   obtain ⟨d,b⟩:=q
   simp only [kZ]
   rw [h d (by simp [pg,hg])]
theorem Uk (H:jP P ops N l es s0 s1 aW) {C:Ctx} (hN:C.N=N) {n0:Nat} (hn0:n0≤s0.h.length) (Oh:∀ id,n0≤id→C.h0 id=none) {Q:Exit→Act→World→Prop} (hQ:∀ a w aa,kg C (lk s1.env) (aB s1.h) a w aa→Q .normal a w) :
 ∀ (fuel:Nat) (listed:Array Bool) (en:Nat→SV) (hp:Hp) (a:Act) (w:World) (aa:Nat→Option Nat),listed.size=ops.size→cnt (Lf listed) l.length≤fuel→qP ops (Lf listed)→Inv l es s0 (Lf listed) en hp→kg C en hp a w aa→
  wpAny P .any ops Q fuel listed a w:=by
 have NQ:∀ listed:Array Bool,listed.size=ops.size→Region.ready .any ops listed=[]→∀ i,i<l.length→Lf listed i=true:=fun listed hs hr i=>by
  induction i using Nat.strongRecOn with
  | _ i ih=>
    intro hi
    cases hL:Lf listed i with
    | true=>rfl
    | false=>
      have:i∈Region.ready .any ops listed:=(Dh hs).2 ⟨by rw [H.size];exact hi,hL,fun o ho k hk=>ih k (H.back i o ho k hk) (by have:=H.back i o ho k hk;omega)⟩
      rw [hr] at this;cases this
 have vP:∀ (listed:Array Bool) (en:Nat→SV) (hp:Hp) (a:Act) (w:World) (aa:Nat→Option Nat),(∀ i,i<l.length→Lf listed i=true)→Inv l es s0 (Lf listed) en hp→kg C en hp a w aa→Q .normal a w:=fun listed en hp a w aa hall I R=>by
  obtain ⟨rfl,rfl⟩:=H.Pj I hall
  exact hQ a w aa R
 intro fuel
 induction fuel with
 | zero=>
   intro listed en hp a w aa hs vK hc I R
   have hall:=ED (Nat.le_zero.1 vK)
   refine ⟨?_,vP listed en hp a w aa hall I R⟩
   cases hr:Region.ready .any ops listed with
   | nil=>rfl
   | cons i r=>
     have hm:i∈Region.ready .any ops listed:=by rw [hr];simp
     obtain ⟨h1,h2,_⟩:=(Dh hs).1 hm
     rw [hall i (by rw [← H.size];exact h1)] at h2;cases h2
 | succ fuel ih=>
   intro listed en hp a w aa hs vK hc I R
   refine ⟨fun hr=>vP listed en hp a w aa (NQ listed hs hr) I R,fun j hj=>?_⟩
   obtain ⟨FN,hL,hn⟩:=(Dh hs).1 hj
   have hjl:j<l.length:=by rw [← H.size];exact FN
   have hop:=List.getElem?_eq_getElem hjl
   obtain ⟨o,ho,mM⟩:=H.comp j _ hop
   obtain ⟨e,he,hst,Gd⟩:=H.tr.at_ j _ hop
   obtain ⟨gT,ri,mc,uo,uq⟩:=Be mM
   have hn':=hn o ho
   have hrd:∀ m,m∈pg l[j]→en m=lk (fP l es s0 j).env m:=fun m hm=>H.TQ hc I hop ho hL hn' (.inl hm)
   have FM:=MK hrd
   have yV:Lf (listed.setIfInBounds j true)=mw (Lf listed) j:=by
    funext i
    simp only [Lf,mw,Array.getD_eq_getD_getElem?,Array.getElem?_setIfInBounds]
    by_cases hij:j=i
    ·subst hij;simp [hs,FN]
    ·rw [if_neg hij,if_neg (Ne.symm hij)]
   have FD:cnt (Lf (listed.setIfInBounds j true)) l.length≤fuel:=by
    rw [yV]
    have:=EC (L:=Lf listed) (L':=mw (Lf listed) j) hL (by simp [mw]) (fun i hi=>by simp [mw,hi]) hjl
    omega
   have nQ:qP ops (Lf (listed.setIfInBounds j true)):=by
    rw [yV]
    intro i oi lg hi k hk
    unfold mw at hi ⊢
    by_cases hij:i=j
    ·subst hij
     rw [ho] at lg;cases lg
     split
     ·rfl
     ·exact hn' k hk
    ·rw [if_neg hij] at hi
     split
     ·rfl
     ·exact hc i oi lg hi k hk
   unfold wpOp
   rw [ho]
   simp only
   cases e with
   | skip=>
     have hg:kZ en l[j].guard=some false:=by rw [FM];exact Gd
     have hw:=BH R mM hg
     rw [if_neg (by rw [hw];simp)]
     have BV:∀ m,l[j].dst=some m→m<C.N:=fun m hm=>by rw [hN];exact uq m hm
     have R':kg C (match l[j].dst with | some d=>up en d (.aO []) | none=>en) hp (a.put o.dst undef) w aa:=by
      rw [uo]
      cases hd:l[j].dst with
      | none=>exact R
      | some d=>exact R.put (BV d hd) Iq
     refine ih _ _ _ _ _ _ (by simpa using hs) FD nQ ?_ R'
     rw [yV]
     refine H.Gr hc I hop he ho hL hn' (fun m hm=>?_) (fun m hm=>?_) (fun id hid=>by simp [jm] at hid) (fun id _=>rfl)
     ·rw [hst]
      show _=lk (gu l[j].dst (.aO []) (fP l es s0 j).env) m
      rw [hm];simp only [gu,wV,cr]
     ·cases hd:l[j].dst with
      | none=>rfl
      | some d=>rw [hd] at hm;exact gA _ _ (fun e=>hm (by rw [e]))
   | run args pre us sv=>
     obtain ⟨t1,t2,t3,t4,t5⟩:=Gd
     have hg:kZ en l[j].guard=some true:=by rw [FM];exact t1
     have hw:=BH R mM hg
     rw [if_pos hw]
     left
     have OA:∀ m,m∈om l[j].xs→en m=lk (fP l es s0 j).env m:=fun m hm=>hrd m (by
      unfold pg
      cases l[j].guard with
      | none=>exact hm
      | some q=>exact List.mem_cons_of_mem _ hm)
     have hargs:args=l[j].xs.map (jq en):=by rw [t2];exact (Mo OA).symm
     have hpre:∀ id,id∈pre.map (·.1)→hp id=aB (fP l es s0 j).h id:=fun id hid=>H.Ij hc I hop he ho hL hn' (.inl hid)
     have ko:∀ id,id∈us.map (·.1)→hp id=aB (fP l es s0 j).h id:=fun id hid=>H.Ij hc I hop he ho hL hn' (.inr hid)
     have Xf:=Jn P ops H.tr j (by omega)
     have hnew:so C hp pre us:=by
      have gen:∀ {us:List (Nat×HB)} {h:List (Option HB)},(fP l es s0 j).h.length≤h.length→aV pre h us→∀ q∈us,(∃ hb,(q.1,hb)∈pre)∨(fP l es s0 j).h.length≤q.1:=by
       intro us
       induction us with
       | nil=>intro h _ _ q hq;simp at hq
       | cons p r OS=>
         intro h hl hk q hq
         rcases List.mem_cons.1 hq with rfl | hq
         ·rcases hk.1 with h1 | ⟨_,h1⟩
          ·exact .inr (by omega)
          ·exact .inl h1
         ·exact OS (h:=aQ h p) (by have:=ve h p;omega) hk.2 q hq
      intro q hq
      rcases gen (Nat.le_refl _) t5 q hq with h | h
      ·exact .inl h
      ·refine .inr ⟨?_,Oh _ (by omega)⟩
       rw [ko q.1 (List.mem_map.2 ⟨q,hq,rfl⟩)]
       unfold aB
       rw [List.getElem?_eq_none (by omega)]
     refine t3 o (by simpa using ho) C hp w aa a _ _ _ _ ri (fun q hq=>?_) hnew R.mem (by rw [hargs];exact xX R mc) (fun v w' aK hS hR=>?_)
     ·rw [hpre q.1 (List.mem_map.2 ⟨q,hq,rfl⟩)];exact t4 q hq
     ·have BV:∀ m,l[j].dst=some m→m<C.N:=fun m hm=>by rw [hN];exact uq m hm
      have R':kg C (match l[j].dst with | some d=>up en d sv | none=>en) (bP hp us) (a.put o.dst v) w' aK:=by
       rw [uo]
       have RS:=R.step hS
       cases hd:l[j].dst with
       | none=>exact RS
       | some d=>exact RS.put (BV d hd) hR
      refine ih _ _ _ _ _ _ (by simpa using hs) FD nQ ?_ R'
      rw [yV]
      refine H.Gr hc I hop he ho hL hn' (fun m hm=>?_) (fun m hm=>?_) (fun id hid=>?_) (fun id hid=>?_)
      ·rw [hst]
       show _=lk (gu l[j].dst sv (fP l es s0 j).env) m
       rw [hm];simp only [gu,wV,cr]
      ·cases hd:l[j].dst with
       | none=>rfl
       | some d=>rw [hd] at hm;exact gA _ _ (fun e=>hm (by rw [e]))
      ·rw [hst]
       show _=aB (mA (fP l es s0 j).h us) id
       rw [(vR t5).1]
       exact xC hid
      ·exact tJ (fun q hq he=>hid (List.mem_map.2 ⟨q,hq,he⟩))
end
end Go.aJ

namespace Go.aJ
open Go
def ox:List Oper→List Nat→List Nat
 | [],acc=>acc
 | o::r,acc=>ox r (acc++[(jY o).foldl (fun m k=>m ||| 2 ^ k ||| acc.getD k 0) 0])
theorem Fp (acc:List Nat) (k:Nat):∀ (l:List Nat) (m:Nat),(l.foldl (fun m k=>m ||| 2 ^ k ||| acc.getD k 0) m).testBit k=true→m.testBit k=true∨k∈l∨∃ x∈l,(acc.getD x 0).testBit k=true
 | [],m,h=>.inl h
 | x::l,m,h=>by
   rw [List.foldl_cons] at h
   rcases Fp acc k l _ h with h | h | ⟨y,hy,h⟩
   ·rw [Nat.testBit_or,Nat.testBit_or,Nat.testBit_two_pow] at h
    simp only [Bool.or_eq_true,decide_eq_true_eq] at h
    rcases h with (h | h) | h
    ·exact .inl h
    ·exact .inr (.inl (by simp [h]))
    ·exact .inr (.inr ⟨x,by simp,h⟩)
   ·exact .inr (.inl (by simp [h]))
   ·exact .inr (.inr ⟨y,by simp [hy],h⟩)
theorem AP:∀ (ops:List Oper) (acc:List Nat) (x:Nat),x<acc.length→(ox ops acc).getD x 0=acc.getD x 0
 | [],acc,x,_=>rfl
 | o::r,acc,x,h=>by
   unfold ox
   rw [AP r _ x (by simp;omega)]
   simp only [List.getD_eq_getElem?_getD,List.getElem?_append_left h]
theorem Ec:∀ (ops:List Oper) (acc:List Nat) (i:Nat) (o:Oper),ops[i]?=some o→∀ k,((ox ops acc).getD (acc.length+i) 0).testBit k=true→k∈jY o∨∃ x∈jY o,((ox ops acc).getD x 0).testBit k=true
 | [],acc,i,o,h,k,_=>by simp at h
 | p::r,acc,i,o,h,k,hk=>by
   cases i with
   | zero=>
     simp only [List.getElem?_cons_zero,Option.some.injEq] at h
     subst h
     unfold ox at hk ⊢
     rw [AP r _ _ (by simp)] at hk
     simp only [Nat.add_zero,List.getD_eq_getElem?_getD,List.getElem?_concat_length,Option.getD_some] at hk
     rcases Fp acc k (jY p) 0 (by simpa [List.getD_eq_getElem?_getD] using hk) with hk | hk | ⟨x,hx,hk⟩
     ·simp at hk
     ·exact .inl hk
     ·refine .inr ⟨x,hx,?_⟩
      have hl:x<acc.length:=by
       by_cases hl:x<acc.length
       ·exact hl
       ·rw [List.getD_eq_getElem?_getD,List.getElem?_eq_none (by omega)] at hk;simp at hk
      rw [AP r _ x (by simp;omega)]
      simp only [List.getD_eq_getElem?_getD,List.getElem?_append_left hl]
      simpa [List.getD_eq_getElem?_getD] using hk
   | succ i=>
     unfold ox at hk ⊢
     refine Ec r _ i o (by simpa using h) k ?_
     have:(acc++[(jY p).foldl (fun m k=>m ||| 2 ^ k ||| acc.getD k 0) 0]).length+i=acc.length+(i+1):=by simp;omega
     rw [this];exact hk
def qX (aW:List Nat) (i:Nat) (x:TE):Nat→List TE→Bool
 | _,[]=>true
 | j,y::r=>((aW.getD j 0).testBit i || ng x y) && qX aW i x (j+1) r
def pO (aW:List Nat):Nat→List TE→Bool
 | _,[]=>true
 | i,x::r=>qX aW i x (i+1) r && pO aW (i+1) r
theorem EG {aW:List Nat} {i:Nat} {x:TE}:∀ {l:List TE} {j:Nat},qX aW i x j l=true→∀ (k:Nat) (y:TE),l[k]?=some y→(aW.getD (j+k) 0).testBit i=true∨ng x y=true
 | [],j,_,k,y,h=>by simp at h
 | z::r,j,hc,k,y,h=>by
   simp only [qX,Bool.and_eq_true,Bool.or_eq_true] at hc
   cases k with
   | zero=>simp at h;subst h;exact hc.1
   | succ k=>
     have:=EG hc.2 k y (by simpa using h)
     rwa [show j+1+k=j+(k+1) by omega] at this
theorem EH {aW:List Nat}:∀ {l:List TE} {i:Nat},pO aW i l=true→∀ (a b:Nat) (x y:TE),a<b→l[a]?=some x→l[b]?=some y→(aW.getD (i+b) 0).testBit (i+a)=true∨ng x y=true
 | [],i,_,a,b,x,y,_,h,_=>by simp at h
 | z::r,i,hc,a,b,x,y,hab,hx,hy=>by
   simp only [pO,Bool.and_eq_true] at hc
   cases b with
   | zero=>omega
   | succ b=>
     simp only [List.getElem?_cons_succ] at hy
     cases a with
     | zero=>
       simp at hx;subst hx
       have:=EG hc.1 b y hy
       rwa [show i+1+b=i+(b+1) by omega] at this
     | succ a=>
       simp only [List.getElem?_cons_succ] at hx
       have:=EH hc.2 a b x y (by omega) hx hy
       rwa [show i+1+b=i+(b+1) by omega,show i+1+a=i+(a+1) by omega] at this
def AQ (n:Nat) (aW:List Nat):List (List Nat):=aW.map fun m=>(List.range n).filter fun k=>m.testBit k
theorem CM {n:Nat} {aW:List Nat} {i k:Nat}:k∈(AQ n aW).getD i []↔k<n∧(aW.getD i 0).testBit k=true:=by
 unfold AQ
 rw [List.getD_eq_getElem?_getD,List.getElem?_map,List.getD_eq_getElem?_getD]
 cases h:aW[i]? with
 | none=>simp
 | some m=>simp
def vn:Nat→List Oper→Bool
 | _,[]=>true
 | i,o::r=>(jY o).all (·< i) && vn (i+1) r
theorem Ea:∀ {ops:List Oper} {i:Nat},vn i ops=true→∀ (j:Nat) (o:Oper),ops[j]?=some o→∀ k∈jY o,k<i+j
 | [],i,_,j,o,h,_,_=>by simp at h
 | p::r,i,hb,j,o,h,k,hk=>by
   simp only [vn,Bool.and_eq_true,List.all_eq_true,decide_eq_true_eq] at hb
   cases j with
   | zero=>simp at h;subst h;exact hb.1 k hk
   | succ j=>have:=Ea hb.2 j o (by simpa using h) k hk;omega
def DG:Option (Nat×HB)→List Nat
 | none=>[]
 | some q=>[q.1]
def pH (P:Program) (f:FuncId) (args:List SV) (h:List (Option HB)) (K:SV→List (Option HB)→List Nat→List Nat→Prop):Prop:=
 ∃ pre us sv,aL P f args pre us sv∧aR (aB h) pre∧aV pre h us∧K sv (mA h us) (pre.map (·.1)) (us.map (·.1))
def yo (P:Program) (h:List (Option HB)) (K:SV→List (Option HB)→List Nat→List Nat→Prop):List SV→Prop
 | .fn f caps::args=>pH P f (args++caps) h K
 | .fK f caps::args=>pH P f (caps++args) h K
 | _=>False
def wJ (P:Program) (name:String) (h:List (Option HB)) (K:SV→List (Option HB)→List Nat→List Nat→Prop):List SV→Prop
 | s::args=>match oR s with
   | some (t,x)=>match oT P t name with
     | some (f,none)=>pH P f (x::args) h K
     | some (f,some (n,agg))=>match gE n agg (aB h) x with
       | some (p,y,_,rd)=>p∧pH P f (y::args) h fun sv h' pre us=>K sv h' (rd++pre) us
       | none=>False
     | none=>False
   | none=>False
 | _=>False
def zU (h:List (Option HB)) (K:SV→List (Option HB)→List Nat→List Nat→Prop):XR→Prop
 | some (p,sv,u,rd)=>p∧K sv (xB h u) rd (DG u)
 | none=>False
def tw (P:Program) (ao:AO) (args:List SV) (h:List (Option HB)) (K:SV→List (Option HB)→List Nat→List Nat→Prop):Prop:=
 match ao with
 | .call f=>pH P f args h K
 | .oB=>yo P h K args
 | .inv name=>wJ P name h K args
 | ao=>zU h K (bY ao args (aB h) h.length)
def RD (P:Program) (aW:List Nat) (K:St→Prop):List bH→List TE→St→Prop
 | [],acc,s=>pO aW 0 acc=true∧K s
 | op::r,acc,s=>match kZ (lk s.env) op.guard with
   | some true=>tw P op.ao (op.xs.map (jq (lk s.env))) s.h fun sv h' pre us=>RD P aW K r (acc++[⟨pg op,op.dst,pre,us⟩]) ⟨gu op.dst sv s.env,h'⟩
   | some false=>RD P aW K r (acc++[⟨pg op,op.dst,[],[]⟩]) ⟨gu op.dst (.aO []) s.env,s.h⟩
   | none=>False
theorem Df {hp:Hp}:∀ {rd:List Nat},(∀ id∈rd,(hp id).isSome=true)→(rd.filterMap fun id=>(hp id).map fun hb=>(id,hb)).map (·.1)=rd
 | [],_=>rfl
 | x::r,h=>by
   obtain ⟨hb,hx⟩:=Option.isSome_iff_exists.1 (h x (by simp))
   simp only [List.filterMap_cons,hx,Option.map_some,List.map_cons]
   rw [Df (fun id hid=>h id (by simp [hid]))]
theorem Tf {P:Program} {o:Oper} {ao:AO} {gT:List Operand} (hc:kY P o.op=some (ao,gT)) {args:List SV} {h:List (Option HB)} {K:SV→List (Option HB)→List Nat→List Nat→Prop} (hW:tw P ao args h K) :
 ∃ pre us sv,pI P o args pre us sv∧aR (aB h) pre∧aV pre h us∧K sv (mA h us) (pre.map (·.1)) (us.map (·.1)):=by
 unfold tw at hW
 split at hW
 ·obtain ⟨pre,us,sv,h1,h2,h3,h4⟩:=hW
  exact ⟨pre,us,sv,HL hc h1,h2,h3,h4⟩
 ·unfold yo at hW
  split at hW
  ·obtain ⟨pre,us,sv,h1,h2,h3,h4⟩:=hW
   exact ⟨pre,us,sv,HN hc h1,h2,h3,h4⟩
  ·obtain ⟨pre,us,sv,h1,h2,h3,h4⟩:=hW
   exact ⟨pre,us,sv,HM hc h1,h2,h3,h4⟩
  ·exact hW.elim
 ·unfold wJ at hW
  split at hW
  ·rename_i s jc
   split at hW
   ·rename_i t x hi
    split at hW
    ·rename_i f hf
     obtain ⟨pre,us,sv,h1,h2,h3,h4⟩:=hW
     exact ⟨pre,us,sv,CU hc hi hf (y:=x) (fun hp hP=>rfl) (fun q hq=>hq) h1 (fun C hp hn _=>hn),h2,h3,h4⟩
    ·rename_i f n agg hf
     split at hW
     ·rename_i p y u rd hE
      obtain ⟨aE,pre,us,sv,h1,h2,h3,h4⟩:=hW
      obtain ⟨g1,g2,g3⟩:=Gq hc hi hf hE aE h1 h2 h3
      refine ⟨_,us,sv,g1,g2,g3,?_⟩
      rw [List.map_append]
      have:(uM h rd).map (·.1)=rd:=Df (fun id hid=>Hi hE id hid)
      rw [this];exact h4
     ·exact hW.elim
    ·exact hW.elim
   ·exact hW.elim
  ·exact hW.elim
 ·unfold zU at hW
  split at hW
  ·rename_i p sv u rd hE
   obtain ⟨hp,hK⟩:=hW
   have oL:aB h h.length=none:=by unfold aB;rw [List.getElem?_eq_none (Nat.le_refl _)]
   have ur:=CT hE
   refine ⟨_,xA u,sv,HO hc hE hp oL,fun q hq=>?_,?_,?_⟩
   ·obtain ⟨id,_,hid⟩:=List.mem_filterMap.1 hq
    cases fX:aB h id with
    | none=>simp [fX] at hid
    | some hb=>simp [fX] at hid;subst hid;exact fX
   ·cases u with
    | none=>trivial
    | some q=>
      refine ⟨?_,trivial⟩
      rcases ur.1 q rfl with h1 | h1
      ·exact .inl h1
      ·right
       have hs:=ur.2 _ h1
       obtain ⟨hb,pV⟩:=Option.isSome_iff_exists.1 hs
       refine ⟨?_,hb,List.mem_filterMap.2 ⟨q.1,h1,by simp [pV]⟩⟩
       unfold aB at pV
       cases hl:h[q.1]? with
       | none=>simp [hl] at pV
       | some x=>exact (List.getElem?_eq_some_iff.1 hl).1
   ·have:=Df (hp:=aB h) (rd:=rd) (fun id hid=>ur.2 id hid)
    rw [this]
    cases u with
    | none=>exact hK
    | some q=>exact hK
  ·exact hW.elim
def rS:List bH→List EN→List TE
 | op::l,e::es=>jm op e::rS l es
 | _,_=>[]
theorem DC:∀ {l:List bH} {es:List EN} {a:Nat} {op:bH} {e:EN},l[a]?=some op→es[a]?=some e→(rS l es)[a]?=some (jm op e)
 | [],es,a,op,e,h,_=>by simp at h
 | _::_,[],a,op,e,_,h=>by simp at h
 | p::l,q::es,a,op,e,h1,h2=>by
   cases a with
   | zero=>simp at h1 h2;subst h1;subst h2;rfl
   | succ a=>simp only [rS,List.getElem?_cons_succ] at h1 h2 ⊢;exact DC h1 h2
theorem Dg {P:Program} {ops:Array Oper} {N:Nat} {aW:List Nat} {K:St→Prop}:∀ (l:List bH) (i:Nat) (acc:List TE) (s:St),(∀ (j:Nat) (op:bH),l[j]?=some op→∃ o,ops[i+j]?=some o∧nM P ops N o=some op)→RD P aW K l acc s→
 ∃ es s',Tr P ops i l s es s'∧pO aW 0 (acc++rS l es)=true∧K s'
 | [],i,acc,s,_,h=>⟨[],s,rfl,by simpa [rS] using h.1,h.2⟩
 | op::l,i,acc,s,hc,h=>by
   have nQ:∀ (j:Nat) (op:bH),l[j]?=some op→∃ o,ops[i+1+j]?=some o∧nM P ops N o=some op:=fun j op' hj=>by
    have:=hc (j+1) op' (by simpa using hj)
    rwa [show i+(j+1)=i+1+j by omega] at this
   obtain ⟨o,ho,mM⟩:=hc 0 op rfl
   rw [Nat.add_zero] at ho
   obtain ⟨gT,ri,mc,uo,uq⟩:=Be mM
   unfold RD at h
   split at h
   ·rename_i hg
    obtain ⟨pre,us,sv,h1,h2,h3,h4⟩:=Tf ri h
    obtain ⟨es,s',g1,g2,g3⟩:=Dg l (i+1) _ _ nQ h4
    refine ⟨.run (op.xs.map (jq (lk s.env))) pre us sv::es,s',⟨⟨hg,rfl,fun o' ho'=>?_,h2,h3⟩,g1⟩,?_,g3⟩
    ·rw [ho] at ho';cases ho';exact h1
    ·simpa [rS,jm] using g2
   ·rename_i hg
    obtain ⟨es,s',g1,g2,g3⟩:=Dg l (i+1) _ _ nQ h
    exact ⟨.skip::es,s',⟨hg,g1⟩,by simpa [rS,jm] using g2,g3⟩
   ·exact h.elim
theorem TO {P:Program} {C:Ctx} {n0:Nat} {ops:Array Oper} {K:St→Prop} {Q:Exit→Act→World→Prop} {l:List bH} (hm:P.follows .mixedOrders=true) (hsz:ops.size=l.length) (FE:∀ (j:Nat) (op:bH),l[j]?=some op→∃ o,ops[j]?=some o∧nM P ops C.N o=some op)
 (NR:vn 0 ops.toList=true) {s:St} {a:Act} {w:World} (h:RD P (ox ops.toList []) K l [] s) (R:jE C n0 s a w) (hK:∀ s a w,K s→jE C n0 s a w→Q .normal a w) (id:Nat):(Code.region id ops true).wp P Q a w:=by
 refine wp_region_any hm ?_
 obtain ⟨es,s',h1,h2,h3⟩:=Dg l 0 [] s (fun j op hj=>by rw [Nat.zero_add];exact FE j op hj) h
 have H:jP P ops C.N l es s s' (AQ l.length (ox ops.toList [])):=by
  refine ⟨h1,hsz,FE,fun i o ho k hk=>?_,fun i o ho k hk=>?_,fun x y CV CW ea eb hxy ha hb Oa Ob=>?_⟩
  ·have:=Ea NR i o (by simpa using ho) k hk;omega
  ·obtain ⟨gX,hk⟩:=CM.1 hk
   have:=Ec ops.toList [] i o (by simpa using ho) k (by simpa using hk)
   rcases this with g | ⟨x,hx,g⟩
   ·exact ⟨jY o,fun x hx=>hx,.inl g⟩
   ·exact ⟨jY o,fun x hx=>hx,.inr ⟨x,hx,CM.2 ⟨gX,g⟩⟩⟩
  ·have:=EH (aW:=ox ops.toList []) (l:=rS l es) (i:=0) (by simpa using h2) x y _ _ hxy (DC ha Oa) (DC hb Ob)
   rw [Nat.zero_add,Nat.zero_add] at this
   refine this.imp (fun h=>CM.2 ⟨(List.getElem?_eq_some_iff.1 ha).1,h⟩) (fun h=>h)
 have hlen:=h1.length
 obtain ⟨aa,RF⟩:=R.rep
 have hst:=Jn P ops h1 l.length (Nat.le_refl _)
 rw [h1.last] at hst
 have lI:kg C (lk s.env) (aB s.h) a { w with drawn:=w.drawn+1 } aa:=RF.step (RF.mem.quiet (w':={ w with drawn:=w.drawn+1 }) rfl rfl rfl rfl)
 refine Uk H rfl R.wR R.h0 (fun a w aa RF=>hK s' a w h3 ⟨⟨aa,RF⟩,Nat.le_trans R.wR hst,R.h0⟩) ops.size _ (lk s.env) (aB s.h) a _ aa (by simp) ?_ ?_ ?_ lI
 ·rw [hsz];exact Ez _ _
 ·intro i o ho hL
  exfalso
  simp only [Lf,Array.getD_eq_getD_getElem?,Array.getElem?_replicate] at hL
  split at hL <;> simp at hL
 ·have hf:∀ i,Lf (Array.replicate ops.size false) i=false:=fun i=>by
   simp only [Lf,Array.getD_eq_getD_getElem?,Array.getElem?_replicate]
   split <;> simp
  refine ⟨fun m=>⟨0,by omega,?_,fun i op hi=>by omega,fun i op _ _ _=>hf i⟩,fun id=>⟨0,by omega,?_,fun i op e hi=>by omega,fun i op e _ _ _ _=>hf i⟩⟩
  ·cases l <;> cases es <;> rfl
  ·cases l <;> cases es <;> rfl
end Go.aJ

namespace Go.aJ
open Go
inductive AC where
 | skip
 | zY (ops:List bH)
 | zZ (aW:List Nat) (ops:List bH)
 | seq (a b:AC)
 | cond (x:XO) (a b:AC)
 | block (id:Nat) (a:AC)
 | loop (a:AC)
 | exit (id:Nat)
 | ret
 | sD
 deriving Inhabited
def AC.ue:AC→Bool
 | .seq a b=>a.ue && b.ue
 | .cond _ a b=>a.ue || b.ue
 | .loop _ | .exit _ | .ret=>false
 | _=>true
def yA (P:Program) (ops:Array Oper) (N:Nat):List Oper→Option (List bH)
 | []=>some []
 | o::r=>match nM P ops N o,yA P ops N r with
   | some x,some l=>some (x::l)
   | _,_=>none
theorem Bf {P:Program} {ops:Array Oper} {N:Nat}:∀ {os:List Oper} {l:List bH},yA P ops N os=some l→os.length=l.length∧∀ (j:Nat) (op:bH),l[j]?=some op→∃ o,os[j]?=some o∧nM P ops N o=some op
 | [],l,h=>by cases h;exact ⟨rfl,fun j op hj=>by simp at hj⟩
 | o::r,l,h=>by
   unfold yA at h
   split at h
   ·rename_i x l' hx hl
    cases h
    obtain ⟨g1,g2⟩:=Bf hl
    refine ⟨by simp [g1],fun j op hj=>?_⟩
    cases j with
    | zero=>simp at hj;subst hj;exact ⟨o,rfl,hx⟩
    | succ j=>simp only [List.getElem?_cons_succ] at hj ⊢;exact g2 j op hj
   ·cases h
def comp (P:Program) (N:Nat):Code→Option AC
 | .skip=>some .skip
 | .region _ ops draw=>match draw,yA P ops N ops.toList with
   | false,some l=>some (.zY l)
   | true,some l=>if P.follows .mixedOrders && vn 0 ops.toList then some (.zZ (ox ops.toList []) l) else none
   | _,none=>none
 | .seq a b=>match comp P N a,comp P N b with
   | some x,some y=>some (.seq x y)
   | _,_=>none
 | .cond c a b=>match Bh c,comp P N a,comp P N b with
   | some q,some x,some y=>if x.ue && y.ue then some (.seq (.cond q x y) .sD) else some (.cond q x y)
   | _,_,_=>none
 | .block id c=>match comp P N c with
   | some x=>some (.seq (.block id x) .sD)
   | none=>none
 | .loop c=>match comp P N c with
   | some x=>some (.loop x)
   | none=>none
 | .exit id=>some (.exit id)
 | .ret=>some .ret
 | _=>none
inductive Ex where
 | normal
 | exit (id:Nat)
 | ret
def Ex.Ap:Ex→Exit
 | .normal=>.normal
 | .exit id=>.exit id
 | .ret=>.ret
def gi (n0:Nat) (s s':St):Prop:=∀ C a w,jE C n0 s a w→jE C n0 s' a w
def nE (n:St→Prop) (K:Ex→St→Prop):Ex→St→Prop
 | .normal,s=>n s
 | .exit id,s=>K (.exit id) s
 | .ret,s=>K .ret s
def ya (id:Nat) (K:Ex→St→Prop):Ex→St→Prop
 | .normal,s=>K .normal s
 | .exit j,s=>if j=id then K .normal s else K (.exit j) s
 | .ret,s=>K .ret s
def yC (T F:Prop):SV→Prop
 | .rv (.bool t)=>if t=true then T else F
 | _=>False
def W (P:Program) (n0:Nat):AC→(Ex→St→Prop)→St→Prop
 | .skip,K,s=>K .normal s
 | .zY ops,K,s=>RW P (K .normal) ops s
 | .zZ aW ops,K,s=>RD P aW (K .normal) ops [] s
 | .seq a b,K,s=>W P n0 a (nE (W P n0 b K) K) s
 | .cond x a b,K,s=>yC (W P n0 a K s) (W P n0 b K s) (jq (lk s.env) x)
 | .block id a,K,s=>W P n0 a (ya id K) s
 | .loop a,K,s=>∃ (ι:Type) (σ:ι→St) (pr:ι→Prop) (μ:ι→Nat) (i0:ι),pr i0∧gi n0 s (σ i0)∧∀ i,pr i→W P n0 a (nE (fun s'=>∃ i',pr i'∧μ i'<μ i∧gi n0 s' (σ i')) K) (σ i)
 | .exit id,K,s=>K (.exit id) s
 | .ret,K,s=>K .ret s
 | .sD,K,s=>∃ s',gi n0 s s'∧K .normal s'
theorem An {n n':St→Prop} {K K':Ex→St→Prop} (hn:∀ s,n s→n' s) (h:∀ e s,K e s→K' e s):∀ e s,nE n K e s→nE n' K' e s
 | .normal,s,hk=>hn s hk
 | .exit id,s,hk=>h _ s hk
 | .ret,s,hk=>h _ s hk
theorem Lp {id:Nat} {K K':Ex→St→Prop} (h:∀ e s,K e s→K' e s):∀ e s,ya id K e s→ya id K' e s
 | .normal,s,hk=>h _ s hk
 | .exit j,s,hk=>by
   have hk':if j=id then K .normal s else K (.exit j) s:=hk
   show if j=id then K' .normal s else K' (.exit j) s
   by_cases hj:j=id
   ·rw [if_pos hj] at hk' ⊢;exact h _ s hk'
   ·rw [if_neg hj] at hk' ⊢;exact h _ s hk'
 | .ret,s,hk=>h _ s hk
theorem Th {P:Program} {ao:AO} {args:List SV} {h:List (Option HB)} {K K':SV→List (Option HB)→Prop} (hk:∀ sv h,K sv h→K' sv h) (hw:tD P ao args h K):tD P ao args h K':=by
 have hc:∀ f args,qO P f args h K→qO P f args h K':=fun f args ⟨pre,us,sv,h1,h2,h3,h4⟩=>⟨pre,us,sv,h1,h2,h3,hk _ _ h4⟩
 unfold tD at hw ⊢
 split at hw
 ·exact hc _ _ hw
 ·unfold yp at hw ⊢
  split at hw
  ·exact hc _ _ hw
  ·exact hc _ _ hw
  ·exact hw.elim
 ·unfold wK at hw ⊢
  split at hw
  ·split at hw
   ·split at hw
    ·exact hc _ _ hw
    ·split at hw
     ·exact ⟨hw.1,hc _ _ hw.2⟩
     ·exact hw.elim
    ·exact hw.elim
   ·exact hw.elim
  ·exact hw.elim
 ·unfold zV at hw ⊢
  split at hw
  ·exact ⟨hw.1,hk _ _ hw.2⟩
  ·exact hw.elim
theorem AE {P:Program} {K K':St→Prop} (hk:∀ s,K s→K' s):∀ {l:List bH} {s:St},RW P K l s→RW P K' l s
 | [],s,h=>hk s h
 | op::l,s,h=>by
   unfold RW at h ⊢
   split at h
   ·exact Th (fun sv h' hh=>AE hk hh) h
   ·exact AE hk h
   ·exact h.elim
theorem Te {P:Program} {ao:AO} {args:List SV} {h:List (Option HB)} {K K':SV→List (Option HB)→List Nat→List Nat→Prop} (hk:∀ sv h p u,K sv h p u→K' sv h p u) (hw:tw P ao args h K):tw P ao args h K':=by
 have hc:∀ f args,pH P f args h K→pH P f args h K':=fun f args ⟨pre,us,sv,h1,h2,h3,h4⟩=>⟨pre,us,sv,h1,h2,h3,hk _ _ _ _ h4⟩
 have hcd:∀ f args rd,(pH P f args h fun sv h' pre us=>K sv h' (rd++pre) us)→pH P f args h fun sv h' pre us=>K' sv h' (rd++pre) us:=fun f args rd ⟨pre,us,sv,h1,h2,h3,h4⟩=>⟨pre,us,sv,h1,h2,h3,hk _ _ _ _ h4⟩
 unfold tw at hw ⊢
 split at hw
 ·exact hc _ _ hw
 ·unfold yo at hw ⊢
  split at hw
  ·exact hc _ _ hw
  ·exact hc _ _ hw
  ·exact hw.elim
 ·unfold wJ at hw ⊢
  split at hw
  ·split at hw
   ·split at hw
    ·exact hc _ _ hw
    ·split at hw
     ·exact ⟨hw.1,hcd _ _ _ hw.2⟩
     ·exact hw.elim
    ·exact hw.elim
   ·exact hw.elim
  ·exact hw.elim
 ·unfold zU at hw ⊢
  split at hw
  ·exact ⟨hw.1,hk _ _ _ _ hw.2⟩
  ·exact hw.elim
theorem AD {P:Program} {aW:List Nat} {K K':St→Prop} (hk:∀ s,K s→K' s):∀ {l:List bH} {acc:List TE} {s:St},RD P aW K l acc s→RD P aW K' l acc s
 | [],acc,s,h=>⟨h.1,hk s h.2⟩
 | op::l,acc,s,h=>by
   unfold RD at h ⊢
   split at h
   ·exact Te (fun sv h' p u hh=>AD hk hh) h
   ·exact AD hk h
   ·exact h.elim
theorem qQ {P:Program} {n0:Nat}:∀ {ac:AC} {K K':Ex→St→Prop} {s:St},(∀ e s,K e s→K' e s)→W P n0 ac K s→W P n0 ac K' s
 | .skip,K,K',s,h,hw=>h _ _ hw
 | .zY ops,K,K',s,h,hw=>AE (h _) hw
 | .zZ aW ops,K,K',s,h,hw=>AD (h _) hw
 | .seq a b,K,K',s,h,hw=>qQ (ac:=a) (An (fun s hb=>qQ (ac:=b) h hb) h) hw
 | .cond x a b,K,K',s,h,hw=>by
   unfold W yC at hw ⊢
   split at hw
   ·split at hw
    ·rename_i ht;rw [if_pos ht];exact qQ (ac:=a) h hw
    ·rename_i ht;rw [if_neg ht];exact qQ (ac:=b) h hw
   ·exact hw.elim
 | .block id a,K,K',s,h,hw=>qQ (ac:=a) (Lp h) hw
 | .loop a,K,K',s,h,hw=>by
   obtain ⟨ι,σ,pr,μ,i0,h0,he,hr⟩:=hw
   exact ⟨ι,σ,pr,μ,i0,h0,he,fun i hi=>qQ (ac:=a) (An (fun s hs=>hs) h) (hr i hi)⟩
 | .exit id,K,K',s,h,hw=>h _ _ hw
 | .ret,K,K',s,h,hw=>h _ _ hw
 | .sD,K,K',s,h,hw=>by obtain ⟨s',h1,h2⟩:=hw;exact ⟨s',h1,h _ _ h2⟩
theorem least {p:Nat→Prop} (h:∃ m,p m):∃ m,p m∧∀ k,p k→m≤k:=by
 obtain ⟨m,hm⟩:=h
 induction m using Nat.strongRecOn with
 | _ m ih=>
   by_cases hl:∃ k,p k∧k<m
   ·obtain ⟨k,hk,hlt⟩:=hl
    exact ih k hlt hk
   ·exact ⟨m,hm,fun k hk=>by
     by_cases hlt:k<m
     ·exact absurd ⟨k,hk,hlt⟩ hl
     ·omega⟩
theorem EU {P:Program} {n0:Nat} {C:Ctx} {K:Ex→St→Prop} {Q:Exit→Act→World→Prop} (hq:∀ e s a w,K e s→jE C n0 s a w→Q e.Ap a w) :
 ∀ e s a w,nE (W P n0 .sD K) K e s→jE C n0 s a w→Q e.Ap a w
 | .normal,s,a,w,⟨s',h1,h2⟩,R=>hq .normal s' a w h2 (h1 C a w R)
 | .exit id,s,a,w,hk,R=>hq (.exit id) s a w hk R
 | .ret,s,a,w,hk,R=>hq .ret s a w hk R
theorem Ww {P:Program} {n0:Nat} {C:Ctx}:∀ (c:Code) (ac:AC) (K:Ex→St→Prop) (Q:Exit→Act→World→Prop) (s:St) (a:Act) (w:World),comp P C.N c=some ac→W P n0 ac K s→jE C n0 s a w→(∀ e s a w,K e s→jE C n0 s a w→Q e.Ap a w)→c.wp P Q a w:=by
 intro c
 induction c with
 | skip=>intro ac K Q s a w hc hw R hq;cases hc;exact wp_skip (hq _ _ _ _ hw R)
 | region id ops draw=>
   intro ac K Q s a w hc hw R hq
   unfold comp at hc
   split at hc
   ·rename_i l hl
    cases hc
    obtain ⟨g1,g2⟩:=Bf hl
    refine wp_region (IB (C:=C) (n0:=n0) (fun s a w hk R=>hq .normal s a w hk R) l _ s a w (by simpa using g1) (fun j i op hi hj=>?_) hw R)
    obtain ⟨o,ho,mM⟩:=g2 j op hj
    have hlt:j<ops.size:=by
     have:=(List.getElem?_eq_some_iff.1 hj).1
     have e:ops.toList.length=ops.size:=by simp
     omega
    rw [List.getElem?_range hlt] at hi
    cases hi
    exact ⟨o,by simpa using ho,mM⟩
   ·rename_i l hl
    split at hc
    ·rename_i hb
     cases hc
     simp only [Bool.and_eq_true] at hb
     obtain ⟨g1,g2⟩:=Bf hl
     exact TO hb.1 (by simpa using g1) (fun j op hj=>by
      obtain ⟨o,ho,mM⟩:=g2 j op hj
      exact ⟨o,by simpa using ho,mM⟩) hb.2 hw R (fun s a w hk R=>hq .normal s a w hk R) id
    ·cases hc
   ·cases hc
 | seq x y Cr Cs=>
   intro ac K Q s a w hc hw R hq
   unfold comp at hc
   split at hc
   ·rename_i x' y' hx hy
    cases hc
    refine wp_seq (Cr x' _ _ s a w hx hw R (fun e s a w hk R=>?_))
    cases e with
    | normal=>exact Cs y' K Q s a w hy hk R hq
    | exit id=>exact hq (.exit id) s a w hk R
    | ret=>exact hq .ret s a w hk R
   ·cases hc
 | cond c x y Cr Cs=>
   intro ac K Q s a w hc hw R hq
   unfold comp at hc
   split at hc
   ·rename_i q x' y' BP hx hy
    have base:∀ (K:Ex→St→Prop),W P n0 (.cond q x' y') K s→(∀ e s a w,K e s→jE C n0 s a w→Q e.Ap a w)→(Code.cond c x y).wp P Q a w:=by
     intro K hw hq
     unfold W yC at hw
     split at hw
     ·rename_i t ht
      obtain ⟨aa,RF⟩:=R.rep
      have hA:=xX RF (xs:=[c]) (ys:=[q]) (by simp [tZ,BP])
      cases hA with
      | cons h1 _=>
        rw [ht] at h1
        have hb:=tG h1
        refine wp_cond hb ?_
        cases t with
        | true=>exact Cr x' K Q s a w hx (by simpa using hw) R hq
        | false=>exact Cs y' K Q s a w hy (by simpa using hw) R hq
     ·exact hw.elim
    split at hc
    ·cases hc
     exact base _ hw (EU hq)
    ·cases hc
     exact base K hw hq
   ·cases hc
 | block id c ih=>
   intro ac K Q s a w hc hw R hq
   unfold comp at hc
   split at hc
   ·rename_i x hx
    cases hc
    have fX:=EU (P:=P) hq
    refine wp_block (ih x _ _ s a w hx hw R (fun e s a w hk R=>?_))
    cases e with
    | normal=>exact fX .normal s a w hk R
    | exit j=>
      have hk':if j=id then (∃ s',gi n0 s s'∧K .normal s') else K (.exit j) s:=hk
      show if j=id then Q .normal a w else Q (.exit j) a w
      by_cases hj:j=id
      ·rw [if_pos hj] at hk' ⊢;exact fX .normal s a w hk' R
      ·rw [if_neg hj] at hk' ⊢;exact hq (.exit j) s a w hk' R
    | ret=>exact hq .ret s a w hk R
   ·cases hc
 | loop c ih=>
   intro ac K Q s a w hc hw R hq
   unfold comp at hc
   split at hc
   ·rename_i x hx
    cases hc
    obtain ⟨ι,σ,pr,μ,i0,h0,he,hr⟩:=hw
    have key:∀ n i,μ i=n→pr i→∀ a w,jE C n0 (σ i) a w→(Code.loop c).wp P Q a w:=by
     classical
     intro n i hn hi a w R
     let I:Act→World→Prop:=fun a w=>∃ i,pr i∧jE C n0 (σ i) a w
     have hex:∀ a w,I a w→∃ m,∃ i,pr i∧jE C n0 (σ i) a w∧μ i=m:=fun a w ⟨i,h1,h2⟩=>⟨μ i,i,h1,h2,rfl⟩
     have FH:∀ a w,∃ m,I a w→(∃ i,pr i∧jE C n0 (σ i) a w∧μ i=m)∧∀ i,pr i→jE C n0 (σ i) a w→m≤μ i:=fun a w=>by
      by_cases h:I a w
      ·obtain ⟨m,hm,hl⟩:=least (p:=fun m=>∃ i,pr i∧jE C n0 (σ i) a w∧μ i=m) (hex a w h)
       exact ⟨m,fun _=>⟨hm,fun i hi hR=>hl _ ⟨i,hi,hR,rfl⟩⟩⟩
      ·exact ⟨0,fun h'=>absurd h' h⟩
     let M:Act→World→Nat:=fun a w=>(FH a w).choose
     have hM:∀ a w,I a w→(∃ i,pr i∧jE C n0 (σ i) a w∧μ i=M a w)∧∀ i,pr i→jE C n0 (σ i) a w→M a w≤μ i:=fun a w h=>(FH a w).choose_spec h
     refine wp_loop I M ⟨i,hi,R⟩ (fun a w hI=>?_)
     obtain ⟨⟨j,hj,hR,Xb⟩,_⟩:=hM a w hI
     refine ih x _ _ (σ j) a w hx (hr j hj) hR (fun e s' a' w' hk R'=>?_)
     cases e with
     | normal=>
       obtain ⟨j',hj',hlt,Oc⟩:=hk
       have Fw:=Oc C a' w' R'
       have Fv:I a' w':=⟨j',hj',Fw⟩
       refine ⟨Fv,?_⟩
       have:=(hM a' w' Fv).2 j' hj' Fw
       omega
     | exit id=>exact hq (.exit id) s' a' w' hk R'
     | ret=>exact hq .ret s' a' w' hk R'
    exact key _ i0 rfl h0 a w (he C a w R)
   ·cases hc
 | exit id=>intro ac K Q s a w hc hw R hq;cases hc;exact wp_exit (hq _ _ _ _ hw R)
 | ret=>intro ac K Q s a w hc hw R hq;cases hc;exact wp_ret (hq _ _ _ _ hw R)
 | rangeFunc=>intro ac K Q s a w hc;cases hc
 | scope=>intro ac K Q s a w hc;cases hc
 | label=>intro ac K Q s a w hc;cases hc
 | goto=>intro ac K Q s a w hc;cases hc
 | refuse=>intro ac K Q s a w hc;cases hc
end Go.aJ

namespace Go.aJ
open Go
inductive It where
 | c (a:AC)
 | o (l:List bH)
 | d (aW:List Nat) (acc:List TE) (l:List bH)
 | b (id:Nat)
 | l (m:Nat) (a:AC)
def WL (P:Program) (n0 m:Nat) (a:AC) (K:Ex→St→Prop) (s:St):Prop:=
 ∃ (ι:Type) (σ:ι→St) (pr:ι→Prop) (μ:ι→Nat) (i0:ι),(pr i0∧μ i0≤m)∧gi n0 s (σ i0)∧∀ i,pr i→W P n0 a (nE (fun s'=>∃ i',pr i'∧μ i'<μ i∧gi n0 s' (σ i')) K) (σ i)
theorem KE {P:Program} {n0 m:Nat} {a:AC} {K:Ex→St→Prop} {s:St} (h:WL P n0 m a K s):W P n0 (.loop a) K s:=by
 obtain ⟨ι,σ,pr,μ,i0,⟨h1,_⟩,h2,h3⟩:=h
 exact ⟨ι,σ,pr,μ,i0,h1,h2,h3⟩
theorem KF {P:Program} {n0 m:Nat} {a:AC} {K:Ex→St→Prop} {s:St} (h:W P n0 a (nE (WL P n0 m a K) K) s):WL P n0 (m+1) a K s:=by
 let Inv:St→Nat→Prop:=fun s k=>k≤m∧∃ (ι:Type) (σ:ι→St) (pr:ι→Prop) (μ:ι→Nat) (i:ι),pr i∧σ i=s∧μ i=k∧∀ i,pr i→W P n0 a (nE (fun s'=>∃ i',pr i'∧μ i'<μ i∧gi n0 s' (σ i')) K) (σ i)
 refine ⟨Option (St×Nat),fun o=>(o.map (·.1)).getD s,fun o=>∀ q,o=some q→Inv q.1 q.2,fun o=>match o with | some q=>q.2 | none=>m+1,none,⟨fun q hq=>(by cases hq),Nat.le_refl _⟩,fun _ _ _ R=>R,fun o ho=>?_⟩
 cases o with
 | none=>
   refine qQ (fun e s' hs=>?_) h
   revert hs
   refine An (fun s' hs=>?_) (fun _ _ hk=>hk) e s'
   obtain ⟨ι,σ,pr,μ,i0,⟨h1,h2⟩,h3,h4⟩:=hs
   exact ⟨some (σ i0,μ i0),fun q hq=>(by cases hq;exact ⟨h2,ι,σ,pr,μ,i0,h1,rfl,rfl,h4⟩),Nat.lt_succ_of_le h2,h3⟩
 | some q=>
   obtain ⟨hk,ι,σ,pr,μ,i,h1,h2,h3,h4⟩:=ho q rfl
   have:=h4 i h1
   rw [h2] at this
   refine qQ (fun e s' hs=>?_) this
   revert hs
   refine An (fun s' hs=>?_) (fun _ _ hk=>hk) e s'
   obtain ⟨i',g1,g2,g3⟩:=hs
   exact ⟨some (σ i',μ i'),fun q' hq=>(by cases hq;exact ⟨by omega,ι,σ,pr,μ,i',g1,rfl,rfl,h4⟩),(by show μ i'<q.2;omega),g3⟩
def CI (P:Program) (n0:Nat):List It→(Ex→St→Prop)→Ex→St→Prop
 | [],K=>K
 | .c a::k,K=>nE (W P n0 a (CI P n0 k K)) (CI P n0 k K)
 | .o l::k,K=>nE (RW P (CI P n0 k K .normal) l) (CI P n0 k K)
 | .d aW acc l::k,K=>nE (RD P aW (CI P n0 k K .normal) l acc) (CI P n0 k K)
 | .b id::k,K=>ya id (CI P n0 k K)
 | .l m a::k,K=>nE (WL P n0 m a (CI P n0 k K)) (CI P n0 k K)
def G (P:Program) (n0:Nat) (k:List It) (K:Ex→St→Prop) (env:List (Nat×SV)) (h:List (Option HB)):Prop:=CI P n0 k K .normal ⟨env,h⟩
def GX (P:Program) (n0:Nat) (id:Nat) (k:List It) (K:Ex→St→Prop) (env:List (Nat×SV)) (h:List (Option HB)):Prop:=CI P n0 k K (.exit id) ⟨env,h⟩
def yB (P:Program) (n0:Nat) (a b:AC) (k:List It) (K:Ex→St→Prop) (env:List (Nat×SV)) (h:List (Option HB)):SV→Prop
 | .rv (.bool t)=>if t=true then G P n0 (.c a::k) K env h else G P n0 (.c b::k) K env h
 | _=>False
def su (P:Program) (n0:Nat) (f:FuncId) (args:List SV) (dst:Option Nat) (r:List bH) (k:List It) (K:Ex→St→Prop) (env:List (Nat×SV)) (h:List (Option HB)):Prop:=
 qO P f args h fun sv h'=>G P n0 (.o r::k) K (gu dst sv env) h'
def AV (P:Program) (n0:Nat) (dst:Option Nat) (r:List bH) (k:List It) (K:Ex→St→Prop) (env:List (Nat×SV)) (h:List (Option HB)):List SV→Prop
 | .fn f caps::args=>su P n0 f (args++caps) dst r k K env h
 | .fK f caps::args=>su P n0 f (caps++args) dst r k K env h
 | _=>False
def zz (P:Program) (n0:Nat) (name:String) (dst:Option Nat) (r:List bH) (k:List It) (K:Ex→St→Prop) (env:List (Nat×SV)) (h:List (Option HB)):List SV→Prop
 | s::args=>match oR s with
   | some (t,x)=>match oT P t name with
     | some (f,none)=>su P n0 f (x::args) dst r k K env h
     | some (f,some (n,agg))=>match gE n agg (aB h) x with
       | some (p,y,_,_)=>p∧su P n0 f (y::args) dst r k K env h
       | none=>False
     | none=>False
   | none=>False
 | _=>False
def Db (P:Program) (n0:Nat) (dst:Option Nat) (r:List bH) (k:List It) (K:Ex→St→Prop) (env:List (Nat×SV)) (h:List (Option HB)):XR→Prop
 | some (p,sv,u,_)=>p∧G P n0 (.o r::k) K (gu dst sv env) (xB h u)
 | none=>False
def tC (P:Program) (n0:Nat) (ao:AO) (args:List SV) (dst:Option Nat) (r:List bH) (k:List It) (K:Ex→St→Prop) (env:List (Nat×SV)) (h:List (Option HB)):Prop:=
 match ao with
 | .call f=>su P n0 f args dst r k K env h
 | .oB=>AV P n0 dst r k K env h args
 | .inv name=>zz P n0 name dst r k K env h args
 | ao=>Db P n0 dst r k K env h (bY ao args (aB h) h.length)
def sJ (P:Program) (n0:Nat) (b:Bool) (ao:AO) (xs:List XO) (dst:Option Nat) (r:List bH) (k:List It) (K:Ex→St→Prop) (env:List (Nat×SV)) (h:List (Option HB)):SV→Prop
 | .rv (.bool t)=>if t=b then tC P n0 ao (xs.map (jq (lk env))) dst r k K env h else G P n0 (.o r::k) K (gu dst (.aO []) env) h
 | .aO []=>G P n0 (.o r::k) K (gu dst (.aO []) env) h
 | _=>False
def sw (P:Program) (n0:Nat) (aW:List Nat) (acc:List TE) (fF rI:List Nat) (f:FuncId) (args:List SV) (dst:Option Nat) (r:List bH) (k:List It) (K:Ex→St→Prop) (env:List (Nat×SV)) (h:List (Option HB)):Prop:=
 pH P f args h fun sv h' pre us=>G P n0 (.d aW (acc++[⟨fF,dst,rI++pre,us⟩]) r::k) K (gu dst sv env) h'
def AW (P:Program) (n0:Nat) (aW:List Nat) (acc:List TE) (fF:List Nat) (dst:Option Nat) (r:List bH) (k:List It) (K:Ex→St→Prop) (env:List (Nat×SV)) (h:List (Option HB)):List SV→Prop
 | .fn f caps::args=>sw P n0 aW acc fF [] f (args++caps) dst r k K env h
 | .fK f caps::args=>sw P n0 aW acc fF [] f (caps++args) dst r k K env h
 | _=>False
def zA (P:Program) (n0:Nat) (aW:List Nat) (acc:List TE) (fF:List Nat) (name:String) (dst:Option Nat) (r:List bH) (k:List It) (K:Ex→St→Prop) (env:List (Nat×SV)) (h:List (Option HB)):List SV→Prop
 | s::args=>match oR s with
   | some (t,x)=>match oT P t name with
     | some (f,none)=>sw P n0 aW acc fF [] f (x::args) dst r k K env h
     | some (f,some (n,agg))=>match gE n agg (aB h) x with
       | some (p,y,_,rd)=>p∧sw P n0 aW acc fF rd f (y::args) dst r k K env h
       | none=>False
     | none=>False
   | none=>False
 | _=>False
def Dc (P:Program) (n0:Nat) (aW:List Nat) (acc:List TE) (fF:List Nat) (dst:Option Nat) (r:List bH) (k:List It) (K:Ex→St→Prop) (env:List (Nat×SV)) (h:List (Option HB)):XR→Prop
 | some (p,sv,u,rd)=>p∧G P n0 (.d aW (acc++[⟨fF,dst,rd,DG u⟩]) r::k) K (gu dst sv env) (xB h u)
 | none=>False
def tE (P:Program) (n0:Nat) (aW:List Nat) (acc:List TE) (fF:List Nat) (ao:AO) (args:List SV) (dst:Option Nat) (r:List bH) (k:List It) (K:Ex→St→Prop) (env:List (Nat×SV)) (h:List (Option HB)):Prop:=
 match ao with
 | .call f=>sw P n0 aW acc fF [] f args dst r k K env h
 | .oB=>AW P n0 aW acc fF dst r k K env h args
 | .inv name=>zA P n0 aW acc fF name dst r k K env h args
 | ao=>Dc P n0 aW acc fF dst r k K env h (bY ao args (aB h) h.length)
def sK (P:Program) (n0:Nat) (aW:List Nat) (acc:List TE) (fF:List Nat) (b:Bool) (ao:AO) (xs:List XO) (dst:Option Nat) (r:List bH) (k:List It) (K:Ex→St→Prop) (env:List (Nat×SV)) (h:List (Option HB)):SV→Prop
 | .rv (.bool t)=>if t=b then tE P n0 aW acc fF ao (xs.map (jq (lk env))) dst r k K env h else G P n0 (.d aW (acc++[⟨fF,dst,[],[]⟩]) r::k) K (gu dst (.aO []) env) h
 | .aO []=>G P n0 (.d aW (acc++[⟨fF,dst,[],[]⟩]) r::k) K (gu dst (.aO []) env) h
 | _=>False
section
variable {P:Program} {n0:Nat} {k:List It} {K:Ex→St→Prop} {env:List (Nat×SV)} {h:List (Option HB)}
theorem MQ:G P n0 [] K env h=K .normal ⟨env,h⟩:=rfl
theorem Na:G P n0 (.c .skip::k) K env h=G P n0 k K env h:=rfl
theorem MW {ops:List bH}:G P n0 (.c (.zY ops)::k) K env h=G P n0 (.o ops::k) K env h:=rfl
theorem MX {aW:List Nat} {ops:List bH}:G P n0 (.c (.zZ aW ops)::k) K env h=G P n0 (.d aW [] ops::k) K env h:=rfl
theorem MZ {a b:AC}:G P n0 (.c (.seq a b)::k) K env h=G P n0 (.c a :: .c b::k) K env h:=rfl
theorem ML {id:Nat} {a:AC}:G P n0 (.c (.block id a)::k) K env h=G P n0 (.c a :: .b id::k) K env h:=rfl
theorem MO {id:Nat}:G P n0 (.b id::k) K env h=G P n0 k K env h:=rfl
theorem MP {id:Nat}:G P n0 (.c (.exit id)::k) K env h=GX P n0 id k K env h:=rfl
theorem MM {x:XO} {a b:AC}:G P n0 (.c (.cond x a b)::k) K env h=yB P n0 a b k K env h (jq (lk env) x):=by
 show yC _ _ _=_
 generalize jq (lk env) x=y
 cases y with
 | rv r=>cases r <;> rfl
 | _=>rfl
theorem sk {P:Program} {n0:Nat} {K:Ex→St→Prop} {s:St}:∀ {k:List It},CI P n0 k K .ret s=K .ret s
 | []=>rfl
 | .c a::k=>sk (k:=k)
 | .o a::k=>sk (k:=k)
 | .d a b c::k=>sk (k:=k)
 | .b a::k=>sk (k:=k)
 | .l a b::k=>sk (k:=k)
theorem MY:G P n0 (.c .ret::k) K env h=K .ret ⟨env,h⟩:=by
 show CI P n0 k K .ret ⟨env,h⟩=_
 exact sk
theorem Ns {id:Nat}:GX P n0 id [] K env h=K (.exit id) ⟨env,h⟩:=rfl
theorem Np {id:Nat} {a:AC}:GX P n0 id (.c a::k) K env h=GX P n0 id k K env h:=rfl
theorem Nt {id:Nat} {a:List bH}:GX P n0 id (.o a::k) K env h=GX P n0 id k K env h:=rfl
theorem Nr {id m:Nat} {a:AC}:GX P n0 id (.l m a::k) K env h=GX P n0 id k K env h:=rfl
theorem kK {a:AC} (m:Nat) (hg:G P n0 (.l m a::k) K env h):G P n0 (.c (.loop a)::k) K env h:=KE (P:=P) (n0:=n0) (m:=m) (a:=a) (K:=CI P n0 k K) (s:=⟨env,h⟩) hg
theorem kJ {m:Nat} {a:AC} (hg:G P n0 (.c a :: .l m a::k) K env h):G P n0 (.l (m+1) a::k) K env h:=by
 show WL P n0 (m+1) a (CI P n0 k K) ⟨env,h⟩
 exact KF hg
theorem No {id j:Nat}:GX P n0 id (.b j::k) K env h=if id=j then G P n0 k K env h else GX P n0 id k K env h:=rfl
theorem MR:G P n0 (.o []::k) K env h=G P n0 k K env h:=rfl
theorem MN {aW:List Nat} {acc:List TE}:G P n0 (.d aW acc []::k) K env h=(pO aW 0 acc=true∧G P n0 k K env h):=rfl
theorem TI {dst:Option Nat} {r:List bH} (o:XR):zV h (fun sv h'=>RW P (CI P n0 k K .normal) r ⟨gu dst sv env,h'⟩) o=Db P n0 dst r k K env h o:=by
 cases o with
 | none=>rfl
 | some q=>obtain ⟨p,sv,u,rd⟩:=q;rfl
theorem HP {dst:Option Nat} {ao:AO} {args:List SV} {r:List bH}:tD P ao args h (fun sv h'=>RW P (CI P n0 k K .normal) r ⟨gu dst sv env,h'⟩)=tC P n0 ao args dst r k K env h:=by
 cases ao
 case call f=>rfl
 case oB=>
  show yp _ _ _ _=AV _ _ _ _ _ _ _ _ _
  cases args with
  | nil=>rfl
  | cons x t=>cases x <;> rfl
 case inv name=>
  show wK _ _ _ _ _=zz _ _ _ _ _ _ _ _ _ _
  cases args with
  | nil=>rfl
  | cons x t=>
    simp only [wK,zz]
    cases oR x with
    | none=>rfl
    | some q=>
      obtain ⟨t,y⟩:=q
      simp only
      cases oT P t name with
      | none=>rfl
      | some q=>
        obtain ⟨f,ld⟩:=q
        cases ld with
        | none=>rfl
        | some q=>
          obtain ⟨n,agg⟩:=q
          simp only
          cases gE n agg (aB h) y with
          | none=>rfl
          | some q=>obtain ⟨p,z,u,rd⟩:=q;rfl
 all_goals first | exact TI _ | rfl
theorem MS {dst:Option Nat} {ao:AO} {xs:List XO} {r:List bH}:G P n0 (.o (⟨dst,ao,xs,none⟩::r)::k) K env h=tC P n0 ao (xs.map (jq (lk env))) dst r k K env h:=HP
theorem MV {dst:Option Nat} {ao:AO} {xs:List XO} {d:Nat} {b:Bool} {r:List bH}:G P n0 (.o (⟨dst,ao,xs,some (d,b)⟩::r)::k) K env h=sJ P n0 b ao xs dst r k K env h (lk env d):=by
 show RW P _ _ _=_
 unfold RW
 simp only [kZ]
 generalize lk env d=x
 cases x with
 | rv q=>
   cases q with
   | bool t=>cases t <;> cases b <;> first | exact HP | rfl
   | _=>rfl
 | aO xs=>cases xs <;> rfl
 | _=>rfl
theorem TG {aW:List Nat} {acc:List TE} {fF:List Nat} {dst:Option Nat} {r:List bH} (o:XR):zU h (fun sv h' pre us=>RD P aW (CI P n0 k K .normal) r (acc++[⟨fF,dst,pre,us⟩]) ⟨gu dst sv env,h'⟩) o=Dc P n0 aW acc fF dst r k K env h o:=by
 cases o with
 | none=>rfl
 | some q=>obtain ⟨p,sv,u,rd⟩:=q;rfl
theorem HK {aW:List Nat} {acc:List TE} {fF:List Nat} {dst:Option Nat} {ao:AO} {args:List SV} {r:List bH}:tw P ao args h (fun sv h' pre us=>RD P aW (CI P n0 k K .normal) r (acc++[⟨fF,dst,pre,us⟩]) ⟨gu dst sv env,h'⟩)=tE P n0 aW acc fF ao args dst r k K env h:=by
 cases ao
 case call f=>rfl
 case oB=>
  show yo _ _ _ _=AW _ _ _ _ _ _ _ _ _ _ _ _
  cases args with
  | nil=>rfl
  | cons x t=>cases x <;> rfl
 case inv name=>
  show wJ _ _ _ _ _=zA _ _ _ _ _ _ _ _ _ _ _ _ _
  cases args with
  | nil=>rfl
  | cons x t=>
    simp only [wJ,zA]
    cases oR x with
    | none=>rfl
    | some q=>
      obtain ⟨t,y⟩:=q
      simp only
      cases oT P t name with
      | none=>rfl
      | some q=>
        obtain ⟨f,ld⟩:=q
        cases ld with
        | none=>rfl
        | some q=>
          obtain ⟨n,agg⟩:=q
          simp only
          cases gE n agg (aB h) y with
          | none=>rfl
          | some q=>obtain ⟨p,z,u,rd⟩:=q;rfl
 all_goals first | exact TG _ | rfl
theorem MT {aW:List Nat} {acc:List TE} {dst:Option Nat} {ao:AO} {xs:List XO} {r:List bH}:G P n0 (.d aW acc (⟨dst,ao,xs,none⟩::r)::k) K env h=tE P n0 aW acc (om xs) ao (xs.map (jq (lk env))) dst r k K env h:=HK
theorem MU {aW:List Nat} {acc:List TE} {dst:Option Nat} {ao:AO} {xs:List XO} {d:Nat} {b:Bool} {r:List bH}:G P n0 (.d aW acc (⟨dst,ao,xs,some (d,b)⟩::r)::k) K env h=sK P n0 aW acc (d::om xs) b ao xs dst r k K env h (lk env d):=by
 show RD P _ _ _ _ _=_
 unfold RD
 simp only [kZ]
 generalize lk env d=x
 cases x with
 | rv q=>
   cases q with
   | bool t=>cases t <;> cases b <;> first | exact HK | rfl
   | _=>rfl
 | aO xs=>cases xs <;> rfl
 | _=>rfl
end
theorem bS {P:Program} {n0:Nat} {f:FuncId} {args:List SV} {dst:Option Nat} {r:List bH} {k:List It} {K:Ex→St→Prop} {env:List (Nat×SV)} {h:List (Option HB)} {pre us:List (Nat×HB)} {sv:SV}
 (hc:aL P f args pre us sv) (hp:aR (aB h) pre) (hu:aV pre h us) (hn:G P n0 (.o r::k) K (gu dst sv env) (mA h us)):su P n0 f args dst r k K env h:=⟨pre,us,sv,hc,hp,hu,hn⟩
theorem ag {P:Program} {n0:Nat} {f:FuncId} {args:List SV} {dst:Option Nat} {r:List bH} {k:List It} {K:Ex→St→Prop} {env:List (Nat×SV)} {h:List (Option HB)} {sv:SV}
 (hc:aL P f args [] [] sv) (hn:G P n0 (.o r::k) K (gu dst sv env) h):su P n0 f args dst r k K env h:=⟨[],[],sv,hc,fun q hq=>by simp at hq,trivial,hn⟩
theorem bV {P:Program} {n0:Nat} {aW:List Nat} {acc:List TE} {fF rI:List Nat} {f:FuncId} {args:List SV} {dst:Option Nat} {r:List bH} {k:List It} {K:Ex→St→Prop} {env:List (Nat×SV)} {h:List (Option HB)} {pre us:List (Nat×HB)} {sv:SV}
 (hc:aL P f args pre us sv) (hp:aR (aB h) pre) (hu:aV pre h us) (hn:G P n0 (.d aW (acc++[⟨fF,dst,rI++pre.map (·.1),us.map (·.1)⟩]) r::k) K (gu dst sv env) (mA h us)):sw P n0 aW acc fF rI f args dst r k K env h:=⟨pre,us,sv,hc,hp,hu,hn⟩
theorem ah {P:Program} {n0:Nat} {aW:List Nat} {acc:List TE} {fF rI:List Nat} {f:FuncId} {args:List SV} {dst:Option Nat} {r:List bH} {k:List It} {K:Ex→St→Prop} {env:List (Nat×SV)} {h:List (Option HB)} {sv:SV}
 (hc:aL P f args [] [] sv) (hn:G P n0 (.d aW (acc++[⟨fF,dst,rI,[]⟩]) r::k) K (gu dst sv env) h):sw P n0 aW acc fF rI f args dst r k K env h:=⟨[],[],sv,hc,fun q hq=>by simp at hq,trivial,by simpa [mA] using hn⟩
theorem fG {P:Program} {n0:Nat} {a:AC} {k:List It} {K:Ex→St→Prop} {env:List (Nat×SV)} {h:List (Option HB)} {ι:Type} (en:ι→List (Nat×SV)) (hh:ι→List (Option HB)) (pr:ι→Prop) (μ:ι→Nat) (i0:ι)
 (h0:pr i0) (he:gi n0 ⟨env,h⟩ ⟨en i0,hh i0⟩)
 (hr:∀ i,pr i→∀ K':Ex→St→Prop,(∀ i' e' h',pr i'→μ i'<μ i→gi n0 ⟨e',h'⟩ ⟨en i',hh i'⟩→K' .normal ⟨e',h'⟩)→(∀ id e' h',GX P n0 id k K e' h'→K' (.exit id) ⟨e',h'⟩)→(∀ e' h',K .ret ⟨e',h'⟩→K' .ret ⟨e',h'⟩)→G P n0 [.c a] K' (en i) (hh i)) :
 G P n0 (.c (.loop a)::k) K env h:=by
 refine ⟨ι,fun i=>⟨en i,hh i⟩,pr,μ,i0,h0,he,fun i hi=>?_⟩
 refine hr i hi (nE (fun s'=>∃ i',pr i'∧μ i'<μ i∧gi n0 s' ⟨en i',hh i'⟩) (CI P n0 k K)) (fun i' e' h' h1 h2 h3=>⟨i',h1,h2,h3⟩) (fun id e' h' hx=>hx) (fun e' h' hx=>?_)
 show CI P n0 k K .ret _
 rw [sk];exact hx
theorem aA {P:Program} {n0:Nat} {k:List It} {K:Ex→St→Prop} {env:List (Nat×SV)} {h:List (Option HB)} (hg:G P n0 k K env h):G P n0 (.c .sD::k) K env h:=⟨⟨env,h⟩,fun _ _ _ R=>R,hg⟩
theorem jx {P:Program} {n0:Nat} {k:List It} {K:Ex→St→Prop} {env:List (Nat×SV)} {h:List (Option HB)} (env':List (Nat×SV)) (h':List (Option HB)) (he:gi n0 ⟨env,h⟩ ⟨env',h'⟩) (hg:G P n0 k K env' h'):G P n0 (.c .sD::k) K env h:=⟨⟨env',h'⟩,he,hg⟩
end Go.aJ

namespace Go.aJ
open Go
inductive Bk (σ:Nat→Option Nat):SV→SV→Prop where
 | dead (y:SV):Bk σ .dead y
 | rv (r:RV):Bk σ (.rv r) (.rv r)
 | ptr (j id off:Nat) (h:σ j=some id):Bk σ (.ptr j off) (.ptr id off)
 | bX (j id az i off:Nat) (h:σ j=some id):Bk σ (.bX j az i off) (.bX id az i off)
 | row (j id az len:Nat) (h:σ j=some id):Bk σ (.row j az len) (.row id az len)
 | win (j id az off len:Nat) (h:σ j=some id):Bk σ (.win j az off len) (.win id az off len)
 | agg (xs ys:List SV) (hl:xs.length=ys.length) (h:∀ (i:Nat) (x y:SV),xs[i]?=some x→ys[i]?=some y→Bk σ x y):Bk σ (.agg xs) (.agg ys)
 | aO (xs ys:List SV) (hl:xs.length=ys.length) (h:∀ (i:Nat) (x y:SV),xs[i]?=some x→ys[i]?=some y→Bk σ x y):Bk σ (.aO xs) (.aO ys)
 | fn (f:FuncId) (xs ys:List SV) (hl:xs.length=ys.length) (h:∀ (i:Nat) (x y:SV),xs[i]?=some x→ys[i]?=some y→Bk σ x y):Bk σ (.fn f xs) (.fn f ys)
 | fK (f:FuncId) (xs ys:List SV) (hl:xs.length=ys.length) (h:∀ (i:Nat) (x y:SV),xs[i]?=some x→ys[i]?=some y→Bk σ x y):Bk σ (.fK f xs) (.fK f ys)
 | bW (t:TypeId) (x y:SV) (h:Bk σ x y):Bk σ (.bW t x) (.bW t y)
def sj (σ:Nat→Option Nat) (xs ys:List SV):Prop:=xs.length=ys.length∧∀ (i:Nat) (x y:SV),xs[i]?=some x→ys[i]?=some y→Bk σ x y
inductive mY (σ:Nat→Option Nat):HB→HB→Prop where
 | var (xs ys:List SV) (h:sj σ xs ys):mY σ (.var xs) (.var ys)
 | row (e az:Nat) (xs ys:List (List SV)) (hl:xs.length=ys.length) (h:∀ (i:Nat) (x y:List SV),xs[i]?=some x→ys[i]?=some y→sj σ x y):mY σ (.row e az xs) (.row e az ys)
section entry
variable {w:World} {ok fS:Nat→Prop} {aa aK:Nat→Option Nat} {hp aE:Hp} {σ:Nat→Option Nat}
theorem Rp.back (hro:∀ b,ok b→fS b) (hs:∀ j id,σ j=some id→aK j=aa id∧((hp id).isSome=true→(aE j).isSome=true)∧(∀ cs,aE j=some (.var cs)→∃ cs',hp id=some (.var cs'))∧∀ e az xs,aE j=some (.row e az xs)→∃ xs',hp id=some (.row e az xs')) {x y:SV} {v:Value} (hr:Rp w ok aa hp y v) (hb:Bk σ x y):Rp w fS aK aE x v:=by
 induction hb generalizing v with
 | dead y=>exact .dead v
 | rv r=>cases hr with | rv _ _ h=>exact .rv r v (h.mono fun b hb _=>⟨hro b hb,rfl⟩)
 | ptr j id off hj=>
   obtain ⟨g1,g2,g3,g4⟩:=hs j id hj
   cases hr with
   | ptr _ _ _ h1 h0 h=>
     refine .ptr j off v h1 (g2 h0) (fun cs hc=>?_)
     obtain ⟨cs',nQ⟩:=g3 cs hc
     rw [g1];exact h cs' nQ
 | bX j id az i off hj=>
   obtain ⟨g1,g2,g3,g4⟩:=hs j id hj
   cases hr with
   | bX _ _ _ _ _ h1 h0 hv h=>
     refine .bX j az i off v h1 (g2 h0) (fun e gp xs hx=>?_) (fun e xs hx=>?_)
     ·obtain ⟨xs',hx'⟩:=g4 e gp xs hx;exact hv e gp xs' hx'
     ·obtain ⟨xs',hx'⟩:=g4 e az xs hx;rw [g1];exact h e xs' hx'
 | row j id az len hj=>
   obtain ⟨g1,g2,g3,g4⟩:=hs j id hj
   cases hr with
   | row _ _ _ _ h1 h0 hv h=>
     refine .row j az len v h1 (g2 h0) (fun e gp xs hx=>?_) (fun e xs hx=>?_)
     ·obtain ⟨xs',hx'⟩:=g4 e gp xs hx;exact hv e gp xs' hx'
     ·obtain ⟨xs',hx'⟩:=g4 e az xs hx;rw [g1];exact h e xs' hx'
 | win j id az off len hj=>
   obtain ⟨g1,g2,g3,g4⟩:=hs j id hj
   cases hr with
   | win _ _ _ _ _ h1 h0 hv hr hc=>
     refine .win j az off len v h1 (g2 h0) (fun e gp xs hx=>?_) (fun e xs hx=>?_) (fun cs hx=>?_)
     ·obtain ⟨xs',hx'⟩:=g4 e gp xs hx;exact hv e gp xs' hx'
     ·obtain ⟨xs',hx'⟩:=g4 e az xs hx;rw [g1];exact hr e xs' hx'
     ·obtain ⟨cs',hx'⟩:=g3 cs hx;rw [g1];exact hc cs' hx'
 | agg xs ys hl h ih=>
   cases hr with
   | agg _ vs hvl h1 hy=>
     refine .agg xs vs (by omega) h1 (fun j x hx=>?_)
     have hlt:=(List.getElem?_eq_some_iff.1 hx).1
     have fQ:=List.getElem?_eq_getElem (l:=ys) (i:=j) (by omega)
     exact ih j x _ hx fQ (hy j _ fQ)
 | aO xs ys hl h ih=>
   cases hr with
   | aO _ vs hvl hy=>
     refine .aO xs vs (by omega) (fun j x hx=>?_)
     have hlt:=(List.getElem?_eq_some_iff.1 hx).1
     have fQ:=List.getElem?_eq_getElem (l:=ys) (i:=j) (by omega)
     exact ih j x _ hx fQ (hy j _ fQ)
 | fn f xs ys hl h ih=>
   cases hr with
   | fn _ _ vs hvl hy=>
     refine .fn f xs vs (by omega) (fun j x hx=>?_)
     have hlt:=(List.getElem?_eq_some_iff.1 hx).1
     have fQ:=List.getElem?_eq_getElem (l:=ys) (i:=j) (by omega)
     exact ih j x _ hx fQ (hy j _ fQ)
 | fK f xs ys hl h ih=>
   cases hr with
   | fK _ _ vs hvl hy=>
     refine .fK f xs vs (by omega) (fun j x hx=>?_)
     have hlt:=(List.getElem?_eq_some_iff.1 hx).1
     have fQ:=List.getElem?_eq_getElem (l:=ys) (i:=j) (by omega)
     exact ih j x _ hx fQ (hy j _ fQ)
 | bW t x y h ih=>cases hr with | bW _ _ v0 h0=>exact .bW t x v0 (ih h0)
theorem gV.back (hro:∀ b,ok b→fS b) (hs:∀ j id,σ j=some id→aK j=aa id∧((hp id).isSome=true→(aE j).isSome=true)∧(∀ cs,aE j=some (.var cs)→∃ cs',hp id=some (.var cs'))∧∀ e az xs,aE j=some (.row e az xs)→∃ xs',hp id=some (.row e az xs')) {cur:Array Value} {off:Nat} {xs ys:List SV} (h:gV w ok aa hp cur off ys) (hb:sj σ xs ys):gV w fS aK aE cur off xs:=fun j x hx=>by
 obtain ⟨hl,hb⟩:=hb
 have hlt:=(List.getElem?_eq_some_iff.1 hx).1
 have fQ:=List.getElem?_eq_getElem (l:=ys) (i:=j) (by omega)
 obtain ⟨v,h1,h2,h3⟩:=h j _ fQ
 exact ⟨v,h1,h2,h3.back hro hs (hb j x _ hx fQ)⟩
theorem mB.back (hro:∀ b,ok b→fS b) (hs:∀ j id,σ j=some id→aK j=aa id∧((hp id).isSome=true→(aE j).isSome=true)∧(∀ cs,aE j=some (.var cs)→∃ cs',hp id=some (.var cs'))∧∀ e az xs,aE j=some (.row e az xs)→∃ xs',hp id=some (.row e az xs')) {j id:Nat} (hj:σ j=some id) {x y:HB} (h:mB w ok aa hp id y) (hb:mY σ x y):mB w fS aK aE j x:=by
 have g1:=(hs j id hj).1
 rcases h with ⟨h1,e,az,rfl⟩ | ⟨b,cur,t,h1,h2,h3⟩
 ·cases hb with
  | row _ _ xs _ hl _=>
    have:xs=[]:=List.eq_nil_of_length_eq_zero (by simpa using hl)
    subst this
    exact .inl ⟨g1.trans h1,e,az,rfl⟩
 ·refine .inr ⟨b,cur,t,g1.trans h1,h2,?_⟩
  cases hb with
  | var xs ys hb=>exact ⟨by rw [h3.1,hb.1],h3.2.back hro hs hb⟩
  | row e az xs ys hl hb=>
    obtain ⟨a1,a2,a3⟩:=h3
    refine ⟨fun x hx=>?_,by rw [hl];exact a2,fun i x hx=>?_⟩
    ·obtain ⟨i,hi,rfl⟩:=List.mem_iff_getElem.1 hx
     have hy:=List.getElem?_eq_getElem (l:=ys) (i:=i) (by omega)
     rw [(hb i _ _ (List.getElem?_eq_getElem hi) hy).1]
     exact a1 _ (List.getElem_mem _)
    ·have hlt:=(List.getElem?_eq_some_iff.1 hx).1
     have hy:=List.getElem?_eq_getElem (l:=ys) (i:=i) (by omega)
     exact (a3 i _ hy).back hro hs (hb i x _ hx hy)
end entry
inductive Fz (τ:Nat→Option Nat) (h:Hp):SV→RV→Prop where
 | rv (r:RV):Fz τ h (.rv r) r
 | ptr (j:Nat) (cs:List SV) (rs:List RV) (hj:τ j=none) (hh:h j=some (.var cs)) (hl:cs.length=rs.length) (h1:∀ (i:Nat) (r:RV),rs[i]?=some r→r.one=true) (hf:∀ (i:Nat) (x:SV) (r:RV),cs[i]?=some x→rs[i]?=some r→Fz τ h x r):Fz τ h (.ptr j 0) (.rop rs)
 | row (j e az len:Nat) (xs:List (List SV)) (rs:List (List RV)) (hj:τ j=none) (hh:h j=some (.row e az xs)) (hl:rs.length=len) (hx:len≤xs.length) (hm:∀ (i:Nat) (x:List SV) (r:List RV),xs[i]?=some x→rs[i]?=some r→x.length=r.length)
    (h1:∀ (i:Nat) (r:List RV) (k:Nat) (q:RV),rs[i]?=some r→r[k]?=some q→q.one=true) (hf:∀ (i:Nat) (x:List SV) (r:List RV) (k:Nat) (y:SV) (q:RV),xs[i]?=some x→rs[i]?=some r→x[k]?=some y→r[k]?=some q→Fz τ h y q):Fz τ h (.row j az len) (.sl e rs)
 | win (j az off e len:Nat) (cs:List SV) (rs:List (List RV)) (hj:τ j=none) (hh:h j=some (.var cs)) (hl:rs.length=len) (hx:off+len*e≤cs.length) (hm:∀ r∈rs,r.length=e)
    (h1:∀ (i:Nat) (r:List RV) (k:Nat) (q:RV),rs[i]?=some r→r[k]?=some q→q.one=true) (hf:∀ (i:Nat) (r:List RV) (k:Nat) (y:SV) (q:RV),rs[i]?=some r→cs[off+(i*e+k)]?=some y→r[k]?=some q→Fz τ h y q):Fz τ h (.win j az off len) (.sl e rs)
 | agg (cs:List SV) (rs:List RV) (hl:cs.length=rs.length) (h1:∀ (i:Nat) (r:RV),rs[i]?=some r→r.one=true) (hf:∀ (i:Nat) (x:SV) (r:RV),cs[i]?=some x→rs[i]?=some r→Fz τ h x r):Fz τ h (.agg cs) (.agg rs)
 | fn (f:FuncId) (cs:List SV) (rs:List RV) (hl:cs.length=rs.length) (hf:∀ (i:Nat) (x:SV) (r:RV),cs[i]?=some x→rs[i]?=some r→Fz τ h x r):Fz τ h (.fn f cs) (.fn f rs)
 | bW (t:TypeId) (x:SV) (r:RV) (hf:Fz τ h x r):Fz τ h (.bW t x) (.bW t r)
inductive Rn (τ:Nat→Option Nat) (h:Hp):SV→SV→Prop where
 | dead (x:SV):Rn τ h x .dead
 | fz (x:SV) (r:RV) (hf:Fz τ h x r):Rn τ h x (.rv r)
 | ptr (j id off:Nat) (hj:τ j=some id):Rn τ h (.ptr j off) (.ptr id off)
 | bX (j id az i off:Nat) (hj:τ j=some id):Rn τ h (.bX j az i off) (.bX id az i off)
 | row (j id az len:Nat) (hj:τ j=some id):Rn τ h (.row j az len) (.row id az len)
 | win (j id az off len:Nat) (hj:τ j=some id):Rn τ h (.win j az off len) (.win id az off len)
 | agg (xs ys:List SV) (hl:xs.length=ys.length) (hf:∀ (i:Nat) (x y:SV),xs[i]?=some x→ys[i]?=some y→Rn τ h x y):Rn τ h (.agg xs) (.agg ys)
 | aO (xs ys:List SV) (hl:xs.length=ys.length) (hf:∀ (i:Nat) (x y:SV),xs[i]?=some x→ys[i]?=some y→Rn τ h x y):Rn τ h (.aO xs) (.aO ys)
 | fn (f:FuncId) (xs ys:List SV) (hl:xs.length=ys.length) (hf:∀ (i:Nat) (x y:SV),xs[i]?=some x→ys[i]?=some y→Rn τ h x y):Rn τ h (.fn f xs) (.fn f ys)
 | fK (f:FuncId) (xs ys:List SV) (hl:xs.length=ys.length) (hf:∀ (i:Nat) (x y:SV),xs[i]?=some x→ys[i]?=some y→Rn τ h x y):Rn τ h (.fK f xs) (.fK f ys)
 | bW (t:TypeId) (x y:SV) (hf:Rn τ h x y):Rn τ h (.bW t x) (.bW t y)
def sq (τ:Nat→Option Nat) (h:Hp) (xs ys:List SV):Prop:=xs.length=ys.length∧∀ (i:Nat) (x y:SV),xs[i]?=some x→ys[i]?=some y→Rn τ h x y
inductive pJ (τ:Nat→Option Nat) (h:Hp):HB→HB→Prop where
 | var (xs ys:List SV) (hf:sq τ h xs ys):pJ τ h (.var xs) (.var ys)
 | row (e az:Nat) (xs ys:List (List SV)) (hl:xs.length=ys.length) (hf:∀ (i:Nat) (x y:List SV),xs[i]?=some x→ys[i]?=some y→sq τ h x y):pJ τ h (.row e az xs) (.row e az ys)
section leave
variable {w:World} {ok fS:Nat→Prop} {aa aK:Nat→Option Nat} {hp aE:Hp} {τ:Nat→Option Nat}
theorem Fz.ro (hro:∀ b,fS b→ok b) (hfz:∀ j b,τ j=none→(aE j).isSome=true→aK j=some b→ok b) (hmem:∀ j hb,aE j=some hb→mB w fS aK aE j hb) {x:SV} {r:RV} {v:Value} (hr:Rp w fS aK aE x v) (hf:Fz τ aE x r):RO w ok r v:=by
 induction hf generalizing v with
 | rv r=>cases hr with | rv _ _ h=>exact h.mono fun b hb _=>⟨hro b hb,rfl⟩
 | ptr j cs rs hj hh hl ho hf ih=>
   cases hr with
   | ptr _ _ _ h1 h0 h=>
     obtain ⟨b,hb,rfl⟩:=h cs hh
     rcases hmem j _ hh with ⟨h1,_⟩ | ⟨b',cur,t,h1,h2,h3⟩
     ·rw [hb] at h1;cases h1
     ·rw [hb] at h1;cases h1
      have hcell:∀ (i:Nat) (r:RV),rs[i]?=some r→∃ u,w.cell? ((⟨b,0,none⟩:Addr).add i)=some u∧RO w ok r u∧r.one=true:=fun i r hi=>by
       have hlt:=(List.getElem?_eq_some_iff.1 hi).1
       have hx:=List.getElem?_eq_getElem (l:=cs) (i:=i) (by omega)
       obtain ⟨u,a1,a2,a3⟩:=h3.2 i _ hx
       refine ⟨u,?_,ih i _ r hx hi a3,ho i r hi⟩
       rw [add_lit,qn h2];exact a1
      refine .rop rs ⟨b,0,none⟩ (fun i=>(w.cell? ((⟨b,0,none⟩:Addr).add i)).getD undef) (fun i r hi=>?_) (fun i r hi=>?_) (fun i r hi=>?_)
      ·obtain ⟨u,a1,_⟩:=hcell i r hi
       exact ⟨hfz j b hj (by simp [hh]) hb,by rw [a1];rfl⟩
      ·obtain ⟨u,_,_,a3⟩:=hcell i r hi;exact a3
      ·obtain ⟨u,a1,a2,_⟩:=hcell i r hi;rw [a1];exact a2
 | row j e az len xs rs hj hh hl hx hm ho hf ih=>
   cases hr with
   | row _ _ _ _ h1 h0 hv h=>
     rcases h e xs hh with ⟨g1,rfl,g3⟩ | ⟨b,cap,cur,t,g1,rfl,g3,g4,g5,g6⟩
     ·have:rs=[]:=List.eq_nil_of_length_eq_zero (by omega)
      subst this
      exact .sl e [] none 0 (fun _ _=>undef) (fun _=>⟨rfl,rfl⟩) (by simp) (by simp [maxLen]) (by simp) (fun i x j y hx=>by simp at hx) (fun i x j y hx=>by simp at hx) (fun i x j y hx=>by simp at hx)
     ·rcases hmem j _ hh with ⟨h1,_⟩ | ⟨b',cur',t',k1,k2,k3⟩
      ·rw [g1] at h1;cases h1
      ·rw [g1] at k1;cases k1
       rw [g3] at k2;cases k2
       obtain ⟨a1,a2,a3⟩:=k3
       have hlen:∀ (i:Nat) (r:List RV),rs[i]?=some r→∃ x,xs[i]?=some x∧x.length=e∧x.length=r.length:=fun i r hi=>by
        have hlt:=(List.getElem?_eq_some_iff.1 hi).1
        have kr:=List.getElem?_eq_getElem (l:=xs) (i:=i) (by omega)
        exact ⟨_,kr,a1 _ (List.getElem_mem _),hm i _ r kr hi⟩
       have hcell:∀ (i:Nat) (r:List RV) (k:Nat) (q:RV),rs[i]?=some r→r[k]?=some q→∃ u,w.cell? ((⟨b,0,none⟩:Addr).add (i*e+k))=some u∧RO w ok q u∧q.one=true:=fun i r k q hi hk=>by
        obtain ⟨x,kr,ru,Xk⟩:=hlen i r hi
        have hlt:=(List.getElem?_eq_some_iff.1 hk).1
        have hy:=List.getElem?_eq_getElem (l:=x) (i:=k) (by omega)
        obtain ⟨u,b1,b2,b3⟩:=a3 i x kr k _ hy
        refine ⟨u,?_,ih i x r k _ q kr hi hy hk b3,ho i r k q hi hk⟩
        rw [add_lit,qn g3,Nat.zero_add];exact b1
       rw [← hl]
       refine .sl e rs (some ⟨b,0,none⟩) cap (fun i k=>(w.cell? ((⟨b,0,none⟩:Addr).add (i*e+k))).getD undef) (fun h=>by cases h) (by omega) g5 (fun r hr=>?_) (fun i r k q hi hk=>?_) (fun i r k q hi hk=>?_) (fun i r k q hi hk=>?_)
       ·obtain ⟨i,hi,rfl⟩:=List.mem_iff_getElem.1 hr
        obtain ⟨x,_,b1,b2⟩:=hlen i _ (List.getElem?_eq_getElem hi)
        omega
       ·obtain ⟨u,b1,_⟩:=hcell i r k q hi hk
        exact ⟨_,rfl,hfz j b hj (by simp [hh]) g1,by rw [b1];rfl⟩
       ·obtain ⟨u,_,_,b3⟩:=hcell i r k q hi hk;exact b3
       ·obtain ⟨u,b1,b2,_⟩:=hcell i r k q hi hk;rw [b1];exact b2
 | win j az off e len cs rs hj hh hl hx hm ho hf ih=>
   cases hr with
   | win _ _ _ _ _ h1 h0 hv hr hc=>
     obtain ⟨ad,cap,rfl,g1,g2,g3,g4⟩:=hc cs hh
     rw [← hl]
     have key:∀ (i:Nat) (r:List RV) (k:Nat) (q:RV),rs[i]?=some r→r[k]?=some q→∃ a u,ad=some a∧ok a.block∧w.cell? (a.add (i*e+k))=some u∧RO w ok q u:=fun i r k q hi hk=>by
      have hlt:=(List.getElem?_eq_some_iff.1 hi).1
      have Xe:=hm r (List.mem_of_getElem? hi)
      have gX:=(List.getElem?_eq_some_iff.1 hk).1
      obtain ⟨b,hb,rfl⟩:=g4 (by omega)
      rcases hmem j _ hh with ⟨h1,_,_,h2⟩ | ⟨b',cur,t,a1,a2,a3⟩
      ·cases h2
      ·rw [hb] at a1;cases a1
       have hik:i*e+k<len*e:=by
        have:(i+1)*e≤len*e:=Nat.mul_le_mul_right _ (by omega)
        rw [Nat.add_mul] at this;omega
       have hy:=List.getElem?_eq_getElem (l:=cs) (i:=off+(i*e+k)) (by omega)
       obtain ⟨u,b1,b2,b3⟩:=a3.2 _ _ hy
       refine ⟨⟨b,off,none⟩,u,rfl,hfz j b hj (by simp [hh]) hb,?_,ih i r k _ q hi hy hk b3⟩
       rw [add_lit,qn a2];simpa using b1
     refine .sl e rs ad cap (fun i k=>match ad with | some a=>(w.cell? (a.add (i*e+k))).getD undef | none=>undef) (fun h=>?_) (by omega) g2 hm (fun i r k q hi hk=>?_) ho (fun i r k q hi hk=>?_)
     ·have:=g3 h;exact ⟨List.eq_nil_of_length_eq_zero (by omega),this⟩
     ·obtain ⟨a,u,rfl,b1,b2,b3⟩:=key i r k q hi hk
      exact ⟨a,rfl,b1,by simp only [b2];rfl⟩
     ·obtain ⟨a,u,rfl,b1,b2,b3⟩:=key i r k q hi hk
      simp only [b2];exact b3
 | agg cs rs hl ho hf ih=>
   cases hr with
   | agg _ vs hvl h1 hy=>
     refine .agg rs vs (by omega) (fun i r hi=>?_) (fun i r hi=>?_)
     ·have hlt:=(List.getElem?_eq_some_iff.1 hi).1
      exact ho i r hi
     ·have hlt:=(List.getElem?_eq_some_iff.1 hi).1
      have hx:=List.getElem?_eq_getElem (l:=cs) (i:=i) (by omega)
      exact ih i _ r hx hi (hy i _ hx)
 | fn f cs rs hl hf ih=>
   cases hr with
   | fn _ _ vs hvl hy=>
     refine .fn f rs vs (by omega) (fun i r hi=>?_)
     have hlt:=(List.getElem?_eq_some_iff.1 hi).1
     have hx:=List.getElem?_eq_getElem (l:=cs) (i:=i) (by omega)
     exact ih i _ r hx hi (hy i _ hx)
 | bW t x r hf ih=>cases hr with | bW _ _ v0 h0=>exact .bW t r v0 (ih h0)
theorem Rp.leave (hro:∀ b,fS b→ok b) (hfz:∀ j b,τ j=none→(aE j).isSome=true→aK j=some b→ok b) (hmem:∀ j hb,aE j=some hb→mB w fS aK aE j hb)
 (hs:∀ j id,τ j=some id→aK j=aa id∧((aE j).isSome=true→(hp id).isSome=true)∧(∀ cs,hp id=some (.var cs)→∃ cs',aE j=some (.var cs'))∧∀ e az xs,hp id=some (.row e az xs)→∃ xs',aE j=some (.row e az xs'))
 {x y:SV} {v:Value} (hr:Rp w fS aK aE x v) (hf:Rn τ aE x y):Rp w ok aa hp y v:=by
 induction hf generalizing v with
 | dead x=>exact .dead v
 | fz x r hf=>exact .rv r v (Fz.ro hro hfz hmem hr hf)
 | ptr j id off hj=>
   obtain ⟨g1,g2,g3,g4⟩:=hs j id hj
   cases hr with
   | ptr _ _ _ h1 h0 h=>
     refine .ptr id off v h1 (g2 h0) (fun cs hc=>?_)
     obtain ⟨cs',nQ⟩:=g3 cs hc
     rw [← g1];exact h cs' nQ
 | bX j id az i off hj=>
   obtain ⟨g1,g2,g3,g4⟩:=hs j id hj
   cases hr with
   | bX _ _ _ _ _ h1 h0 hv h=>
     refine .bX id az i off v h1 (g2 h0) (fun e gp xs hx=>?_) (fun e xs hx=>?_)
     ·obtain ⟨xs',hx'⟩:=g4 e gp xs hx;exact hv e gp xs' hx'
     ·obtain ⟨xs',hx'⟩:=g4 e az xs hx;rw [← g1];exact h e xs' hx'
 | row j id az len hj=>
   obtain ⟨g1,g2,g3,g4⟩:=hs j id hj
   cases hr with
   | row _ _ _ _ h1 h0 hv h=>
     refine .row id az len v h1 (g2 h0) (fun e gp xs hx=>?_) (fun e xs hx=>?_)
     ·obtain ⟨xs',hx'⟩:=g4 e gp xs hx;exact hv e gp xs' hx'
     ·obtain ⟨xs',hx'⟩:=g4 e az xs hx;rw [← g1];exact h e xs' hx'
 | win j id az off len hj=>
   obtain ⟨g1,g2,g3,g4⟩:=hs j id hj
   cases hr with
   | win _ _ _ _ _ h1 h0 hv hr hc=>
     refine .win id az off len v h1 (g2 h0) (fun e gp xs hx=>?_) (fun e xs hx=>?_) (fun cs hx=>?_)
     ·obtain ⟨xs',hx'⟩:=g4 e gp xs hx;exact hv e gp xs' hx'
     ·obtain ⟨xs',hx'⟩:=g4 e az xs hx;rw [← g1];exact hr e xs' hx'
     ·obtain ⟨cs',hx'⟩:=g3 cs hx;rw [← g1];exact hc cs' hx'
 | agg xs ys hl h ih=>
   cases hr with
   | agg _ vs hvl h1 hy=>
     refine .agg ys vs (by omega) h1 (fun j y fQ=>?_)
     have hlt:=(List.getElem?_eq_some_iff.1 fQ).1
     have hx:=List.getElem?_eq_getElem (l:=xs) (i:=j) (by omega)
     exact ih j _ y hx fQ (hy j _ hx)
 | aO xs ys hl h ih=>
   cases hr with
   | aO _ vs hvl hy=>
     refine .aO ys vs (by omega) (fun j y fQ=>?_)
     have hlt:=(List.getElem?_eq_some_iff.1 fQ).1
     have hx:=List.getElem?_eq_getElem (l:=xs) (i:=j) (by omega)
     exact ih j _ y hx fQ (hy j _ hx)
 | fn f xs ys hl h ih=>
   cases hr with
   | fn _ _ vs hvl hy=>
     refine .fn f ys vs (by omega) (fun j y fQ=>?_)
     have hlt:=(List.getElem?_eq_some_iff.1 fQ).1
     have hx:=List.getElem?_eq_getElem (l:=xs) (i:=j) (by omega)
     exact ih j _ y hx fQ (hy j _ hx)
 | fK f xs ys hl h ih=>
   cases hr with
   | fK _ _ vs hvl hy=>
     refine .fK f ys vs (by omega) (fun j y fQ=>?_)
     have hlt:=(List.getElem?_eq_some_iff.1 fQ).1
     have hx:=List.getElem?_eq_getElem (l:=xs) (i:=j) (by omega)
     exact ih j _ y hx fQ (hy j _ hx)
 | bW t x y h ih=>cases hr with | bW _ _ v0 h0=>exact .bW t y v0 (ih h0)
theorem gV.leave (hro:∀ b,fS b→ok b) (hfz:∀ j b,τ j=none→(aE j).isSome=true→aK j=some b→ok b) (hmem:∀ j hb,aE j=some hb→mB w fS aK aE j hb)
 (hs:∀ j id,τ j=some id→aK j=aa id∧((aE j).isSome=true→(hp id).isSome=true)∧(∀ cs,hp id=some (.var cs)→∃ cs',aE j=some (.var cs'))∧∀ e az xs,hp id=some (.row e az xs)→∃ xs',aE j=some (.row e az xs'))
 {cur:Array Value} {off:Nat} {xs ys:List SV} (h:gV w fS aK aE cur off xs) (hb:sq τ aE xs ys):gV w ok aa hp cur off ys:=fun j y fQ=>by
 obtain ⟨hl,hb⟩:=hb
 have hlt:=(List.getElem?_eq_some_iff.1 fQ).1
 have hx:=List.getElem?_eq_getElem (l:=xs) (i:=j) (by omega)
 obtain ⟨v,h1,h2,h3⟩:=h j _ hx
 exact ⟨v,h1,h2,h3.leave hro hfz hmem hs (hb j _ y hx fQ)⟩
theorem mB.leave (hro:∀ b,fS b→ok b) (hfz:∀ j b,τ j=none→(aE j).isSome=true→aK j=some b→ok b) (hmem:∀ j hb,aE j=some hb→mB w fS aK aE j hb)
 (hs:∀ j id,τ j=some id→aK j=aa id∧((aE j).isSome=true→(hp id).isSome=true)∧(∀ cs,hp id=some (.var cs)→∃ cs',aE j=some (.var cs'))∧∀ e az xs,hp id=some (.row e az xs)→∃ xs',aE j=some (.row e az xs'))
 {j id:Nat} (hj:τ j=some id) {x y:HB} (h:mB w fS aK aE j x) (hb:pJ τ aE x y):mB w ok aa hp id y:=by
 have g1:=(hs j id hj).1
 rcases h with ⟨h1,e,az,rfl⟩ | ⟨b,cur,t,h1,h2,h3⟩
 ·cases hb with
  | row _ _ _ ys hl _=>
    have:ys=[]:=List.eq_nil_of_length_eq_zero (by simpa using hl.symm)
    subst this
    exact .inl ⟨g1.symm.trans h1,e,az,rfl⟩
 ·refine .inr ⟨b,cur,t,g1.symm.trans h1,h2,?_⟩
  cases hb with
  | var xs ys hb=>exact ⟨h3.1.trans hb.1,h3.2.leave hro hfz hmem hs hb⟩
  | row e az xs ys hl hb=>
    obtain ⟨a1,a2,a3⟩:=h3
    refine ⟨fun y hy=>?_,by rw [← hl];exact a2,fun i y hy=>?_⟩
    ·obtain ⟨i,hi,rfl⟩:=List.mem_iff_getElem.1 hy
     have hx:=List.getElem?_eq_getElem (l:=xs) (i:=i) (by omega)
     rw [← (hb i _ _ hx (List.getElem?_eq_getElem hi)).1]
     exact a1 _ (List.getElem_mem _)
    ·have hlt:=(List.getElem?_eq_some_iff.1 hy).1
     have hx:=List.getElem?_eq_getElem (l:=xs) (i:=i) (by omega)
     exact (a3 i _ hx).leave hro hfz hmem hs (hb i _ y hx hy)
end leave
end Go.aJ

namespace Go.aJ
open Go
inductive RR where
 | t (n:Nat)
 | c (a n:Nat) (agg:Bool)
 deriving DecidableEq
def qW (P:Program):List ResultVar→Option (List RR)
 | []=>some []
 | .tmp t::r=>match qW P r with
   | some l=>some (.t t::l)
   | none=>none
 | .cell a t::r=>match cj P t,fD P t,qW P r with
   | some n,some agg,some l=>some (.c a n agg::l)
   | _,_,_=>none
def aS (en:Nat→SV) (hp:Hp):List RR→Option (Prop×List SV)
 | []=>some (True,[])
 | .t n::r=>match aS en hp r with
   | some (p,xs)=>some (p,en n::xs)
   | none=>none
 | .c a n agg::r=>match gE n agg hp (en a),aS en hp r with
   | some (q,x,_,_),some (p,xs)=>some (q∧p,x::xs)
   | _,_=>none
def bf:List SV→SV
 | [x]=>x
 | xs=>.aO xs
def nZ:Nat→List SV→List (Nat×SV)
 | _,[]=>[]
 | n,x::r=>(n,x)::nZ (n+1) r
theorem He:∀ (xs:List SV) (n m:Nat),lk (nZ n xs) m=if n≤m then (xs[m - n]?).getD .dead else .dead
 | [],n,m=>by simp [nZ,lk]
 | x::r,n,m=>by
   unfold nZ lk
   by_cases h:n=m
   ·subst h;simp
   ·rw [if_neg h,He r (n+1) m]
    by_cases h1:n+1≤m
    ·rw [if_pos h1,if_pos (by omega)]
     rw [show m - n=(m - (n+1))+1 by omega,List.getElem?_cons_succ]
    ·rw [if_neg h1,if_neg (by omega)]
structure Fin (σ:List Nat) (pre us:List (Nat×HB)) (rs:List RR) (sv:SV) (env:List (Nat×SV)) (h:List (Option HB)) (τ:Nat→Option Nat):Prop where
 inj:∀ i j id,τ i=some id→τ j=some id→i=j
 old:∀ (j id:Nat),σ[j]?=some id→τ j=some id
 new:∀ j id,τ j=some id→σ.length≤j→id∈us.map (·.1)∧∀ q∈pre,q.1≠id
 has:∀ j id,τ j=some id→∃ hb hb',aB h j=some hb∧pJ τ (aB h) hb hb'∧∀ hp,aR hp pre→bP hp us id=some hb'
 all:∀ q∈us,∃ j,τ j=some q.1
 res:∃ p xs,aS (lk env) (aB h) rs=some (p,xs)∧p∧Rn τ (aB h) (bf xs) sv
theorem Av {hp:Hp}:∀ {us:List (Nat×HB)} {id:Nat},id∉us.map (·.1)→bP hp us id=hp id
 | us,id,h=>tJ (fun q hq he=>h (List.mem_map.2 ⟨q,hq,he⟩))
def Di (vs:List Value):Value:=match vs with
 | [v]=>v
 | vs=>.tuple vs.toArray
theorem TU {w:World} {ok:Nat→Prop} {aa:Nat→Option Nat} {hp:Hp} {xs:List SV} {vs:List Value} (hl:vs.length=xs.length) (h:∀ (j:Nat) (x:SV),xs[j]?=some x→Rp w ok aa hp x (vs.getD j undef)):Rp w ok aa hp (bf xs) (Di vs):=by
 match xs,vs with
 | [],[]=>exact .aO [] [] rfl h
 | [x],[v]=>exact h 0 x rfl
 | x::y::r,u::v::s=>exact .aO _ _ hl h
theorem SH {P:Program} {t:TypeId} {v x:Value} {w w':World} (h:(Instr.loadAt t v).run P w = .ok x w'):(do loadVar t (← asAddr v):Sem Value).run P w = .ok x w':=by
 cases v with
 | pointer a=>
   cases a with
   | some a=>exact h
   | none=>simp [Instr.loadAt,Instr.sureAddr,stuck,Result.andThen] at h
 | _=>simp [Instr.loadAt,Instr.sureAddr,stuck,Result.andThen] at h
theorem Ud {P:Program} {C:Ctx} {hp:Hp} {w:World} {aa:Nat→Option Nat} (R:cn C hp w aa) {en:Nat→SV} {tmps:Array Value} (he:∀ n,Rp w (aI C aa hp) aa hp (en n) (tmps.getD n undef)) {fn:Func} {rs:List RR} (h:qW P fn.results.toList=some rs) {p:Prop} {xs:List SV} (hr:aS en hp rs=some (p,xs)) (aE:p) :
 ∃ vs,(results fn tmps).run P w = .ok (Di vs) w∧Rp w (aI C aa hp) aa hp (bf xs) (Di vs):=by
 have key:∀ (l:List ResultVar) (rs:List RR) (p:Prop) (xs:List SV),qW P l=some rs→aS en hp rs=some (p,xs)→p→∃ vs,vs.length=xs.length∧(∀ (j:Nat) (x:SV),xs[j]?=some x→Rp w (aI C aa hp) aa hp x (vs.getD j undef))∧(l.mapM fun r=>(match r with
  | .tmp t=>pure (tmps.getD t undef)
  | .cell a t=>do loadVar t (← asAddr (tmps.getD a undef)):Sem Value)).run P w = .ok vs w:=by
  intro l
  induction l with
  | nil=>intro rs p xs h hr hp;cases h;cases hr;exact ⟨[],rfl,fun j x hx=>by simp at hx,rfl⟩
  | cons x r ih=>
    intro rs p xs h hr hp
    cases x with
    | tmp t=>
      unfold qW at h
      split at h
      ·rename_i l hl
       cases h
       unfold aS at hr
       split at hr
       ·rename_i p0 gT zp
        cases hr
        obtain ⟨vs,h1,h2,h3⟩:=ih l p gT hl zp hp
        refine ⟨tmps.getD t undef::vs,by simp [h1],fun j x hx=>?_,?_⟩
        ·cases j with
         | zero=>simp at hx;subst hx;exact he t
         | succ j=>exact h2 j x (by simpa using hx)
        ·simp only [List.mapM_cons,Sem.run_bind,Sem.run_pure,h3,Result.andThen]
       ·cases hr
      ·cases h
    | cell a t=>
      unfold qW at h
      split at h
      ·rename_i n agg l hs ha hl
       cases h
       unfold aS at hr
       split at hr
       ·rename_i q x u rd p0 gT hE zp
        cases hr
        obtain ⟨vs,h1,h2,h3⟩:=ih l p0 gT hl zp hp.2
        obtain ⟨_,y,hy1,zq⟩:=CL R hs ha (he a) hE hp.1
        refine ⟨y::vs,by simp [h1],fun j x hx=>?_,?_⟩
        ·cases j with
         | zero=>simp at hx;subst hx;exact zq
         | succ j=>exact h2 j x (by simpa using hx)
        ·have:=SH hy1
         rw [List.mapM_cons,Sem.run_bind]
         refine (congrArg (fun r=>Result.andThen r _) this).trans ?_
         simp only [Result.andThen,Sem.run_bind,h3,Sem.run_pure]
       ·cases hr
      ·cases h
 obtain ⟨vs,h1,h2,h3⟩:=key _ _ _ _ h hr aE
 have hm:(fn.results.mapM fun r=>(match r with
  | .tmp t=>pure (tmps.getD t undef)
  | .cell a t=>do loadVar t (← asAddr (tmps.getD a undef)):Sem Value)).run P w = .ok vs.toArray w:=by
  rw [Array.mapM_eq_mapM_toList,Sem.run_map,h3]
  rfl
 refine ⟨vs,?_,TU h1 h2⟩
 unfold results
 rw [Sem.run_bind]
 refine (congrArg (fun r=>Result.andThen r _) hm).trans ?_
 show (pure _:Sem Value).run P w=_
 rw [Sem.run_pure]
 match vs with
 | []=>rfl
 | [t]=>rfl
 | t::u::r=>rfl
section
variable {P:Program} {C:Ctx} {hp:Hp} {w:World} {aa:Nat→Option Nat}
def inner (C:Ctx) (aa:Nat→Option Nat) (hp:Hp) (w:World) (N:Nat) (σ:List Nat) (hs0:List (Option HB)):Ctx:=
 ⟨w,aI C aa hp,fun b=>∃ (j:Nat) (id:Nat),σ[j]?=some id∧aa id=some b,N,fun j=>(σ[j]?).bind aa,aB hs0⟩
theorem pU {hs:List (Option HB)} {j:Nat} {hb:HB}:aB hs j=some hb↔hs[j]?=some (some hb):=by
 unfold aB
 cases h:hs[j]? with
 | none=>simp
 | some x=>simp
theorem Mm (R:cn C hp w aa) {N:Nat} {σ:List Nat} {hs0:List (Option HB)} {pre:List (Nat×HB)} (hpre:aR hp pre) (hl:hs0.length=σ.length) (hinj:∀ (i j id:Nat),σ[i]?=some id→σ[j]?=some id→i=j)
 (oP:∀ (j id:Nat),σ[j]?=some id→∃ hb hb',hs0[j]?=some (some hb)∧(id,hb')∈pre∧mY (fun j=>σ[j]?) hb hb') :
 cn (inner C aa hp w N σ hs0) (aB hs0) w (fun j=>(σ[j]?).bind aa)∧(∀ b,aI C aa hp b→aI (inner C aa hp w N σ hs0) (fun j=>(σ[j]?).bind aa) (aB hs0) b)∧
 (∀ {x y:SV} {v:Value},Rp w (aI C aa hp) aa hp y v→Bk (fun j=>σ[j]?) x y→Rp w (aI (inner C aa hp w N σ hs0) (fun j=>(σ[j]?).bind aa) (aB hs0)) (fun j=>(σ[j]?).bind aa) (aB hs0) x v):=by
 have at_:∀ j hb,aB hs0 j=some hb→∃ id hb',σ[j]?=some id∧hp id=some hb'∧mY (fun j=>σ[j]?) hb hb':=fun j hb h=>by
  rw [pU] at h
  have hlt:=(List.getElem?_eq_some_iff.1 h).1
  have hid:=List.getElem?_eq_getElem (l:=σ) (i:=j) (by omega)
  obtain ⟨hb0,hb',h1,h2,h3⟩:=oP j _ hid
  rw [h] at h1;cases h1
  exact ⟨_,hb',hid,hpre _ h2,h3⟩
 have hro:∀ b,aI C aa hp b→aI (inner C aa hp w N σ hs0) (fun j=>(σ[j]?).bind aa) (aB hs0) b:=fun b hb=>by
  refine ⟨.inl hb,fun j hj=>?_⟩
  obtain ⟨x,hx⟩:=Option.isSome_iff_exists.1 hj
  obtain ⟨id,hb',h1,h2,h3⟩:=at_ j x hx
  simp only [h1,Option.bind_some]
  exact hb.2 id (by simp [h2])
 have hs:∀ (j id:Nat),σ[j]?=some id→(σ[j]?).bind aa=aa id∧((hp id).isSome=true→(aB hs0 j).isSome=true)∧(∀ cs,aB hs0 j=some (.var cs)→∃ cs',hp id=some (.var cs'))∧∀ e az xs,aB hs0 j=some (.row e az xs)→∃ xs',hp id=some (.row e az xs'):=fun j id h=>by
  obtain ⟨hb0,hb',h1,h2,h3⟩:=oP j id h
  refine ⟨by rw [h];rfl,fun _=>by rw [pU.2 h1];rfl,fun cs hc=>?_,fun e az xs hc=>?_⟩
  ·rw [pU.2 h1] at hc;cases hc
   cases h3 with
   | var _ ys _=>exact ⟨ys,hpre _ h2⟩
  ·rw [pU.2 h1] at hc;cases hc
   cases h3 with
   | row _ _ _ ys _ _=>exact ⟨ys,hpre _ h2⟩
 refine ⟨⟨fun j hb h=>?_,fun i j b h1 h2 h3 h4=>?_,fun j b h1 h2=>?_,⟨rfl,rfl,rfl,Nat.le_refl _,fun b _ _=>rfl⟩,fun j hb hb0 h1 h2=>?_⟩,hro,fun hr hb=>hr.back hro hs hb⟩
 ·obtain ⟨id,hb',h1,h2,h3⟩:=at_ j hb h
  exact (R.heap id hb' h2).back hro hs h1 h3
 ·obtain ⟨x,hx⟩:=Option.isSome_iff_exists.1 h1
  obtain ⟨y,hy⟩:=Option.isSome_iff_exists.1 h2
  obtain ⟨id,_,a1,a2,_⟩:=at_ i x hx
  obtain ⟨id',_,b1,b2,_⟩:=at_ j y hy
  simp only [a1,b1,Option.bind_some] at h3 h4
  obtain rfl:=R.inj id id' b (by simp [a2]) (by simp [b2]) h3 h4
  exact hinj i j id a1 b1
 ·obtain ⟨x,hx⟩:=Option.isSome_iff_exists.1 h1
  obtain ⟨id,_,a1,a2,_⟩:=at_ j x hx
  simp only [a1,Option.bind_some] at h2
  exact ⟨.inl ⟨h1,by simp only [inner,a1,Option.bind_some];exact h2,j,id,a1,h2⟩,(R.own id b (by simp [a2]) h2).2⟩
 ·have qw:aB hs0 j=some hb0:=h2
  rw [h1] at qw;cases qw
  exact jC.refl _ _ _
theorem Sp (R:cn C hp w aa) {N:Nat} {σ:List Nat} {hs0:List (Option HB)} {pre us:List (Nat×HB)} (hpre:aR hp pre) (hnew:so C hp pre us)
 (oP:∀ (j id:Nat),σ[j]?=some id→∃ hb hb',hs0[j]?=some (some hb)∧(id,hb')∈pre∧mY (fun j=>σ[j]?) hb hb')
 {w':World} {aK:Nat→Option Nat} {h:List (Option HB)} (R':cn (inner C aa hp w N σ hs0) (aB h) w' aK) {rs:List RR} {sv:SV} {env:List (Nat×SV)} {τ:Nat→Option Nat} (F:Fin σ pre us rs sv env h τ) :
 ∃ gN,Step C hp (bP hp us) w w' aa gN∧∀ (x y:SV) (v:Value),Rp w' (aI (inner C aa hp w N σ hs0) aK (aB h)) aK (aB h) x v→Rn τ (aB h) x y→Rp w' (aI C gN (bP hp us)) gN (bP hp us) y v:=by
 classical
 let gN:Nat→Option Nat:=fun id=>if h:∃ j,τ j=some id then aK h.choose else aa id
 have rT:∀ j id,τ j=some id→gN id=aK j:=fun j id hj=>by
  have hex:∃ j,τ j=some id:=⟨j,hj⟩
  show (if h:∃ j,τ j=some id then aK h.choose else aa id)=_
  rw [dif_pos hex,F.inj _ _ _ hex.choose_spec hj]
 have rN:∀ id,(¬ ∃ j,τ j=some id)→gN id=aa id:=fun id hj=>by
  show (if h:∃ j,τ j=some id then aK h.choose else aa id)=_
  rw [dif_neg hj]
 have hT:∀ j id,τ j=some id→∃ hb hb',aB h j=some hb∧pJ τ (aB h) hb hb'∧bP hp us id=some hb':=fun j id hj=>by
  obtain ⟨hb,hb',h1,h2,h3⟩:=F.has j id hj
  exact ⟨hb,hb',h1,h2,h3 hp hpre⟩
 have hN:∀ id,(¬ ∃ j,τ j=some id)→bP hp us id=hp id:=fun id hj=>tJ (fun q hq he=>hj (by rw [← he];exact F.all q hq))
 have hold:∀ j id,τ j=some id→(hp id).isSome=true→σ[j]?=some id:=fun j id hj hs=>by
  by_cases hlt:j<σ.length
  ·have hid:=List.getElem?_eq_getElem hlt
   have:=F.old j _ hid
   rw [hj] at this;cases this
   exact hid
  ·obtain ⟨hu,hq⟩:=F.new j id hj (by omega)
   obtain ⟨q,Ci,nu⟩:=List.mem_map.1 hu
   rcases hnew q Ci with ⟨hb,hm⟩ | ⟨hn,_⟩
   ·exact absurd nu (hq (q.1,hb) hm)
   ·rw [nu] at hn;rw [hn] at hs;cases hs
 have hnone:∀ j id,τ j=some id→hp id=none→C.h0 id=none:=fun j id hj hn=>by
  by_cases hlt:j<σ.length
  ·have hid:=List.getElem?_eq_getElem hlt
   have:=F.old j _ hid
   rw [hj] at this;cases this
   obtain ⟨hb,hb',_,h2,_⟩:=oP j _ hid
   rw [hpre _ h2] at hn;cases hn
  ·obtain ⟨hu,hq⟩:=F.new j id hj (by omega)
   obtain ⟨q,Ci,nu⟩:=List.mem_map.1 hu
   rcases hnew q Ci with ⟨hb,hm⟩ | ⟨_,hn⟩
   ·exact absurd nu (hq (q.1,hb) hm)
   ·rw [← nu];exact hn
 have hsz:w.heap.size≤w'.heap.size:=R'.fr.size
 have iN:∀ b,b<w.heap.size→(∀ j id,σ[j]?=some id→aa id≠some b)→w'.heap[b]?=w.heap[b]?:=fun b hb hn=>R'.fr.block b hb (fun ⟨j,id,h1,h2⟩=>hn j id h1 h2)
 have hin:∀ (j id:Nat),σ[j]?=some id→(hp id).isSome=true:=fun j id hj=>by
  obtain ⟨hb,hb',_,h2,_⟩:=oP j id hj
  rw [hpre _ h2];rfl
 have vT:∀ j id,τ j=some id→(aB h j).isSome=true:=fun j id hj=>by
  obtain ⟨hb,_,h1,_⟩:=hT j id hj
  rw [h1];rfl
 have zR:∀ j id b,τ j=some id→aK j=some b→((σ[j]?=some id∧aa id=some b)∨w.heap.size≤b)∧b<w'.heap.size:=fun j id b hj hb=>by
  obtain ⟨h1,h2⟩:=R'.own j b (vT j id hj) hb
  refine ⟨?_,h2⟩
  rcases h1 with ⟨a1,a2,_⟩ | a
  ·left
   have sr:(σ[j]?).bind aa=some b:=a2
   cases hid:σ[j]? with
   | none=>rw [hid] at sr;cases sr
   | some id'=>
     rw [hid] at sr
     have:=F.old j id' hid
     rw [hj] at this;cases this
     exact ⟨rfl,sr⟩
  ·exact .inr a
 have wZ:∀ b,aI (inner C aa hp w N σ hs0) aK (aB h) b→aI C gN (bP hp us) b:=fun b hb=>by
  obtain ⟨h1,h2⟩:=hb
  have hb0:C.wY b∨C.w0.heap.size≤b:=by
   rcases h1 with a | a
   ·exact a.1
   ·exact .inr (Nat.le_trans R.fr.size a)
  refine ⟨hb0,fun id hid he=>?_⟩
  by_cases hr:∃ j,τ j=some id
  ·obtain ⟨j,hj⟩:=hr
   rw [rT j id hj] at he
   exact h2 j (vT j id hj) he
  ·rw [hN id hr] at hid
   rw [rN id hr] at he
   rcases h1 with a | a
   ·exact a.2 id hid he
   ·have:=(R.own id b hid he).2
    have a':w.heap.size≤b:=a
    omega
 have xb:∀ j b,τ j=none→(aB h j).isSome=true→aK j=some b→aI C gN (bP hp us) b:=fun j b hj hs hb=>by
  have hbw:w.heap.size≤b:=by
   rcases (R'.own j b hs hb).1 with ⟨a1,a2,_⟩ | a
   ·have sr:(σ[j]?).bind aa=some b:=a2
    cases hid:σ[j]? with
    | none=>rw [hid] at sr;cases sr
    | some id'=>rw [F.old j id' hid] at hj;cases hj
   ·exact a
  refine ⟨.inr (Nat.le_trans R.fr.size hbw),fun id hid he=>?_⟩
  by_cases hr:∃ j,τ j=some id
  ·obtain ⟨i,hi⟩:=hr
   rw [rT i id hi] at he
   have:=R'.inj i j b (vT i id hi) hs he hb
   subst this
   rw [hi] at hj;cases hj
  ·rw [hN id hr] at hid
   rw [rN id hr] at he
   have:=(R.own id b hid he).2
   omega
 have hs:∀ j id,τ j=some id→aK j=gN id∧((aB h j).isSome=true→(bP hp us id).isSome=true)∧(∀ cs,bP hp us id=some (.var cs)→∃ cs',aB h j=some (.var cs'))∧∀ e az xs,bP hp us id=some (.row e az xs)→∃ xs',aB h j=some (.row e az xs'):=fun j id hj=>by
  obtain ⟨hb,hb',h1,h2,h3⟩:=hT j id hj
  refine ⟨(rT j id hj).symm,fun _=>by rw [h3];rfl,fun cs hc=>?_,fun e az xs hc=>?_⟩
  ·rw [h3] at hc;cases hc
   cases h2 with
   | var xs _ _=>exact ⟨xs,h1⟩
  ·rw [h3] at hc;cases hc
   cases h2 with
   | row _ _ xs _ _ _=>exact ⟨xs,h1⟩
 have tv:∀ b,aI C aa hp b→b<w.heap.size→aI C gN (bP hp us) b∧w'.heap[b]?=w.heap[b]?:=fun b hb hlt=>by
  refine ⟨⟨hb.1,fun id hid he=>?_⟩,iN b hlt (fun j id hj he=>hb.2 id (hin j id hj) he)⟩
  by_cases hr:∃ j,τ j=some id
  ·obtain ⟨j,hj⟩:=hr
   rw [rT j id hj] at he
   rcases (zR j id b hj he).1 with ⟨a1,a2⟩ | a
   ·exact hb.2 id (hin j id a1) a2
   ·omega
  ·rw [hN id hr] at hid
   rw [rN id hr] at he
   exact hb.2 id hid he
 have EW:∀ id hb,hp id=some hb→∃ hb',bP hp us id=some hb'∧jC w w' (aa id) (gN id) hb hb':=fun id hb hq=>by
  by_cases hr:∃ j,τ j=some id
  ·obtain ⟨j,hj⟩:=hr
   obtain ⟨yZ,hb',h1,h2,h3⟩:=hT j id hj
   refine ⟨hb',h3,?_⟩
   have hid:=hold j id hj (by rw [hq];rfl)
   obtain ⟨hb0,WX,g1,g2,g3⟩:=oP j id hid
   have:=hpre _ g2
   rw [hq] at this;cases this
   have ev:=R'.jS j yZ hb0 h1 (pU.2 g1)
   have ev':jC w w' (aa id) (aK j) hb0 yZ:=by
    have e:(inner C aa hp w N σ hs0).Dk j=aa id:=by show (σ[j]?).bind aa=_;rw [hid];rfl
    rw [e] at ev;exact ev
   rw [rT j id hj]
   cases g3 with
   | var xs ys hb=>
     cases h2 with
     | var vh WA hf=>exact ev'
     | row=>exact ev'.elim
   | row e az xs ys hl hb=>
     cases h2 with
     | var=>exact ev'.elim
     | row e2 Aw vh WA vU hf=>exact ev'
  ·refine ⟨hb,by rw [hN id hr];exact hq,?_⟩
   rw [rN id hr]
   cases hb with
   | var cs=>rfl
   | row e az xs=>
     refine ⟨Nat.le_refl _,fun _=>⟨rfl,rfl,fun b hb cur t hc=>⟨cur,t,?_,rfl⟩⟩⟩
     rw [iN b ((R.own id b (by rw [hq];rfl) hb).2) (fun j id' hj he=>?_)];exact hc
     obtain rfl:=R.inj id id' b (by rw [hq];rfl) (hin j id' hj) hb he
     exact hr ⟨j,F.old j id hj⟩
 have E:jn w w' (aI C aa hp) (aI C gN (bP hp us)) aa gN hp (bP hp us):=jn.of tv EW
 refine ⟨gN,⟨⟨fun id hb hq=>?_,fun i j b h1 h2 h3 h4=>?_,fun id b h1 h2=>?_,⟨R'.fr.os.trans R.fr.os,R'.fr.tape.trans R.fr.tape,R'.fr.output.trans R.fr.output,Nat.le_trans R.fr.size hsz,fun b h1 h2=>?_⟩,fun id hb hb0 h1 h2=>?_⟩,E⟩,fun x y v hr hf=>hr.leave wZ xb (fun j hb hj=>R'.heap j hb hj) hs hf⟩
 ·by_cases hr:∃ j,τ j=some id
  ·obtain ⟨j,hj⟩:=hr
   obtain ⟨yZ,hb',h1,h2,h3⟩:=hT j id hj
   rw [hq] at h3;cases h3
   exact (R'.heap j yZ h1).leave wZ xb (fun j hb hj=>R'.heap j hb hj) hs hj h2
  ·rw [hN id hr] at hq
   rcases R.heap id hb hq with ⟨a1,a2⟩ | ⟨b,cur,t,a1,a2,a3⟩
   ·exact .inl ⟨(rN id hr).trans a1,a2⟩
   ·refine .inr ⟨b,cur,t,(rN id hr).trans a1,?_,a3.mono E⟩
    rw [iN b ((R.own id b (by rw [hq];rfl) a1).2) (fun j id' hj he=>?_)];exact a2
    obtain rfl:=R.inj id id' b (by rw [hq];rfl) (hin j id' hj) a1 he
    exact hr ⟨j,F.old j id hj⟩
 ·by_cases hi:∃ k,τ k=some i <;> by_cases hj:∃ k,τ k=some j
  ·obtain ⟨k,hk⟩:=hi
   obtain ⟨l,hl⟩:=hj
   rw [rT k i hk] at h3
   rw [rT l j hl] at h4
   have:=R'.inj k l b (vT k i hk) (vT l j hl) h3 h4
   subst this
   rw [hk] at hl;cases hl;rfl
  ·obtain ⟨k,hk⟩:=hi
   rw [rT k i hk] at h3
   rw [rN j hj] at h4
   rw [hN j hj] at h2
   rcases (zR k i b hk h3).1 with ⟨a1,a2⟩ | a
   ·exact R.inj i j b (hin k i a1) h2 a2 h4
   ·have:=(R.own j b h2 h4).2;omega
  ·obtain ⟨k,hk⟩:=hj
   rw [rT k j hk] at h4
   rw [rN i hi] at h3
   rw [hN i hi] at h1
   rcases (zR k j b hk h4).1 with ⟨a1,a2⟩ | a
   ·exact R.inj i j b h1 (hin k j a1) h3 a2
   ·have:=(R.own i b h1 h3).2;omega
  ·rw [rN i hi] at h3;rw [hN i hi] at h1
   rw [rN j hj] at h4;rw [hN j hj] at h2
   exact R.inj i j b h1 h2 h3 h4
 ·by_cases hr:∃ j,τ j=some id
  ·obtain ⟨j,hj⟩:=hr
   rw [rT j id hj] at h2
   obtain ⟨a,a'⟩:=zR j id b hj h2
   refine ⟨?_,a'⟩
   rcases a with ⟨a1,a2⟩ | a
   ·exact (R.own id b (hin j id a1) a2).1
   ·exact .inr (Nat.le_trans R.fr.size a)
  ·rw [hN id hr] at h1
   rw [rN id hr] at h2
   obtain ⟨a,a'⟩:=R.own id b h1 h2
   exact ⟨a,by omega⟩
 ·rw [iN b (by have:=R.fr.size;omega) (fun j id hj he=>?_)]
  ·exact R.fr.block b h1 h2
  ·rcases (R.own id b (hin j id hj) he).1 with a | a
   ·exact h2 a.2.2
   ·omega
 ·by_cases hq:∃ iW,hp id=some iW
  ·obtain ⟨iW,hq⟩:=hq
   obtain ⟨hb',a1,a2⟩:=EW id iW hq
   rw [h1] at a1;cases a1
   exact (R.jS id iW hb0 hq h2).trans a2
  ·have hn:hp id=none:=by cases nu:hp id with
    | none=>rfl
    | some x=>exact absurd ⟨x,nu⟩ hq
   by_cases hr:∃ j,τ j=some id
   ·obtain ⟨j,hj⟩:=hr
    rw [hnone j id hj hn] at h2;cases h2
   ·rw [hN id hr,hn] at h1;cases h1
end
structure aX (P:Program) (f:FuncId) (N:Nat) (ac:AC) (rs:List RR):Prop where
 call:tV P f=true
 ex:∃ fn c,P.funcs[f]?=some fn∧fn.body=some c∧fn.ntmps=N∧comp P N c=some ac∧qW P fn.results.toList=some rs
def yS (P:Program) (f:FuncId) (N:Nat) (rs:List RR):Option AC:=match P.funcs[f]? with
 | some fn=>if tV P f && fn.ntmps == N then match fn.body,qW P fn.results.toList with
   | some c,some rs'=>if rs'=rs then comp P N c else none
   | _,_=>none
   else none
 | none=>none
theorem MI {P:Program} {f:FuncId} {N:Nat} {ac:AC} {rs:List RR} (h:yS P f N rs=some ac):aX P f N ac rs:=by
 unfold yS at h
 split at h
 ·rename_i fn hf
  split at h
  ·rename_i hc
   simp only [Bool.and_eq_true,beq_iff_eq] at hc
   split at h
   ·rename_i c rs' hb hr
    split at h
    ·rename_i he;subst he
     exact ⟨hc.1,fn,c,hf,hb,hc.2,h,hr⟩
    ·cases h
   ·cases h
  ·cases h
 ·cases h
theorem ym {P:Program} {f:FuncId} {N:Nat} {ac:AC} {rs:List RR} (H:aX P f N ac rs) {args:List SV} {pre us:List (Nat×HB)} {sv:SV} (σ:List Nat) (hs0:List (Option HB)) (jc:List SV)
 (hargs:args.length≤N) (hA:sj (fun j=>σ[j]?) jc args) (hl:hs0.length=σ.length) (hinj:∀ (i j id:Nat),σ[i]?=some id→σ[j]?=some id→i=j)
 (oP:∀ (j id:Nat),σ[j]?=some id→∃ hb hb',hs0[j]?=some (some hb)∧(id,hb')∈pre∧mY (fun j=>σ[j]?) hb hb')
 (hrun:∀ K:Ex→St→Prop,(∀ env h env' h' τ,gi σ.length ⟨env,h⟩ ⟨env',h'⟩→Fin σ pre us rs sv env' h' τ→K .normal ⟨env,h⟩∧K .ret ⟨env,h⟩)→G P σ.length [.c ac] K (nZ 0 jc) hs0):aL P f args pre us sv:=by
 obtain ⟨NU,fn,c,hf,hb,hN,hc,hr⟩:=H
 subst hN
 refine ⟨NU,fun C hp w aa vs hpre hnew R hvl hvs=>?_⟩
 obtain ⟨R0,hro,NT⟩:=Mm R (N:=fn.ntmps) hpre hl hinj oP
 refine calls_of_wp hf hb ?_
 have hG:=hrun (fun e s=>(∀ id,e≠.exit id)∧∃ s' τ,gi σ.length s s'∧Fin σ pre us rs sv s'.env s'.h τ) (fun env h env' h' τ hE hF=>⟨⟨by simp,⟨env',h'⟩,τ,hE,hF⟩,⟨by simp,⟨env',h'⟩,τ,hE,hF⟩⟩)
 have R1:jE (inner C aa hp w fn.ntmps σ hs0) σ.length ⟨nZ 0 jc,hs0⟩ { tmps:=vs.toArray++Array.replicate (fn.ntmps - vs.toArray.size) undef,defers:=[] } w:=by
  refine ⟨⟨_,R0,fun n=>?_,?_,rfl⟩,by rw [← hl];exact Nat.le_refl _,fun id hid=>?_⟩
  ·show Rp _ _ _ _ (lk (nZ 0 jc) n) _
   rw [He,if_pos (Nat.zero_le _),Nat.sub_zero]
   cases hx:jc[n]? with
   | none=>exact .dead _
   | some x=>
     have hlt:=(List.getElem?_eq_some_iff.1 hx).1
     have hy:=List.getElem?_eq_getElem (l:=args) (i:=n) (by have:=hA.1;omega)
     have hv:=NT (hvs n _ hy) (hA.2 n x _ hx hy)
     have:(vs.toArray++Array.replicate (fn.ntmps - vs.toArray.size) undef).getD n undef=vs.getD n undef:=by
      have hn:n<vs.length:=by have:=hA.1;omega
      simp [Array.getD_eq_getD_getElem?,List.getD_eq_getElem?_getD,Array.getElem?_append,hn]
     rw [this];exact hv
  ·show (vs.toArray++Array.replicate (fn.ntmps - vs.toArray.size) undef).size=fn.ntmps
   simp;omega
  ·show aB hs0 id=none
   unfold aB
   rw [List.getElem?_eq_none (by omega)]
 refine Ww c ac _ _ _ _ _ hc hG R1 (fun e s a w' hk RS=>?_)
 obtain ⟨hne,s',τ,hE,F⟩:=hk
 obtain ⟨⟨aK,RF⟩,_,_⟩:=hE _ _ _ RS
 obtain ⟨gN,hS,hL⟩:=Sp R hpre hnew oP RF.mem F
 obtain ⟨p,xs,r1,r2,r3⟩:=F.res
 obtain ⟨vs,v1,v2⟩:=Ud RF.mem RF.env hr r1 r2
 have hres:=hL _ _ _ v2 r3
 cases e with
 | normal=>exact ⟨RF.defers,_,v1,_,gN,rfl,hS,hres⟩
 | exit id=>exact absurd rfl (hne id)
 | ret=>exact ⟨RF.defers,_,v1,_,gN,rfl,hS,hres⟩
end Go.aJ

namespace Go.aJ
open Go
theorem Bu {n0:Nat} {env env':List (Nat×SV)} {h h':List (Option HB)} (τ:Nat→Option Nat) (hn:n0≤h'.length)
 (hid:∀ j i,τ j=some i→i=j) (hkeep:∀ j,τ j=none→n0≤j)
 (hh:∀ j,(∃ hb hb',τ j=some j∧aB h j=some hb∧aB h' j=some hb'∧pJ τ (aB h) hb hb')∨(aB h' j=none∧(τ j=none∨aB h j=none)))
 (he:∀ n,Rn τ (aB h) (lk env n) (lk env' n)):gi n0 ⟨env,h⟩ ⟨env',h'⟩:=by
 intro C a w R
 obtain ⟨⟨aa,RF⟩,_,h0⟩:=R
 have hsub:∀ j hb',aB h' j=some hb'→τ j=some j∧∃ hb,aB h j=some hb∧pJ τ (aB h) hb hb':=fun j hb' hj=>by
  rcases hh j with ⟨hb,hb2,a1,a2,a3,a4⟩ | ⟨a1,_⟩
  ·rw [hj] at a3;cases a3;exact ⟨a1,hb,a2,a4⟩
  ·rw [hj] at a1;cases a1
 have hsome:∀ j,(aB h' j).isSome=true→(aB h j).isSome=true:=fun j hj=>by
  obtain ⟨hb',hb2⟩:=Option.isSome_iff_exists.1 hj
  obtain ⟨_,hb,h1,_⟩:=hsub j hb' hb2
  rw [h1];rfl
 have M:=RF.mem
 have wZ:∀ b,aI C aa (aB h) b→aI C aa (aB h') b:=fun b hb=>⟨hb.1,fun id hid=>hb.2 id (hsome id hid)⟩
 have xb:∀ j b,τ j=none→(aB h j).isSome=true→aa j=some b→aI C aa (aB h') b:=fun j b hj hs hb=>by
  refine ⟨?_,fun id hid he=>?_⟩
  ·rcases (M.own j b hs hb).1 with ⟨a1,_⟩ | a
   ·rw [h0 j (hkeep j hj)] at a1;cases a1
   ·exact .inr a
  ·have:=M.inj id j b (hsome id hid) hs he hb
   subst this
   obtain ⟨hb',hb2⟩:=Option.isSome_iff_exists.1 hid
   obtain ⟨h1,_⟩:=hsub id hb' hb2
   rw [h1] at hj;cases hj
 have hs:∀ j i,τ j=some i→aa j=aa i∧((aB h j).isSome=true→(aB h' i).isSome=true)∧(∀ cs,aB h' i=some (.var cs)→∃ cs',aB h j=some (.var cs'))∧∀ e az xs,aB h' i=some (.row e az xs)→∃ xs',aB h j=some (.row e az xs'):=fun j i hj=>by
  obtain rfl:=hid j i hj
  refine ⟨rfl,fun hi=>?_,fun cs hc=>?_,fun e az xs hc=>?_⟩
  ·rcases hh i with ⟨hb,hb2,a1,a2,a3,a4⟩ | ⟨_,a1 | a1⟩
   ·rw [a3];rfl
   ·rw [a1] at hj;cases hj
   ·rw [a1] at hi;cases hi
  ·obtain ⟨_,hb,h1,h2⟩:=hsub i _ hc
   cases h2 with
   | var xs _ _=>exact ⟨xs,h1⟩
  ·obtain ⟨_,hb,h1,h2⟩:=hsub i _ hc
   cases h2 with
   | row _ _ xs _ _ _=>exact ⟨xs,h1⟩
 refine ⟨⟨aa,⟨⟨fun j hb' hj=>?_,fun i j b h1 h2=>M.inj i j b (hsome i h1) (hsome j h2),fun j b h1 h2=>M.own j b (hsome j h1) h2,M.fr,fun j hb' hb0 h1 h2=>?_⟩,fun n=>(RF.env n).leave wZ xb (fun j hb hj=>M.heap j hb hj) hs (he n),RF.size,RF.defers⟩⟩,hn,h0⟩
 ·obtain ⟨a1,hb,a2,a3⟩:=hsub j hb' hj
  exact (M.heap j hb a2).leave wZ xb (fun j hb hj=>M.heap j hb hj) hs a1 a3
 ·obtain ⟨a1,hb,a2,a3⟩:=hsub j hb' h1
  have ev:=M.jS j hb hb0 a2 h2
  cases a3 with
  | var xs ys _=>cases hb0 <;> exact ev
  | row e az xs ys _ _=>cases hb0 <;> exact ev
theorem wU {P:SV→SV→Prop} (hd:∀ x,P x .dead) {env:List (Nat×SV)}:∀ {env':List (Nat×SV)},(∀ p∈env',P (lk env p.1) p.2)→∀ n,P (lk env n) (lk env' n)
 | [],_,n=>hd _
 | (m,v)::r,h,n=>by
   show P (lk env n) (if m=n then v else lk r n)
   by_cases he:m=n
   ·rw [if_pos he,← he];exact h (m,v) (by simp)
   ·rw [if_neg he];exact wU hd (fun p hp=>h p (List.mem_cons_of_mem _ hp)) n
theorem gk (n0:Nat) (s:St):gi n0 s s:=fun _ _ _ R=>R
theorem gi.trans {n0:Nat} {s s1 s2:St} (h:gi n0 s s1) (k:gi n0 s1 s2):gi n0 s s2:=fun C a w R=>k C a w (h C a w R)
theorem aU {n0:Nat} {env env':List (Nat×SV)} {h:List (Option HB)} (he:∀ p∈env',p.2 = .dead∨lk env p.1=p.2):gi n0 ⟨env,h⟩ ⟨env',h⟩:=by
 intro C a w R
 obtain ⟨⟨aa,RF⟩,h1,h0⟩:=R
 refine ⟨⟨aa,RF.mem,fun n=>?_,RF.size,RF.defers⟩,h1,h0⟩
 have:=wU (P:=fun x y=>y = .dead∨x=y) (fun x=>.inl rfl) he n
 rcases this with h | h
 ·show Rp _ _ _ _ (lk env' n) _
  rw [h];exact .dead _
 ·show Rp _ _ _ _ (lk env' n) _
  rw [← h];exact RF.env n
inductive jD:RV→Prop where
 | int (k:IntKind) (n:Int):jD (.int k n)
 | bool (b:Bool):jD (.bool b)
 | str (s:ByteArray):jD (.str s)
 | lV:jD .lV
 | cv:jD .cv
 | oa:jD .oa
 | pe:jD .pe
 | bW (t:TypeId) (r:RV) (h:jD r):jD (.bW t r)
 | agg (rs:List RV) (h:∀ (j:Nat) (r:RV),rs[j]?=some r→jD r):jD (.agg rs)
 | fn (f:FuncId) (rs:List RV) (h:∀ (j:Nat) (r:RV),rs[j]?=some r→jD r):jD (.fn f rs)
theorem RO.flat {w w':World} {ok fS:Nat→Prop} {r:RV} {v:Value} (hr:RO w ok r v) (hf:jD r):RO w' fS r v:=by
 induction hf generalizing v with
 | int k n=>cases hr;exact .int k n
 | bool b=>cases hr;exact .bool b
 | str s=>cases hr;exact .str s
 | lV=>cases hr;exact .lV
 | cv=>cases hr;exact .cv
 | oa=>cases hr;exact .oa
 | pe=>cases hr;exact .pe
 | bW t r h ih=>cases hr with | bW _ _ v h=>exact .bW t r v (ih h)
 | agg rs h ih=>cases hr with | agg _ vs hl h1 hy=>exact .agg rs vs hl h1 (fun j y hj=>ih j y hj (hy j y hj))
 | fn f rs h ih=>cases hr with | fn _ _ vs hl hy=>exact .fn f rs vs hl (fun j y hj=>ih j y hj (hy j y hj))
inductive iL:SV→Prop where
 | dead:iL .dead
 | rv (r:RV) (h:jD r):iL (.rv r)
 | ptr (id off:Nat):iL (.ptr id off)
 | bX (id az i off:Nat):iL (.bX id az i off)
 | row (id az len:Nat):iL (.row id az len)
 | win (id az off len:Nat):iL (.win id az off len)
 | agg (cs:List SV) (h:∀ (j:Nat) (y:SV),cs[j]?=some y→iL y):iL (.agg cs)
 | aO (cs:List SV) (h:∀ (j:Nat) (y:SV),cs[j]?=some y→iL y):iL (.aO cs)
 | fn (f:FuncId) (cs:List SV) (h:∀ (j:Nat) (y:SV),cs[j]?=some y→iL y):iL (.fn f cs)
 | bW (t:TypeId) (x:SV) (h:iL x):iL (.bW t x)
inductive nH:HB→Prop where
 | var (cs:List SV) (h:∀ (j:Nat) (y:SV),cs[j]?=some y→iL y):nH (.var cs)
 | row (e az:Nat) (xs:List (List SV)) (h:∀ (i:Nat) (x:List SV) (j:Nat) (y:SV),xs[i]?=some x→x[j]?=some y→iL y):nH (.row e az xs)
section
variable {w:World} {ok fS:Nat→Prop} {aa aK:Nat→Option Nat} {hp aE:Hp}
theorem Rp.flat (hs:∀ j,(hp j).isSome=true→aE j=hp j∧aK j=aa j) {s:SV} {v:Value} (hr:Rp w ok aa hp s v) (hf:iL s):Rp w fS aK aE s v:=by
 induction hf generalizing v with
 | dead=>exact .dead v
 | rv r h=>cases hr with | rv _ _ hr=>exact .rv r v (hr.flat h)
 | ptr id off=>cases hr with | ptr _ _ _ h1 h0 h=>obtain ⟨a,b⟩:=hs id h0;exact .ptr id off v h1 (by rw [a];exact h0) (by rw [a,b];exact h)
 | bX id az i off=>cases hr with | bX _ _ _ _ _ h1 h0 hv h=>obtain ⟨a,b⟩:=hs id h0;exact .bX id az i off v h1 (by rw [a];exact h0) (by rw [a];exact hv) (by rw [a,b];exact h)
 | row id az len=>cases hr with | row _ _ _ _ h1 h0 hv h=>obtain ⟨a,b⟩:=hs id h0;exact .row id az len v h1 (by rw [a];exact h0) (by rw [a];exact hv) (by rw [a,b];exact h)
 | win id az off len=>cases hr with | win _ _ _ _ _ h1 h0 hv hr hc=>obtain ⟨a,b⟩:=hs id h0;exact .win id az off len v h1 (by rw [a];exact h0) (by rw [a];exact hv) (by rw [a,b];exact hr) (by rw [a,b];exact hc)
 | agg cs h ih=>cases hr with | agg _ vs hl h1 hy=>exact .agg cs vs hl h1 (fun j y hj=>ih j y hj (hy j y hj))
 | aO cs h ih=>cases hr with | aO _ vs hl hy=>exact .aO cs vs hl (fun j y hj=>ih j y hj (hy j y hj))
 | fn f cs h ih=>cases hr with | fn _ _ vs hl hy=>exact .fn f cs vs hl (fun j y hj=>ih j y hj (hy j y hj))
 | bW t x h ih=>cases hr with | bW _ _ v0 h0=>exact .bW t x v0 (ih h0)
theorem gV.flat (hs:∀ j,(hp j).isSome=true→aE j=hp j∧aK j=aa j) {cur:Array Value} {off:Nat} {cs:List SV} (h:gV w ok aa hp cur off cs) (hf:∀ (j:Nat) (y:SV),cs[j]?=some y→iL y):gV w fS aK aE cur off cs:=fun j y hy=>by
 obtain ⟨v,h1,h2,h3⟩:=h j y hy
 exact ⟨v,h1,h2,h3.flat hs (hf j y hy)⟩
theorem mB.flat (hs:∀ j,(hp j).isSome=true→aE j=hp j∧aK j=aa j) {id:Nat} {hb:HB} (hid:(hp id).isSome=true) (h:mB w ok aa hp id hb) (hf:nH hb):mB w fS aK aE id hb:=by
 have hr:=(hs id hid).2
 rcases h with ⟨h1,h2⟩ | ⟨b,cur,t,h1,h2,h3⟩
 ·exact .inl ⟨hr.trans h1,h2⟩
 ·refine .inr ⟨b,cur,t,hr.trans h1,h2,?_⟩
  cases hf with
  | var cs hf=>exact ⟨h3.1,h3.2.flat hs hf⟩
  | row e az xs hf=>exact ⟨h3.1,h3.2.1,fun i x hx=>(h3.2.2 i x hx).flat hs (fun j y hy=>hf i x j y hx hy)⟩
end
theorem ou {us:List (Nat×HB)} {id:Nat}:(bP (fun _=>none) us id).isSome=true↔id∈us.map (·.1):=by
 have gen:∀ (us:List (Nat×HB)) (hp:Hp),(bP hp us id).isSome=true↔(hp id).isSome=true∨id∈us.map (·.1):=by
  intro us
  induction us with
  | nil=>intro hp;simp [bP]
  | cons q r ih=>
    intro hp
    obtain ⟨i,hb⟩:=q
    rw [bP,ih]
    by_cases h:id=i
    ·subst h;simp
    ·rw [gA _ _ h];simp [h]
 rw [gen];simp
theorem JB {us:List (Nat×HB)} {id:Nat} {hb:HB}:∀ {hp:Hp},bP hp us id=some hb→hp id=some hb∨(id,hb)∈us:=by
 induction us with
 | nil=>intro hp h;exact .inl h
 | cons q r ih=>
   intro hp h
   obtain ⟨i,hb0⟩:=q
   rcases ih h with h | h
   ·by_cases he:id=i
    ·subst he;rw [cr] at h;cases h;exact .inr (by simp)
    ·rw [gA _ _ he] at h;exact .inl h
   ·exact .inr (by simp [h])
theorem LA {P:Program} {f:FuncId} {rs:List RV} {args:List SV} {pre us:List (Nat×HB)} {sv:SV} (H:aL P f (rs.map .rv) [] us sv) (hl:args.length=rs.length)
 (hz:∀ hp,aR hp pre→∀ (j:Nat) (y:SV) (r:RV),args[j]?=some y→rs[j]?=some r→Fz (fun _=>none) hp y r) (hfl:iL sv) (ko:∀ q∈us,nH q.2∧∀ p∈pre,p.1≠q.1):aL P f args pre us sv:=by
 refine ⟨H.1,fun C hp w aa vs hpre hnew R hvl hvs=>?_⟩
 let C2:Ctx:=⟨w,fun b=>aI C aa hp b∨∃ id,(hp id).isSome=true∧aa id=some b,fun _=>False,C.N,fun _=>none,fun _=>none⟩
 have sW:∀ b,C2.wY b→aI C2 (fun _=>none) (fun _=>none) b:=fun b hb=>⟨.inl hb,fun id hid=>by simp at hid⟩
 have R2:cn C2 (fun _=>none) w (fun _=>none):=⟨fun id hb h=>(by cases h),fun i j b h=>(by simp at h),fun i b h=>(by simp at h),⟨rfl,rfl,rfl,Nat.le_refl _,fun b _ _=>rfl⟩,fun id hb hb0 h=>(by cases h)⟩
 have qA:∀ id,id∈us.map (·.1)→hp id=none∧C.h0 id=none:=fun id hid=>by
  obtain ⟨q,hq,rfl⟩:=List.mem_map.1 hid
  rcases hnew q hq with ⟨hb,hm⟩ | h
  ·exact absurd rfl ((ko q hq).2 (q.1,hb) hm)
  ·exact h
 refine (H.2 C2 (fun _=>none) w (fun _=>none) vs (fun q hq=>by simp at hq) (fun q hq=>.inr ⟨rfl,rfl⟩) R2 (by simp [hvl,hl]) (fun j s hj=>?_)).mono ?_
 ·rw [List.getElem?_map] at hj
  cases hr:rs[j]? with
  | none=>simp [hr] at hj
  | some r=>
    simp [hr] at hj
    subst hj
    have hlt:=(List.getElem?_eq_some_iff.1 hr).1
    have hy:=List.getElem?_eq_getElem (l:=args) (i:=j) (by omega)
    refine .rv _ _ (Fz.ro (τ:=fun _=>none) (fun b hb=>sW b (.inl hb)) (fun i b _ hi hb=>sW b (.inr ⟨i,hi,hb⟩)) (fun i hb hi=>R.heap i hb hi) (hvs j _ hy) (hz hp hpre j _ r hy hr))
 ·rintro e w' ⟨v,aK,rfl,S,hR⟩
  have R':=S.mem
  have iN:∀ b,b<w.heap.size→w'.heap[b]?=w.heap[b]?:=fun b hb=>R'.fr.block b hb (fun h=>h)
  have hsz:w.heap.size≤w'.heap.size:=R'.fr.size
  have qC:∀ id b,id∈us.map (·.1)→aK id=some b→w.heap.size≤b∧b<w'.heap.size:=fun id b hid hb=>by
   obtain ⟨h1,h2⟩:=R'.own id b (ou.2 hid) hb
   rcases h1 with ⟨a,_⟩ | a
   ·cases a
   ·exact ⟨a,h2⟩
  let gN:Nat→Option Nat:=fun id=>if id∈us.map (·.1) then aK id else aa id
  have rT:∀ id,id∈us.map (·.1)→gN id=aK id:=fun id h=>if_pos h
  have rN:∀ id,id∉us.map (·.1)→gN id=aa id:=fun id h=>if_neg h
  have hN:∀ id,id∉us.map (·.1)→bP hp us id=hp id:=fun id h=>Av h
  have hT:∀ id,id∈us.map (·.1)→bP hp us id=bP (fun _=>none) us id:=fun id h=>xC h
  have hs:∀ j,(bP (fun _=>none) us j).isSome=true→bP hp us j=bP (fun _=>none) us j∧gN j=aK j:=fun j hj=>⟨hT j (ou.1 hj),rT j (ou.1 hj)⟩
  have tv:∀ b,aI C aa hp b→b<w.heap.size→aI C gN (bP hp us) b∧w'.heap[b]?=w.heap[b]?:=fun b hb hlt=>by
   refine ⟨⟨hb.1,fun id hid he=>?_⟩,iN b hlt⟩
   by_cases hm:id∈us.map (·.1)
   ·rw [rT id hm] at he
    have:=(qC id b hm he).1;omega
   ·rw [hN id hm] at hid
    rw [rN id hm] at he
    exact hb.2 id hid he
  have E:jn w w' (aI C aa hp) (aI C gN (bP hp us)) aa gN hp (bP hp us):=jn.of tv (fun id hb hq=>by
   have hm:id∉us.map (·.1):=fun hm=>by rw [(qA id hm).1] at hq;cases hq
   refine ⟨hb,by rw [hN id hm];exact hq,?_⟩
   rw [rN id hm]
   cases hb with
   | var cs=>rfl
   | row e az xs=>exact ⟨Nat.le_refl _,fun _=>⟨rfl,rfl,fun b hb cur t hc=>⟨cur,t,by rw [iN b (R.own id b (by rw [hq];rfl) hb).2];exact hc,rfl⟩⟩⟩)
  refine ⟨v,gN,rfl,⟨⟨fun id hb hq=>?_,fun i j b h1 h2 h3 h4=>?_,fun id b h1 h2=>?_,⟨R'.fr.os.trans R.fr.os,R'.fr.tape.trans R.fr.tape,R'.fr.output.trans R.fr.output,Nat.le_trans R.fr.size hsz,fun b h1 h2=>?_⟩,fun id hb hb0 h1 h2=>?_⟩,E⟩,hR.flat hs hfl⟩
  ·by_cases hm:id∈us.map (·.1)
   ·rw [hT id hm] at hq
    have BZ:nH hb:=by
     rcases JB hq with h | h
     ·cases h
     ·exact (ko _ h).1
    exact (R'.heap id hb hq).flat hs (ou.2 hm) BZ
   ·rw [hN id hm] at hq
    rcases R.heap id hb hq with ⟨a1,a2⟩ | ⟨b,cur,t,a1,a2,a3⟩
    ·exact .inl ⟨(rN id hm).trans a1,a2⟩
    ·refine .inr ⟨b,cur,t,(rN id hm).trans a1,?_,a3.mono E⟩
     rw [iN b (R.own id b (by rw [hq];rfl) a1).2];exact a2
  ·by_cases hi:i∈us.map (·.1) <;> by_cases hj:j∈us.map (·.1)
   ·rw [rT i hi] at h3;rw [rT j hj] at h4
    exact R'.inj i j b (ou.2 hi) (ou.2 hj) h3 h4
   ·rw [rT i hi] at h3;rw [rN j hj] at h4;rw [hN j hj] at h2
    have h5:=qC i b hi h3;have h6:=R.own j b h2 h4;omega
   ·rw [rN i hi] at h3;rw [rT j hj] at h4;rw [hN i hi] at h1
    have h5:=qC j b hj h4;have h6:=R.own i b h1 h3;omega
   ·rw [rN i hi] at h3;rw [rN j hj] at h4;rw [hN i hi] at h1;rw [hN j hj] at h2
    exact R.inj i j b h1 h2 h3 h4
  ·by_cases hm:id∈us.map (·.1)
   ·rw [rT id hm] at h2
    obtain ⟨a1,a2⟩:=qC id b hm h2
    exact ⟨.inr (Nat.le_trans R.fr.size a1),a2⟩
   ·rw [hN id hm] at h1;rw [rN id hm] at h2
    obtain ⟨a1,a2⟩:=R.own id b h1 h2
    exact ⟨a1,by omega⟩
  ·rw [iN b (by have:=R.fr.size;omega)];exact R.fr.block b h1 h2
  ·by_cases hm:id∈us.map (·.1)
   ·rw [(qA id hm).2] at h2;cases h2
   ·rw [hN id hm] at h1
    have ev:=R.jS id hb hb0 h1 h2
    obtain ⟨hb',g1,g2⟩:∃ hb',bP hp us id=some hb'∧jC w w' (aa id) (gN id) hb hb':=by
     refine ⟨hb,by rw [hN id hm];exact h1,?_⟩
     rw [rN id hm]
     cases hb with
     | var cs=>rfl
     | row e az xs=>exact ⟨Nat.le_refl _,fun _=>⟨rfl,rfl,fun b hb cur t hc=>⟨cur,t,by rw [iN b (R.own id b (by rw [h1];rfl) hb).2];exact hc,rfl⟩⟩⟩
    rw [hN id hm,h1] at g1;cases g1
    exact ev.trans g2
end Go.aJ

namespace Go.aJ
open Go
def aF (τ:Nat→Option Nat) (h:Hp):List SV→List SV→Prop
 | [],[]=>True
 | x::xs,y::ys=>Rn τ h x y∧aF τ h xs ys
 | _,_=>False
theorem uN {τ:Nat→Option Nat} {h:Hp}:∀ {xs ys:List SV},aF τ h xs ys↔sq τ h xs ys
 | [],[]=>⟨fun _=>⟨rfl,fun i x y hx=>by simp at hx⟩,fun _=>trivial⟩
 | [],_::_=>⟨fun h=>h.elim,fun h=>by simp [sq] at h⟩
 | _::_,[]=>⟨fun h=>h.elim,fun h=>by simp [sq] at h⟩
 | x::xs,y::ys=>by
   unfold aF
   rw [uN (xs:=xs) (ys:=ys)]
   constructor
   ·rintro ⟨h1,h2,h3⟩
    refine ⟨by simp [h2],fun i a b ha hb=>?_⟩
    cases i with
    | zero=>simp at ha hb;subst ha;subst hb;exact h1
    | succ i=>exact h3 i a b (by simpa using ha) (by simpa using hb)
   ·rintro ⟨h2,h3⟩
    exact ⟨h3 0 x y rfl rfl,by simpa using h2,fun i a b ha hb=>h3 (i+1) a b (by simpa using ha) (by simpa using hb)⟩
section
variable {τ:Nat→Option Nat} {h:Hp}
theorem aG {r r':RV}:Rn τ h (.rv r) (.rv r')↔r=r':=⟨fun hr=>by cases hr with | fz _ _ hf=>cases hf;rfl,fun e=>by subst e;exact .fz _ _ (.rv _)⟩
theorem gR {x:SV}:Rn τ h x .dead↔True:=⟨fun _=>trivial,fun _=>.dead _⟩
theorem gz {i j o o':Nat}:Rn τ h (.ptr i o) (.ptr j o')↔τ i=some j∧o=o':=⟨fun hr=>by cases hr with | ptr _ _ _ hj=>exact ⟨hj,rfl⟩,fun ⟨e,e'⟩=>by subst e';exact .ptr _ _ _ e⟩
theorem ga {i j v v' l l':Nat}:Rn τ h (.row i v l) (.row j v' l')↔τ i=some j∧v=v'∧l=l':=⟨fun hr=>by cases hr with | row _ _ _ _ hj=>exact ⟨hj,rfl,rfl⟩,fun ⟨e,e',e2⟩=>by subst e';subst e2;exact .row _ _ _ _ e⟩
theorem aH {xs ys:List SV}:Rn τ h (.agg xs) (.agg ys)↔aF τ h xs ys:=by rw [uN];exact ⟨fun hr=>by cases hr with | agg _ _ hl hf=>exact ⟨hl,hf⟩,fun ⟨e,e'⟩=>.agg _ _ e e'⟩
theorem bl {xs ys:List SV}:Rn τ h (.aO xs) (.aO ys)↔aF τ h xs ys:=by rw [uN];exact ⟨fun hr=>by cases hr with | aO _ _ hl hf=>exact ⟨hl,hf⟩,fun ⟨e,e'⟩=>.aO _ _ e e'⟩
theorem TS {f f':FuncId} {xs ys:List SV}:Rn τ h (.fK f xs) (.fK f' ys)↔f=f'∧aF τ h xs ys:=by rw [uN];exact ⟨fun hr=>by cases hr with | fK _ _ _ hl hf=>exact ⟨rfl,hl,hf⟩,fun ⟨e,e',e2⟩=>by subst e;exact .fK _ _ _ e' e2⟩
theorem gS {t t':TypeId} {x y:SV}:Rn τ h (.bW t x) (.bW t' y)↔t=t'∧Rn τ h x y:=⟨fun hr=>by cases hr with | bW _ _ _ hf=>exact ⟨rfl,hf⟩,fun ⟨e,e'⟩=>by subst e;exact .bW _ _ _ e'⟩
end
def aT (τ:Nat→Option Nat) (h:Hp) (sv:SV):Option (Prop×List SV)→Prop
 | some (p,xs)=>p∧Rn τ h (bf xs) sv
 | none=>False
theorem Ly {P:Program} {f:FuncId} {N:Nat} {ac:AC} {rs:List RR} (H:aX P f N ac rs) (lJ:List RV) (sv:SV) (hN:lJ.length≤N)
 (hrun:∀ K:Ex→St→Prop,(∀ env h,aT (fun _=>none) (aB h) sv (aS (lk env) (aB h) rs)→K .normal ⟨env,h⟩∧K .ret ⟨env,h⟩)→G P 0 [.c ac] K (nZ 0 (lJ.map .rv)) []):aL P f (lJ.map .rv) [] [] sv:=by
 refine ym H [] [] (lJ.map .rv) (by simpa using hN) ⟨rfl,fun i x y hx hy=>?_⟩ rfl (by simp) (by simp) (fun K hK=>hrun K (fun env h hr=>?_))
 ·rw [hx] at hy;cases hy
  rw [List.getElem?_map] at hx
  cases hr:lJ[i]? with
  | none=>simp [hr] at hx
  | some r=>simp [hr] at hx;subst hx;exact .rv r
 ·unfold aT at hr
  split at hr
  ·rename_i p xs hres
   exact hK env h env h (fun _=>none) (gk _ _) ⟨by simp,by simp,by simp,by simp,by simp,p,xs,hres,hr.1,hr.2⟩
  ·exact hr.elim
theorem wrap_i64 {n:Int} (h1 : -9223372036854775808≤n) (h2:n<9223372036854775808):IntKind.i64.wrap n=n:=by
 unfold IntKind.wrap
 simp only [IntKind.signed,IntKind.bits]
 by_cases h:(9223372036854775808:Int)≤n % 18446744073709551616 <;> simp [h] <;> omega
end Go.aJ

namespace Go.aJ
open Go
def vD (P:Program) (rec:TypeId→Bool):Nat→List Field→Option Nat
 | off,[]=>some off
 | off,f::r=>if f.offset=off && rec f.type then vD P rec (off+P.cellsOf f.type) r else none
def oD (P:Program):Nat→TypeId→Bool
 | 0,_=>false
 | n+1,t=>match P.underlying t with
   | some .bool | some (.int _) | some .string=>P.cellsOf t == 1
   | some (.slice e)=>P.cellsOf t == 1 && oD P n e
   | some (.struct fs)=>vD P (oD P n) 0 fs.toList == some (P.cellsOf t)
   | some (.array m e)=>oD P n e && P.cellsOf t == m*P.cellsOf e
   | _=>false
def va (P:Program) (rec:TypeId→List RV→Prop):List Field→List RV→Prop
 | [],rs=>rs=[]
 | f::r,rs=>∃ a b,rs=a++b∧rec f.type a∧va P rec r b
def kN (P:Program):Nat→TypeId→List RV→Prop
 | 0,_,_=>False
 | n+1,t,rs=>match P.underlying t with
   | some .bool=>∃ b,rs=[.bool b]
   | some (.int k)=>∃ i,rs=[.int k i]∧(Lit.int k i).wf=true
   | some .string=>∃ s,rs=[.str s]∧s.size≤maxLen
   | some (.slice e)=>∃ xs,rs=[.sl (P.cellsOf e) xs]∧xs.length≤maxLen∧∀ x∈xs,kN P n e x
   | some (.struct fs)=>va P (kN P n) fs.toList rs
   | some (.array m e)=>∃ xs:List (List RV),rs=xs.flatten∧xs.length=m∧∀ x∈xs,kN P n e x
   | _=>False
def mC (w:World) (ok:Nat→Prop) (vs:List Value) (rs:List RV):Prop:=vs.length=rs.length∧∀ (j:Nat) (r:RV),rs[j]?=some r→r.one=true∧RO w ok r (vs.getD j undef)
theorem mC.append {w:World} {ok:Nat→Prop} {vs us:List Value} {rs qs:List RV} (h:mC w ok vs rs) (k:mC w ok us qs):mC w ok (vs++us) (rs++qs):=by
 refine ⟨by simp [h.1,k.1],fun j r hj=>?_⟩
 by_cases hlt:j<rs.length
 ·rw [List.getElem?_append_left hlt] at hj
  have:=h.2 j r hj
  rw [List.getD_eq_getElem?_getD,List.getElem?_append_left (by rw [h.1];exact hlt),← List.getD_eq_getElem?_getD]
  exact this
 ·rw [List.getElem?_append_right (by omega)] at hj
  have:=k.2 _ r hj
  rw [List.getD_eq_getElem?_getD,List.getElem?_append_right (by rw [h.1];omega),h.1,← List.getD_eq_getElem?_getD]
  exact this
theorem mC.one {w:World} {ok:Nat→Prop} {v:Value} {r:RV} (h:RO w ok r v) (h1:r.one=true):mC w ok [v] [r]:=
 ⟨rfl,fun j q hj=>by
  cases j with
  | zero=>simp at hj;subst hj;exact ⟨h1,h⟩
  | succ j=>simp at hj⟩
section
variable {P:Program} {H:Type} {enc:TypeId×Value→H} {w:World} {base:Nat} {spare:Nat→Bool} {held:Bool}
theorem Jz (ok:Nat→Prop) {n m:Nat} (IH:∀ t,oD P n t=true→∀ cs x,DataW.trod enc P w base spare held m t cs=some x→∃ rs,kN P n t rs∧mC w ok cs rs∧cs.length=P.cellsOf t) :
 ∀ (fs:List Field) (off tot:Nat) (cs:List Value),vD P (oD P n) off fs=some tot→cs.length=tot→(∀ f∈fs,∃ x,DataW.trod enc P w base spare held m f.type ((cs.drop f.offset).take (P.cellsOf f.type))=some x)→
 ∃ rs,va P (kN P n) fs rs∧mC w ok (cs.drop off) rs
 | [],off,tot,cs,h,hl,_=>by
   simp only [vD,Option.some.injEq] at h
   subst h
   refine ⟨[],rfl,?_⟩
   rw [List.drop_of_length_le (by omega)]
   exact ⟨rfl,fun j r hj=>by simp at hj⟩
 | f::fs,off,tot,cs,h,hl,hx=>by
   unfold vD at h
   split at h
   ·rename_i hf
    simp only [Bool.and_eq_true,decide_eq_true_eq] at hf
    obtain ⟨x,hx0⟩:=hx f (by simp)
    obtain ⟨a,BJ,yW,NN⟩:=IH f.type hf.2 _ _ hx0
    obtain ⟨b,hb1,hb2⟩:=Jz ok IH fs (off+P.cellsOf f.type) tot cs h hl (fun g hg=>hx g (by simp [hg]))
    refine ⟨a++b,⟨a,b,rfl,BJ,hb1⟩,?_⟩
    rw [hf.1] at yW
    have:cs.drop off=(cs.drop off).take (P.cellsOf f.type)++cs.drop (off+P.cellsOf f.type):=by
     rw [← List.drop_drop,List.take_append_drop]
    rw [this]
    exact yW.append hb2
   ·cases h
theorem Jy (ok:Nat→Prop) {n m:Nat} {e:TypeId} (IH:∀ cs x,DataW.trod enc P w base spare held m e cs=some x→∃ rs,kN P n e rs∧mC w ok cs rs∧cs.length=P.cellsOf e) :
 ∀ (k i:Nat) (cs:List Value),cs.length=(i+k)*P.cellsOf e→(∀ j,i≤j→j<i+k→∃ x,DataW.trod enc P w base spare held m e ((cs.drop (j*P.cellsOf e)).take (P.cellsOf e))=some x)→
 ∃ xs:List (List RV),xs.length=k∧(∀ x∈xs,kN P n e x)∧mC w ok (cs.drop (i*P.cellsOf e)) xs.flatten
 | 0,i,cs,hl,_=>by
   refine ⟨[],rfl,by simp,?_⟩
   rw [List.drop_of_length_le (by simp at hl;omega)]
   exact ⟨rfl,fun j r hj=>by simp at hj⟩
 | k+1,i,cs,hl,hx=>by
   obtain ⟨x,hx0⟩:=hx i (Nat.le_refl _) (by omega)
   obtain ⟨a,BJ,yW,NN⟩:=IH _ _ hx0
   obtain ⟨xs,h1,h2,h3⟩:=Jy ok IH k (i+1) cs (by rw [hl];congr 1;omega) (fun j h1 h2=>hx j (by omega) (by omega))
   refine ⟨a::xs,by simp [h1],fun x hx=>?_,?_⟩
   ·rcases List.mem_cons.1 hx with rfl | hx
    ·exact BJ
    ·exact h2 x hx
   ·have:cs.drop (i*P.cellsOf e)=(cs.drop (i*P.cellsOf e)).take (P.cellsOf e)++cs.drop ((i+1)*P.cellsOf e):=by
     rw [Nat.add_mul,Nat.one_mul,← List.drop_drop,List.take_append_drop]
    rw [this,List.flatten_cons]
    exact yW.append h3
theorem LK {a:Addr} {n:Nat} {cs:List Value} (h:w.cells? base a n=some cs):cs.length=n∧∀ j,j<n→w.cell? (a.add j)=some (cs.getD j undef):=by
 unfold World.cells? at h
 split at h
 ·obtain ⟨h1,h2⟩:=mapM_some_get _ _ _ h
  refine ⟨by simpa using h1,fun j hj=>?_⟩
  have hr:(List.range n)[j]?=some j:=List.getElem?_range hj
  obtain ⟨h3,h4⟩:=h2 j j hr
  have hlt:j<cs.length:=by rw [h1];simpa using hj
  rw [List.getD_eq_getElem?_getD,List.getElem?_eq_getElem hlt,Option.getD_some,← h3,List.getElem?_eq_getElem hlt]
 ·cases h
theorem typed (ok:Nat→Prop) (hok:∀ b,b<w.heap.size→ok b):∀ (n:Nat) (t:TypeId),oD P n t=true→∀ (fuel:Nat) (cs:List Value) (x:DataW H×List MemPlace),DataW.trod enc P w base spare held fuel t cs=some x→∃ rs,kN P n t rs∧mC w ok cs rs∧cs.length=P.cellsOf t
 | 0,t,h,_,_,_,_=>by cases h
 | n+1,t,h,fuel,cs,x,hx=>by
   unfold oD at h
   unfold kN
   split at h
   ·rename_i hu
    obtain ⟨b,rfl,_⟩:=DataW.trod_bool hu hx
    try simp only [hu]
    exact ⟨[.bool b],⟨b,rfl⟩,.one (.bool b) rfl,by simp at h;simp [h]⟩
   ·rename_i k hu
    obtain ⟨i,rfl,_,hw⟩:=DataW.trod_int hu hx
    try simp only [hu]
    exact ⟨[.int k i],⟨i,rfl,hw⟩,.one (.int k i) rfl,by simp at h;simp [h]⟩
   ·rename_i hu
    obtain ⟨s,rfl,_,hs⟩:=DataW.trod_string hu hx
    try simp only [hu]
    exact ⟨[.str s],⟨s,rfl,hs⟩,.one (.str s) rfl,by simp at h;simp [h]⟩
   ·rename_i e hu
    simp only [Bool.and_eq_true,beq_iff_eq] at h
    try simp only [hu]
    rcases DataW.trod_slice hu hx with ⟨rfl,_⟩ | ⟨a,len,cap,elems,rest,m,rfl,rfl,_,hb,hl,hm,hel,hcell,_,_⟩
    ·refine ⟨[.sl (P.cellsOf e) []],⟨[],rfl,by simp,by simp⟩,.one ?_ rfl,by simpa using h.1.symm⟩
     exact .sl _ [] none 0 (fun _ _=>undef) (fun _=>⟨rfl,rfl⟩) (by simp) (by simp [maxLen]) (by simp) (fun i x j y hx=>by simp at hx) (fun i x j y hx=>by simp at hx) (fun i x j y hx=>by simp at hx)
    ·have key:∀ i,i<len→∃ (ci:List Value) (r:List RV),kN P n e r∧mC w ok ci r∧ci.length=P.cellsOf e∧∀ j,j<P.cellsOf e→w.cell? ((a.add (i*P.cellsOf e)).add j)=some (ci.getD j undef):=fun i hi=>by
      have h1:=hcell i hi
      rw [List.getElem?_eq_getElem (by omega)] at h1
      simp only [Option.bind_eq_some_iff] at h1
      obtain ⟨ci,h2,h3⟩:=h1
      obtain ⟨r,g1,g2,g3⟩:=typed ok hok n e h.2 m ci _ h3
      exact ⟨ci,r,g1,g2,g3,(LK h2).2⟩
     classical
     let cf:Nat→List Value:=fun i=>if h:i<len then (key i h).choose else []
     let rf:Nat→List RV:=fun i=>if h:i<len then (key i h).choose_spec.choose else []
     have hf:∀ i,i<len→kN P n e (rf i)∧mC w ok (cf i) (rf i)∧(cf i).length=P.cellsOf e∧∀ j,j<P.cellsOf e→w.cell? ((a.add (i*P.cellsOf e)).add j)=some ((cf i).getD j undef):=fun i hi=>by
      have h1:cf i=(key i hi).choose:=dif_pos hi
      have h2:rf i=(key i hi).choose_spec.choose:=dif_pos hi
      rw [h1,h2]
      exact (key i hi).choose_spec.choose_spec
     have hlen:((List.range len).map rf).length=len:=by simp
     have aB:∀ (i:Nat) (x:List RV),((List.range len).map rf)[i]?=some x→i<len∧x=rf i:=fun i x hi=>by
      rw [List.getElem?_map] at hi
      cases hr:(List.range len)[i]? with
      | none=>simp [hr] at hi
      | some j=>
        have hlt:=(List.getElem?_eq_some_iff.1 hr).1
        simp at hlt
        rw [List.getElem?_range hlt] at hr
        cases hr
        rw [List.getElem?_range hlt] at hi
        simp at hi
        exact ⟨hlt,hi.symm⟩
     refine ⟨[.sl (P.cellsOf e) ((List.range len).map rf)],⟨_,rfl,by rw [hlen];omega,fun x hx=>?_⟩,.one ?_ rfl,by simpa using h.1.symm⟩
     ·obtain ⟨i,hi,rfl⟩:=List.mem_map.1 hx
      exact (hf i (by simpa using hi)).1
     ·have hcs:∀ (i:Nat) (x:List RV) (j:Nat) (y:RV),((List.range len).map rf)[i]?=some x→x[j]?=some y→i<len∧(rf i)[j]?=some y∧w.cell? (a.add (i*P.cellsOf e+j))=some ((cf i).getD j undef):=fun i x j y hi hj=>by
       obtain ⟨h1,rfl⟩:=aB i x hi
       obtain ⟨_,g2,g3,g4⟩:=hf i h1
       have hlt:=(List.getElem?_eq_some_iff.1 hj).1
       have:=g4 j (by rw [← g3,g2.1];exact hlt)
       rw [xR] at this
       exact ⟨h1,hj,this⟩
      have:=RO.sl (w:=w) (ok:=ok) (P.cellsOf e) ((List.range len).map rf) (some a) cap (fun i j=>(cf i).getD j undef) (fun h=>by cases h) (by rw [hlen];exact hl) hm (fun x hx=>by
       obtain ⟨i,hi,rfl⟩:=List.mem_map.1 hx
       obtain ⟨_,g2,g3,_⟩:=hf i (by simpa using hi)
       rw [← g2.1,g3]) (fun i x j y hi hj=>by
       obtain ⟨_,_,h3⟩:=hcs i x j y hi hj
       exact ⟨a,rfl,hok _ (by have:=World.block_lt_of_cell? w _ h3;rwa [xS] at this),h3⟩) (fun i x j y hi hj=>by
       obtain ⟨h1,h2,_⟩:=hcs i x j y hi hj
       exact ((hf i h1).2.1.2 j y h2).1) (fun i x j y hi hj=>by
       obtain ⟨h1,h2,_⟩:=hcs i x j y hi hj
       exact ((hf i h1).2.1.2 j y h2).2)
      rw [hlen] at this
      exact this
   ·rename_i fs hu
    simp only [beq_iff_eq] at h
    try simp only [hu]
    obtain ⟨xs,m,rfl,_,hl,Cp,hf⟩:=DataW.trod_struct hu hx
    obtain ⟨rs,g1,g2⟩:=Jz (enc:=enc) (m:=m) ok (fun t ht cs x hx=>typed ok hok n t ht m cs x hx) fs.toList 0 (P.cellsOf t) cs h hl (fun f Od=>by
     obtain ⟨i,hi,he⟩:=List.mem_iff_getElem.1 Od
     have hi':i<fs.size:=by simpa using hi
     have pT:fs[i]?=some f:=by rw [Array.getElem?_eq_getElem hi'];simp at he;rw [he]
     have:=hf i f pT
     rw [List.getElem?_eq_getElem (by omega)] at this
     exact ⟨_,this⟩)
    exact ⟨rs,g1,by simpa using g2,hl⟩
   ·rename_i k e hu
    simp only [Bool.and_eq_true,beq_iff_eq] at h
    try simp only [hu]
    obtain ⟨xs,m,rfl,_,hl,Cp,hf⟩:=DataW.trod_array hu hx
    obtain ⟨ys,g1,g2,g3⟩:=Jy (enc:=enc) (m:=m) ok (fun cs x hx=>typed ok hok n e h.1 m cs x hx) k 0 cs (by rw [hl,h.2];congr 1;omega) (fun j _ hj=>by
     have:=hf j (by omega)
     rw [List.getElem?_eq_getElem (by omega)] at this
     exact ⟨_,this⟩)
    exact ⟨ys.flatten,⟨ys,rfl,g1,g2⟩,by simpa using g3,hl⟩
   ·cases h
end
def nJ (P:Program) (t:TypeId) (rs:List RV):SV:=match fD P t with
 | some true=>.agg (rs.map .rv)
 | _=>.rv (rs.headD .lV)
theorem Tp {P:Program} {H:Type} {enc:TypeId×Value→H} {w:World} {r:Reach} {b0 n:Nat} {t:TypeId} {v:Value} {d:DataW H} {ps:List MemPlace} (hf:oD P n t=true) (hval:Value.okWide P w r b0 t v) (hd:DataW.Trod enc P w 0 (fun _=>true) true t v d ps) (C:Ctx) (aa:Nat→Option Nat) :
 ∃ rs,kN P n t rs∧∀ (ok:Nat→Prop) (aa:Nat→Option Nat) (hp:Hp),(∀ b,b<w.heap.size→ok b)→Rp w ok aa hp (nJ P t rs) v:=by
 obtain ⟨fuel,hx⟩:=hd
 obtain ⟨rs,h1,h2,h3⟩:=typed (enc:=enc) (fun b=>b<w.heap.size) (fun b hb=>hb) n t hf fuel _ _ hx
 refine ⟨rs,h1,fun ok aa hp hok=>?_⟩
 have qw:mC w ok v.cells.toList rs:=⟨h2.1,fun j q hj=>⟨(h2.2 j q hj).1,(h2.2 j q hj).2.mono fun b hb _=>⟨hok b hb,rfl⟩⟩⟩
 unfold nJ
 cases hu:P.underlying t with
 | none=>cases n <;> simp [oD,hu] at hf
 | some kd=>
   have scalar:(fD P t=some false)→v.cells = #[v]→Rp w ok aa hp (.rv (rs.headD .lV)) v:=fun _ hc=>by
    have hl:=qw.1
    rw [hc] at hl qw
    obtain ⟨q,rfl⟩:=List.length_eq_one_iff.1 hl.symm
    exact .rv _ _ (qw.2 0 q rfl).2
   have KN:(∃ cs,v = .agg cs)→Rp w ok aa hp (.agg (rs.map .rv)) v:=fun ⟨cs,hv⟩=>by
    subst hv
    have hl:=qw.1
    have:Rp w ok aa hp (.agg (rs.map .rv)) (.agg cs.toList.toArray):=by
     refine .agg _ _ (by simpa [Value.cells] using hl) (fun j u hj=>?_) (fun j y hj=>?_)
     ·have hlt:=(List.getElem?_eq_some_iff.1 hj).1
      have hr:=List.getElem?_eq_getElem (l:=rs) (i:=j) (by simp [Value.cells] at hl;simp at hlt;omega)
      have:=qw.2 j _ hr
      have hu:(Value.cells (.agg cs)).toList.getD j undef=u:=by rw [List.getD_eq_getElem?_getD];show (cs.toList[j]?).getD undef=u;rw [hj];rfl
      rw [hu] at this
      exact this.2.xd this.1
     ·rw [List.getElem?_map] at hj
      cases hr:rs[j]? with
      | none=>simp [hr] at hj
      | some q=>simp [hr] at hj;subst hj;exact .rv _ _ (qw.2 j q hr).2
    simpa using this
   have NW:(∀ cs,v≠.agg cs)→v.cells = #[v]:=fun h=>by cases v <;> first | rfl | exact absurd rfl (h _)
   cases n with
   | zero=>cases hf
   | succ n=>
     unfold oD at hf
     unfold Value.okWide at hval
     cases kd <;> simp only [hu] at hf hval <;> first
      | (cases hf;done)
      | (have ha:fD P t=some true:=by simp [fD,hu]
         simp only [ha]
         obtain ⟨cs,hv,_⟩:=hval
         exact KN ⟨cs,hv⟩)
      | (have ha:fD P t=some false:=by simp [fD,hu]
         simp only [ha]
         refine scalar ha (NW (fun cs hv=>?_))
         subst hv
         simp [Cell.okWide,hu,Cell.ok] at hval)
theorem Sm {P:Program} {f:FuncId} {ss:List SV} (h:aL P f ss [] [] (.rv (.bool true))) {w:World} {vs:List Value} (hl:vs.length=ss.length)
 (ha:∀ (j:Nat) (s:SV),ss[j]?=some s→∀ (ok:Nat→Prop) (aa:Nat→Option Nat) (hp:Hp),(∀ b,b<w.heap.size→ok b)→Rp w ok aa hp s (vs.getD j undef)) :
 Calls P f vs.toArray w fun e w'=>e = .returned (.bool true)∧RowKit.Below w.heap.size w w':=by
 let C:Ctx:=⟨w,fun _=>True,fun _=>False,0,fun _=>none,fun _=>none⟩
 have R:cn C (fun _=>none) w (fun _=>none):=⟨fun id hb h=>(by cases h),fun i j b h=>(by simp at h),fun i b h=>(by simp at h),⟨rfl,rfl,rfl,Nat.le_refl _,fun b _ _=>rfl⟩,fun id hb hb0 h=>(by cases h)⟩
 refine (h.2 C (fun _=>none) w (fun _=>none) vs (fun q hq=>by simp at hq) (fun q hq=>by simp at hq) R hl (fun j s hj=>ha j s hj _ _ _ (fun b hb=>⟨.inl trivial,fun id hid=>by simp at hid⟩))).mono ?_
 rintro e w' ⟨v,aK,rfl,S,hR⟩
 refine ⟨by rw [tG hR],S.mem.fr.os,S.mem.fr.tape,S.mem.fr.output,S.mem.fr.size,fun k hk=>S.mem.fr.block k hk (fun h=>h)⟩
end Go.aJ

namespace Go.aJ
open Go
def aM (xs:List (List RV)):List (List SV):=xs.map (List.map SV.rv)
section
variable {xs ys:List (List RV)}
theorem Dq:xs.map (List.map SV.rv)=aM xs:=rfl
theorem au:(aM xs).length=xs.length:=by simp [aM]
theorem Ui {i:Nat}:((aM xs)[i]?).getD []=((xs[i]?).getD []).map SV.rv:=by
 unfold aM
 rw [List.getElem?_map]
 cases xs[i]? <;> rfl
theorem Uj {n:Nat}:(aM xs).take n=aM (xs.take n):=by simp [aM]
theorem Iz:aM xs++aM ys=aM (xs++ys):=by simp [aM]
theorem map_inj {α β:Type} {f:α→β} (hf:∀ x y,f x=f y→x=y):∀ {a b:List α},a.map f=b.map f→a=b
 | [],[],_=>rfl
 | [],_::_,h=>by simp at h
 | _::_,[],h=>by simp at h
 | x::a,y::b,h=>by
   simp only [List.map_cons,List.cons.injEq] at h
   rw [hf x y h.1,map_inj hf h.2]
theorem oo:aM xs=aM ys↔xs=ys:=by
 constructor
 ·intro h
  exact map_inj (fun a b h=>map_inj (fun x y h=>by cases h;rfl) h) h
 ·rintro rfl;rfl
end
def AF (τ:Nat→Option Nat) (h:Hp) (xs ys:List (List SV)):Prop:=xs.length=ys.length∧∀ (i:Nat) (x y:List SV),xs[i]?=some x→ys[i]?=some y→sq τ h x y
theorem gx {τ:Nat→Option Nat} {h:Hp} {xs ys:List (List RV)}:AF τ h (aM xs) (aM ys)↔xs=ys:=by
 constructor
 ·rintro ⟨hl,hr⟩
  refine List.ext_getElem? (fun i=>?_)
  rw [au,au] at hl
  by_cases hi:i<xs.length
  ·have h1:=List.getElem?_eq_getElem hi
   have h2:=List.getElem?_eq_getElem (l:=ys) (i:=i) (by omega)
   have:=hr i (xs[i].map SV.rv) ((ys[i]'(by omega)).map SV.rv) (by simp [aM,h1]) (by simp [aM,h2])
   rw [h1,h2]
   obtain ⟨k1,k2⟩:=this
   simp at k1
   congr 1
   refine List.ext_getElem? (fun j=>?_)
   by_cases hj:j<(xs[i]).length
   ·have g1:=List.getElem?_eq_getElem hj
    have g2:=List.getElem?_eq_getElem (l:=ys[i]'(by omega)) (i:=j) (by omega)
    have:=k2 j _ _ (by rw [List.getElem?_map,g1];rfl) (by rw [List.getElem?_map,g2];rfl)
    rw [g1,g2,aG.1 this]
   ·rw [List.getElem?_eq_none (by omega),List.getElem?_eq_none (by omega)]
  ·rw [List.getElem?_eq_none (by omega),List.getElem?_eq_none (by omega)]
 ·rintro rfl
  refine ⟨rfl,fun i x y hx hy=>?_⟩
  rw [hx] at hy;cases hy
  refine ⟨rfl,fun j a b ha hb=>?_⟩
  rw [ha] at hb;cases hb
  unfold aM at hx
  rw [List.getElem?_map] at hx
  cases hq:xs[i]? with
  | none=>simp [hq] at hx
  | some q=>
    simp [hq] at hx
    subst hx
    rw [List.getElem?_map] at ha
    cases hr:q[j]? with
    | none=>simp [hr] at ha
    | some r=>simp [hr] at ha;subst ha;exact aG.2 rfl
def fJ (τ:Nat→Option Nat) (h:Hp):Option HB→Option HB→Prop
 | some (.var xs),some (.var ys)=>aF τ h xs ys
 | some (.row e v xs),some (.row e' v' ys)=>e=e'∧v=v'∧AF τ h xs ys
 | _,_=>False
theorem fJ.get {τ:Nat→Option Nat} {h:Hp} {x y:Option HB} (hr:fJ τ h x y):∃ a b,x=some a∧y=some b∧pJ τ h a b:=by
 unfold fJ at hr
 split at hr
 ·exact ⟨_,_,rfl,rfl,.var _ _ (uN.1 hr)⟩
 ·obtain ⟨rfl,rfl,h1,h2⟩:=hr
  exact ⟨_,_,rfl,rfl,.row _ _ _ _ h1 h2⟩
 ·exact hr.elim
def fU:List (Nat×HB)→Nat→Option HB
 | [],_=>none
 | (i,hb)::r,id=>if id=i then some hb else fU r id
def fN:Option HB→List (Nat×HB)→Nat→Option HB
 | b,[],_=>b
 | b,(i,hb)::r,id=>fN (if id=i then some hb else b) r id
theorem JA {id:Nat}:∀ {us:List (Nat×HB)} {hp:Hp},bP hp us id=fN (hp id) us id
 | [],hp=>rfl
 | (i,hb)::r,hp=>by
   rw [bP,JA,fN]
   unfold up
   rfl
theorem Fb {id:Nat} {hb:HB}:∀ {us:List (Nat×HB)} {a:Option HB},fN none us id=some hb→fN a us id=some hb
 | [],a,h=>by cases h
 | (i,hb0)::r,a,h=>by
   unfold fN at h ⊢
   by_cases hi:id=i
   ·rw [if_pos hi] at h ⊢;exact h
   ·rw [if_neg hi] at h ⊢;exact Fb h
theorem Hf {id:Nat} {hb:HB}:∀ {pre:List (Nat×HB)},fU pre id=some hb→(id,hb)∈pre
 | [],h=>by cases h
 | (i,hb0)::r,h=>by
   unfold fU at h
   split at h
   ·rename_i hi;cases h;subst hi;simp
   ·exact List.mem_cons_of_mem _ (Hf h)
theorem Mr {pre us:List (Nat×HB)} {id:Nat} {hb:HB} (h:fN (fU pre id) us id=some hb) (hp:Hp) (hpre:aR hp pre):bP hp us id=some hb:=by
 rw [JA]
 cases hl:fU pre id with
 | none=>rw [hl] at h;exact Fb h
 | some b=>
   rw [hl] at h
   rw [hpre (id,b) (Hf hl)];exact h
def gn (τ:Nat→Option Nat) (h:Hp) (pre us:List (Nat×HB)):Nat→List (Option Nat)→Prop
 | _,[]=>True
 | j,none::r=>gn τ h pre us (j+1) r
 | j,some id::r=>fJ τ h (h j) (fN (fU pre id) us id)∧gn τ h pre us (j+1) r
theorem GN {τ:Nat→Option Nat} {h:Hp} {pre us:List (Nat×HB)}:∀ {l:List (Option Nat)} {j:Nat},gn τ h pre us j l→∀ (i id:Nat),l[i]?=some (some id)→fJ τ h (h (j+i)) (fN (fU pre id) us id)
 | [],j,_,i,id,hi=>by simp at hi
 | x::r,j,hk,i,id,hi=>by
   cases i with
   | zero=>
     simp at hi
     subst hi
     exact hk.1
   | succ i=>
     have hk':gn τ h pre us (j+1) r:=by cases x with | none=>exact hk | some q=>exact hk.2
     have:=GN hk' i id (by simpa using hi)
     rwa [show j+1+i=j+(i+1) by omega] at this
def gd (tK:List (Option Nat)) (j:Nat):Option Nat:=(tK[j]?).getD none
def bQ:List (Option Nat)→Prop
 | []=>True
 | none::r=>bQ r
 | some x::r=>some x∉r∧bQ r
theorem zN:∀ {l:List (Option Nat)},bQ l→∀ (i j id:Nat),l[i]?=some (some id)→l[j]?=some (some id)→i=j
 | [],_,i,j,id,h,_=>by simp at h
 | x::r,hn,i,j,id,h1,h2=>by
   have hn':bQ r:=by cases x with | none=>exact hn | some q=>exact hn.2
   cases i with
   | zero=>
     simp at h1
     subst h1
     cases j with
     | zero=>rfl
     | succ j=>exact absurd (List.mem_of_getElem? (by simpa using h2)) hn.1
   | succ i=>
     cases j with
     | zero=>
       simp at h2
       subst h2
       exact absurd (List.mem_of_getElem? (by simpa using h1)) hn.1
     | succ j=>rw [zN hn' i j id (by simpa using h1) (by simpa using h2)]
def newL (pre us:List (Nat×HB)):List (Option Nat)→Prop
 | []=>True
 | none::r=>newL pre us r
 | some id::r=>id∈us.map (·.1)∧id∉pre.map (·.1)∧newL pre us r
theorem HE {pre us:List (Nat×HB)}:∀ {l:List (Option Nat)},newL pre us l→∀ (i id:Nat),l[i]?=some (some id)→id∈us.map (·.1)∧id∉pre.map (·.1)
 | [],_,i,id,h=>by simp at h
 | x::r,hn,i,id,h=>by
   have hn':newL pre us r:=by cases x with | none=>exact hn | some q=>exact hn.2.2
   cases i with
   | zero=>simp at h;subst h;exact ⟨hn.1,hn.2.1⟩
   | succ i=>exact HE hn' i id (by simpa using h)
def gB (tK:List (Option Nat)):List (Nat×HB)→Prop
 | []=>True
 | (i,_)::r=>some i∈tK∧gB tK r
theorem DU {tK:List (Option Nat)}:∀ {us:List (Nat×HB)},gB tK us→∀ q∈us,some q.1∈tK
 | [],_,q,h=>by simp at h
 | (i,hb)::r,hu,q,h=>by
   rcases List.mem_cons.1 h with rfl | h
   ·exact hu.1
   ·exact DU hu.2 q h
def gw (σ:List Nat) (pre us:List (Nat×HB)) (rs:List RR) (sv:SV) (env:List (Nat×SV)) (h:List (Option HB)) (kU:List (Option Nat)):Prop:=
 bQ (σ.map some++kU)∧newL pre us kU∧gB (σ.map some++kU) us∧gn (gd (σ.map some++kU)) (aB h) pre us 0 (σ.map some++kU)∧aT (gd (σ.map some++kU)) (aB h) sv (aS (lk env) (aB h) rs)
theorem Fc {σ:List Nat} {pre us:List (Nat×HB)} {rs:List RR} {sv:SV} {env:List (Nat×SV)} {h:List (Option HB)} {kU:List (Option Nat)} (hr:gw σ pre us rs sv env h kU):Fin σ pre us rs sv env h (gd (σ.map some++kU)):=by
 obtain ⟨h1,h2,h3,h4,h5⟩:=hr
 have zl:∀ j id,gd (σ.map some++kU) j=some id→(σ.map some++kU)[j]?=some (some id):=fun j id hj=>by
  unfold gd at hj
  cases hq:(σ.map some++kU)[j]? with
  | none=>rw [hq] at hj;cases hj
  | some x=>rw [hq] at hj;simp at hj;rw [hj]
 refine ⟨fun i j id hi hj=>zN h1 i j id (zl i id hi) (zl j id hj),fun j id hj=>?_,fun j id hj hl=>?_,fun j id hj=>?_,fun q hq=>?_,?_⟩
 ·unfold gd
  rw [List.getElem?_append_left (by have:=(List.getElem?_eq_some_iff.1 hj).1;simpa using this),List.getElem?_map,hj];rfl
 ·have:=zl j id hj
  rw [List.getElem?_append_right (by simpa using hl)] at this
  obtain ⟨g1,g2⟩:=HE h2 _ id this
  exact ⟨g1,fun q hq he=>g2 (List.mem_map.2 ⟨q,hq,he⟩)⟩
 ·have:=GN h4 j id (zl j id hj)
  rw [Nat.zero_add] at this
  obtain ⟨a,b,g1,g2,g3⟩:=this.get
  exact ⟨a,b,g1,g3,fun hp hpre=>Mr g2 hp hpre⟩
 ·obtain ⟨j,hj,he⟩:=List.mem_iff_getElem.1 (DU h3 q hq)
  refine ⟨j,?_⟩
  unfold gd
  rw [List.getElem?_eq_getElem hj,he];rfl
 ·unfold aT at h5
  split at h5
  ·rename_i p xs hres;exact ⟨p,xs,hres,h5.1,h5.2⟩
  ·exact h5.elim
def aP (σ:Nat→Option Nat):List SV→List SV→Prop
 | [],[]=>True
 | x::xs,y::ys=>Bk σ x y∧aP σ xs ys
 | _,_=>False
theorem lZ {σ:Nat→Option Nat}:∀ {xs ys:List SV},aP σ xs ys↔sj σ xs ys
 | [],[]=>⟨fun _=>⟨rfl,fun i x y hx=>by simp at hx⟩,fun _=>trivial⟩
 | [],_::_=>⟨fun h=>h.elim,fun h=>by simp [sj] at h⟩
 | _::_,[]=>⟨fun h=>h.elim,fun h=>by simp [sj] at h⟩
 | x::xs,y::ys=>by
   unfold aP
   rw [lZ (xs:=xs) (ys:=ys)]
   constructor
   ·rintro ⟨h1,h2,h3⟩
    refine ⟨by simp [h2],fun i a b ha hb=>?_⟩
    cases i with
    | zero=>simp at ha hb;subst ha;subst hb;exact h1
    | succ i=>exact h3 i a b (by simpa using ha) (by simpa using hb)
   ·rintro ⟨h2,h3⟩
    exact ⟨h3 0 x y rfl rfl,by simpa using h2,fun i a b ha hb=>h3 (i+1) a b (by simpa using ha) (by simpa using hb)⟩
section
variable {σ:Nat→Option Nat}
theorem aY {r r':RV}:Bk σ (.rv r) (.rv r')↔r=r':=⟨fun hr=>by cases hr;rfl,fun e=>by subst e;exact .rv _⟩
theorem oy {x:SV}:Bk σ .dead x↔True:=⟨fun _=>trivial,fun _=>.dead _⟩
theorem mb {i j o o':Nat}:Bk σ (.ptr i o) (.ptr j o')↔σ i=some j∧o=o':=⟨fun hr=>by cases hr with | ptr _ _ _ hj=>exact ⟨hj,rfl⟩,fun ⟨e,e'⟩=>by subst e';exact .ptr _ _ _ e⟩
theorem lN {i j v v' l l':Nat}:Bk σ (.row i v l) (.row j v' l')↔σ i=some j∧v=v'∧l=l':=⟨fun hr=>by cases hr with | row _ _ _ _ hj=>exact ⟨hj,rfl,rfl⟩,fun ⟨e,e',e2⟩=>by subst e';subst e2;exact .row _ _ _ _ e⟩
theorem bg {xs ys:List SV}:Bk σ (.agg xs) (.agg ys)↔aP σ xs ys:=by rw [lZ];exact ⟨fun hr=>by cases hr with | agg _ _ hl hf=>exact ⟨hl,hf⟩,fun ⟨e,e'⟩=>.agg _ _ e e'⟩
theorem oA {xs ys:List SV}:Bk σ (.aO xs) (.aO ys)↔aP σ xs ys:=by rw [lZ];exact ⟨fun hr=>by cases hr with | aO _ _ hl hf=>exact ⟨hl,hf⟩,fun ⟨e,e'⟩=>.aO _ _ e e'⟩
theorem bq {f f':FuncId} {xs ys:List SV}:Bk σ (.fn f xs) (.fn f' ys)↔f=f'∧aP σ xs ys:=by rw [lZ];exact ⟨fun hr=>by cases hr with | fn _ _ _ hl hf=>exact ⟨rfl,hl,hf⟩,fun ⟨e,e',e2⟩=>by subst e;exact .fn _ _ _ e' e2⟩
theorem Ef {f f':FuncId} {xs ys:List SV}:Bk σ (.fK f xs) (.fK f' ys)↔f=f'∧aP σ xs ys:=by rw [lZ];exact ⟨fun hr=>by cases hr with | fK _ _ _ hl hf=>exact ⟨rfl,hl,hf⟩,fun ⟨e,e',e2⟩=>by subst e;exact .fK _ _ _ e' e2⟩
theorem oz {t t':TypeId} {x y:SV}:Bk σ (.bW t x) (.bW t' y)↔t=t'∧Bk σ x y:=⟨fun hr=>by cases hr with | bW _ _ _ hf=>exact ⟨rfl,hf⟩,fun ⟨e,e'⟩=>by subst e;exact .bW _ _ _ e'⟩
theorem bu {rs:List RV}:aP σ (rs.map .rv) (rs.map .rv)↔True:=⟨fun _=>trivial,fun _=>lZ.2 ⟨rfl,fun i x y hx hy=>by
 rw [hx] at hy;cases hy
 rw [List.getElem?_map] at hx
 cases hr:rs[i]? with
 | none=>simp [hr] at hx
 | some r=>simp [hr] at hx;subst hx;exact .rv r⟩⟩
end
theorem fL {τ:Nat→Option Nat} {h:Hp} {rs qs:List RV}:aF τ h (rs.map .rv) (qs.map .rv)↔rs=qs:=by
 induction rs generalizing qs with
 | nil=>cases qs <;> simp [aF]
 | cons r rs ih=>cases qs with
   | nil=>simp [aF]
   | cons q qs=>simp [aF,aG,ih]
def iB (σ:Nat→Option Nat):List HB→List HB→Prop
 | [],[]=>True
 | .var xs::r,.var ys::q=>aP σ xs ys∧iB σ r q
 | .row e v xs::r,.row e' v' ys::q=>e=e'∧v=v'∧(xs=ys∧∃ zs,xs=aM zs)∧iB σ r q
 | _,_=>False
theorem iB.get {σ:Nat→Option Nat}:∀ {a b:List HB},iB σ a b→a.length=b.length∧∀ (j:Nat) (x y:HB),a[j]?=some x→b[j]?=some y→mY σ x y
 | [],[],_=>⟨rfl,fun j x y hx=>by simp at hx⟩
 | .var xs::r,.var ys::q,h=>by
   obtain ⟨g1,g2⟩:=iB.get h.2
   refine ⟨by simp [g1],fun j x y hx hy=>?_⟩
   cases j with
   | zero=>simp at hx hy;subst hx;subst hy;exact .var _ _ (lZ.1 h.1)
   | succ j=>exact g2 j x y (by simpa using hx) (by simpa using hy)
 | .row e v xs::r,.row e' v' ys::q,h=>by
   obtain ⟨rfl,rfl,⟨rfl,zs,rfl⟩,h4⟩:=h
   obtain ⟨g1,g2⟩:=iB.get h4
   refine ⟨by simp [g1],fun j x y hx hy=>?_⟩
   cases j with
   | zero=>
     simp at hx hy;subst hx;subst hy
     refine .row _ _ _ _ rfl (fun i x y hx hy=>?_)
     rw [hx] at hy;cases hy
     unfold aM at hx
     rw [List.getElem?_map] at hx
     cases hq:zs[i]? with
     | none=>simp [hq] at hx
     | some z=>simp [hq] at hx;subst hx;exact lZ.1 (bu.2 trivial)
   | succ j=>exact g2 j x y (by simpa using hx) (by simpa using hy)
 | [],_::_,h=>h.elim
 | .var _::_,[],h=>h.elim
 | .row .. :: _,[],h=>h.elim
 | .var _::_,.row .. :: _,h=>h.elim
 | .row .. :: _,.var _::_,h=>h.elim
theorem mF {P:Program} {f:FuncId} {N:Nat} {ac:AC} {rs:List RR} (H:aX P f N ac rs) (σ:List Nat) (mJ mK:List HB) (jc args:List SV) (us:List (Nat×HB)) (sv:SV) (hN:args.length≤N) (hA:aP (fun j=>σ[j]?) jc args) (hl:mJ.length=σ.length) (zj:bQ (σ.map some)) (hB:iB (fun j=>σ[j]?) mJ mK)
 (hrun:∀ K:Ex→St→Prop,(∀ env h env' h' kU,gi σ.length ⟨env,h⟩ ⟨env',h'⟩→gw σ (σ.zip mK) us rs sv env' h' kU→K .normal ⟨env,h⟩∧K .ret ⟨env,h⟩)→G P σ.length [.c ac] K (nZ 0 jc) (mJ.map some)):aL P f args (σ.zip mK) us sv:=by
 obtain ⟨g1,g2⟩:=hB.get
 refine ym H σ (mJ.map some) jc hN (lZ.1 hA) (by simpa using hl) (fun i j id h1 h2=>zN zj i j id (by simp [h1]) (by simp [h2])) (fun j id hj=>?_) (fun K hK=>hrun K (fun env h env' h' kU hE hr=>hK env h env' h' _ hE (Fc hr)))
 have hlt:=(List.getElem?_eq_some_iff.1 hj).1
 have h1:=List.getElem?_eq_getElem (l:=mJ) (i:=j) (by omega)
 have h2:=List.getElem?_eq_getElem (l:=mK) (i:=j) (by omega)
 refine ⟨_,_,by rw [List.getElem?_map,h1];rfl,?_,g2 j _ _ h1 h2⟩
 have hz:(σ.zip mK)[j]?=some (id,mK[j]'(by omega)):=by
  rw [List.getElem?_zip_eq_some];exact ⟨hj,h2⟩
 exact List.mem_of_getElem? hz
theorem gL {x:Option HB} {r:List (Option HB)}:aB (x::r) 0=x:=rfl
theorem gK {x:Option HB} {r:List (Option HB)} {n:Nat}:aB (x::r) (n+1)=aB r n:=rfl
theorem Nq {P:Program} {n0:Nat} {k:List It} {K:Ex→St→Prop} {env:List (Nat×SV)} {h:List (Option HB)} {id:Nat} {a:List Nat} {b:List TE} {c:List bH}:GX P n0 id (.d a b c::k) K env h=GX P n0 id k K env h:=rfl
theorem VW {α:Type} {o:Nat} {x l:List α}:splice l o x=l.take o++x++l.drop (o+x.length):=rfl
def tL (τ:Nat→Option Nat) (h:Hp):List SV→List RV→Prop
 | [],[]=>True
 | x::xs,r::rs=>Fz τ h x r∧tL τ h xs rs
 | _,_=>False
theorem tL.get {τ:Nat→Option Nat} {h:Hp}:∀ {xs:List SV} {rs:List RV},tL τ h xs rs→xs.length=rs.length∧∀ (j:Nat) (x:SV) (r:RV),xs[j]?=some x→rs[j]?=some r→Fz τ h x r
 | [],[],_=>⟨rfl,fun j x r hx=>by simp at hx⟩
 | x::xs,r::rs,hf=>by
   obtain ⟨g1,g2⟩:=tL.get hf.2
   refine ⟨by simp [g1],fun j y q hy hq=>?_⟩
   cases j with
   | zero=>simp at hy hq;subst hy;subst hq;exact hf.1
   | succ j=>exact g2 j y q (by simpa using hy) (by simpa using hq)
 | [],_::_,h=>h.elim
 | _::_,[],h=>h.elim
theorem nP {τ:Nat→Option Nat} {h:Hp} {j e az len:Nat} {xs:List (List RV)} (hj:h j=some (.row e az (aM xs))) (me:τ j=none) (hl:len≤xs.length) (h1:∀ x∈xs,∀ r∈x,r.one=true):Fz τ h (.row j az len) (.sl e (xs.take len)):=by
 have at_:∀ (i:Nat) (x:List SV) (r:List RV),(aM xs)[i]?=some x→(xs.take len)[i]?=some r→x=r.map .rv∧r∈xs:=fun i x r hx hr=>by
  have h1:=List.mem_of_mem_take (List.mem_of_getElem? hr)
  have hlt:=(List.getElem?_eq_some_iff.1 hr).1
  rw [List.getElem?_take,if_pos (by simp at hlt;omega)] at hr
  unfold aM at hx
  rw [List.getElem?_map,hr] at hx
  simp at hx
  exact ⟨hx.symm,h1⟩
 refine .row j e az len (aM xs) (xs.take len) me hj (by simp;omega) (by rw [au];exact hl) (fun i x r hx hr=>?_) (fun i r k q hr hq=>?_) (fun i x r k y q hx hr hy hq=>?_)
 ·rw [(at_ i x r hx hr).1];simp
 ·exact h1 r (List.mem_of_mem_take (List.mem_of_getElem? hr)) q (List.mem_of_getElem? hq)
 ·rw [(at_ i x r hx hr).1,List.getElem?_map,hq] at hy
  simp at hy
  subst hy
  exact .rv q
theorem yl {P:Program} {f:FuncId} {rs:List RV} {args:List SV} {pre us:List (Nat×HB)} {sv:SV} (H:aL P f (rs.map .rv) [] us sv)
 (hz:∀ hp,aR hp pre→tL (fun _=>none) hp args rs) (hl:args.length=rs.length) (hfl:iL sv) (ko:∀ q∈us,nH q.2∧∀ p∈pre,p.1≠q.1):aL P f args pre us sv:=
 LA H hl (fun hp hpre j y r hy hr=>(hz hp hpre).get.2 j y r hy hr) hfl ko
theorem cn.Fs {C:Ctx} {hp:Hp} {w:World} {aa:Nat→Option Nat} (R:cn C hp w aa) {i0 m o:Nat} {cs:List SV} (e:Nat) (hi:hp i0=some (.var cs)) (ho:cs[o]?=some (.rv .cv)) (hm:hp m=none) (hm0:C.h0 m=none) :
 ∃ aK,Step C hp (up (up hp m (some (.row e 0 []))) i0 (some (.var (cs.set o (.row m 0 0))))) w w aa aK:=by
 have S:=R.ghost m e 0 (.inl ⟨hm,hm0⟩)
 have hne:i0≠m:=fun h=>by subst h;rw [hm] at hi;cases hi
 have hi':(up hp m (some (.row e 0 []))) i0=some (.var cs):=by rw [gA _ _ hne];exact hi
 rcases S.mem.heap i0 _ hi' with ⟨_,e',az,hc⟩ | ⟨b,cur,t,h1,h2,h3⟩
 ·cases hc
 ·have S2:=S.mem.replace i0 (.var (cs.set o (.row m 0 0))) b cur t rfl rfl rfl (Nat.le_refl _) h2 (fun k _ _=>rfl) (.inl ⟨by rw [hi'];rfl,h1⟩) (fun hb hq=>by rw [hi'] at hq;cases hq;exact h1.symm) (fun hq=>by rw [hi'] at hq;cases hq) ⟨by rw [List.length_set];exact h3.1,fun j y hy=>by
   rw [List.getElem?_set] at hy
   split at hy
   ·rename_i hj
    subst hj
    split at hy
    ·cases hy
     obtain ⟨v,v1,v2,v3⟩:=h3.2 _ _ ho
     refine ⟨v,v1,v2,?_⟩
     cases v3 with
     | rv _ _ hr=>
       cases hr
       exact .row _ _ _ _ rfl (by rw [cr];rfl) (fun e gp xs hx=>by rw [cr] at hx;cases hx;exact Nat.le_refl _) (fun e xs hx=>.inl ⟨cr _ _ _,rfl,rfl⟩)
    ·cases hy
   ·exact h3.2 j y hy⟩
  exact ⟨_,S.trans S2 (Nat.le_refl _)⟩
theorem LB {P:Program} {f:FuncId} {args:List SV} {pre us:List (Nat×HB)} {sv:SV} {i0 m e o:Nat} {cs:List SV} (ho:cs[o]?=some (.rv .cv)) (hm:∀ q∈pre,q.1≠m∧q.1≠i0) (hne:m≠i0) (h1:i0∈us.map (·.1)) (h2:m∈us.map (·.1))
 (H:aL P f args ((i0,.var (cs.set o (.row m 0 0)))::(m,.row e 0 [])::pre) us sv):aL P f args ((i0,.var cs)::pre) us sv:=by
 refine ⟨H.1,fun C hp w aa vs hpre hnew R hvl hvs=>?_⟩
 have hi:hp i0=some (.var cs):=hpre (i0,.var cs) (by simp)
 obtain ⟨hmn,hm0⟩:hp m=none∧C.h0 m=none:=by
  obtain ⟨q,hq,rfl⟩:=List.mem_map.1 h2
  rcases hnew q hq with ⟨hb,hmem⟩ | h
  ·rcases List.mem_cons.1 hmem with he | hmem
   ·cases he;exact absurd rfl hne
   ·exact absurd rfl (hm _ hmem).1
  ·exact h
 obtain ⟨Aa,S⟩:=R.Fs e hi ho hmn hm0
 have hE:∀ id,id≠m→id≠i0→(up (up hp m (some (.row e 0 []))) i0 (some (.var (cs.set o (.row m 0 0))))) id=hp id:=fun id a b=>by rw [gA _ _ b,gA _ _ a]
 have OI:bP (up (up hp m (some (.row e 0 []))) i0 (some (.var (cs.set o (.row m 0 0))))) us=bP hp us:=by
  funext id
  by_cases hid:id∈us.map (·.1)
  ·exact xC hid
  ·rw [Av hid,Av hid,hE id (fun h=>hid (h▸h2)) (fun h=>hid (h▸h1))]
 refine (H.2 C _ w Aa vs (fun q hq=>?_) (fun q hq=>?_) S.mem hvl (fun j s hj=>(hvs j s hj).mono S.jS)).mono ?_
 ·rcases List.mem_cons.1 hq with rfl | hq
  ·exact cr _ _ _
  ·rcases List.mem_cons.1 hq with rfl | hq
   ·show (up (up hp m _) i0 _) m=_
    rw [gA _ _ hne,cr]
   ·rw [hE _ (hm q hq).1 (hm q hq).2];exact hpre q (by simp [hq])
 ·rcases hnew q hq with ⟨hb,hmem⟩ | ⟨a,b⟩
  ·rcases List.mem_cons.1 hmem with he | hmem
   ·exact .inl ⟨_,by rw [(Prod.mk.inj he).1];exact .head _⟩
   ·exact .inl ⟨hb,by simp [hmem]⟩
  ·by_cases FZ:q.1=m
   ·exact .inl ⟨.row e 0 [],by rw [FZ];simp⟩
   ·refine .inr ⟨?_,b⟩
    rw [hE _ FZ (fun h=>by rw [h,hi] at a;cases a)];exact a
 ·rintro e' w' ⟨v,aK,rfl,S2,hR⟩
  rw [OI] at S2 hR
  exact ⟨v,aK,rfl,S.trans S2 (Nat.le_refl _),hR⟩
theorem Lt:(true != true)=false:=rfl
theorem Ls:(true != false)=true:=rfl
theorem Lr:(false != true)=true:=rfl
theorem Lq:(false != false)=false:=rfl
end Go.aJ

namespace Go.aJ
open Go
def gU (k j:Nat):Option Nat:=if j<k then some j else none
def qF (τ:Nat→Option Nat) (h:Hp):Nat→List (Option HB)→Prop
 | _,[]=>True
 | _,none::_=>False
 | j,some hb::r=>fJ τ h (h j) (some hb)∧qF τ h (j+1) r
theorem GM {τ:Nat→Option Nat} {h:Hp}:∀ {l:List (Option HB)} {j:Nat},qF τ h j l→∀ i,i<l.length→∃ hb hb',l[i]?=some (some hb')∧h (j+i)=some hb∧pJ τ h hb hb'
 | [],j,_,i,hi=>by simp at hi
 | none::_,j,hk,i,hi=>hk.elim
 | some x::r,j,hk,i,hi=>by
   cases i with
   | zero=>
     obtain ⟨a,b,g1,g2,g3⟩:=hk.1.get
     cases g2
     exact ⟨a,x,rfl,g1,g3⟩
   | succ i=>
     obtain ⟨a,b,g1,g2,g3⟩:=GM hk.2 i (by simpa using hi)
     exact ⟨a,b,by simpa using g1,by rwa [show j+(i+1)=j+1+i by omega],g3⟩
theorem ud {n0:Nat} {env env':List (Nat×SV)} {h:List (Option HB)} (h':List (Option HB)) (hn:n0≤h'.length) (hk:qF (gU h'.length) (aB h) 0 h')
 (he:∀ p∈env',Rn (gU h'.length) (aB h) (lk env p.1) p.2):gi n0 ⟨env,h⟩ ⟨env',h'⟩:=by
 refine Bu (gU h'.length) hn (fun j i hj=>?_) (fun j hj=>?_) (fun j=>?_) (wU (fun x=>.dead x) he)
 ·unfold gU at hj;split at hj <;> cases hj;rfl
 ·unfold gU at hj;split at hj
  ·cases hj
  ·omega
 ·by_cases hj:j<h'.length
  ·obtain ⟨hb,hb',g1,g2,g3⟩:=GM hk j hj
   rw [Nat.zero_add] at g2
   exact .inl ⟨hb,hb',by simp [gU,hj],g2,pU.2 g1,g3⟩
  ·refine .inr ⟨?_,.inl (by simp [gU,hj])⟩
   unfold aB
   rw [List.getElem?_eq_none (by omega)]
theorem qi {τ:Nat→Option Nat} {h:Hp} {j e az len:Nat} {xs:List (List RV)} (hj:h j=some (.row e az (aM xs))) (me:τ j=none) (hl:len=xs.length) (h1:∀ x∈xs,∀ r∈x,r.one=true):Rn τ h (.row j az len) (.rv (.sl e xs)):=by
 have:=nP (τ:=τ) hj me (len:=len) (by omega) h1
 rw [hl,List.take_length] at this
 rw [hl];exact .fz _ _ this
theorem RO.Um {w:World} {ok:Nat→Prop} {e:Nat} {v:Value} (h:RO w ok (.sl e []) v):RO w ok .cv v∨RO w ok .mT v:=by
 cases h with
 | sl _ _ a cap c h0 hc hm he hr h1 hy=>
   cases a with
   | none=>have:=(h0 rfl).2;subst this;exact .inl .cv
   | some a=>exact .inr (.mT a cap hm)
theorem El {P:Program} {f:FuncId} {e:Nat} {lJ bs:List SV} {pre us:List (Nat×HB)} {sv:SV} (h1:aL P f (lJ ++ .rv .cv::bs) pre us sv) (h2:aL P f (lJ ++ .rv .mT::bs) pre us sv):aL P f (lJ ++ .rv (.sl e [])::bs) pre us sv:=by
 refine ⟨h1.1,fun C hp w aa vs hpre hnew R hvl hvs=>?_⟩
 have hj:=hvs lJ.length (.rv (.sl e [])) (by simp)
 have key:∀ r:RV,RO w (aI C aa hp) r (vs.getD lJ.length undef)→∀ (j:Nat) (s:SV),(lJ ++ .rv r::bs)[j]?=some s→Rp w (aI C aa hp) aa hp s (vs.getD j undef):=fun r hr j s hs=>by
  by_cases he:j=lJ.length
  ·subst he
   simp at hs
   subst hs
   exact .rv _ _ hr
  ·refine hvs j s ?_
   by_cases hlt:j<lJ.length
   ·rw [List.getElem?_append_left hlt] at hs ⊢;exact hs
   ·rw [List.getElem?_append_right (by omega)] at hs ⊢
    obtain ⟨k,hk⟩:∃ k,j - lJ.length=k+1:=⟨j - lJ.length - 1,by omega⟩
    rw [hk,List.getElem?_cons_succ] at hs ⊢
    exact hs
 cases hj with
 | rv _ _ hr=>
   rcases RO.Um hr with hr | hr
   ·exact h1.2 C hp w aa vs hpre hnew R (by simpa using hvl) (key _ hr)
   ·exact h2.2 C hp w aa vs hpre hnew R (by simpa using hvl) (key _ hr)
end Go.aJ

namespace Go.aJ
open Go
section
variable {P:Program} {n0:Nat} {k:List It} {K:Ex→St→Prop} {env:List (Nat×SV)} {h:List (Option HB)}
theorem LH {a b:AC}:yB P n0 a b k K env h (.rv (.bool true))=G P n0 (.c a::k) K env h:=rfl
theorem LG {a b:AC}:yB P n0 a b k K env h (.rv (.bool false))=G P n0 (.c b::k) K env h:=rfl
theorem aj {a b:AC} {t:Bool} (h1:t=true→G P n0 (.c a::k) K env h) (h2:t=false→G P n0 (.c b::k) K env h):yB P n0 a b k K env h (.rv (.bool t)):=by
 cases t
 ·exact h2 rfl
 ·exact h1 rfl
section
variable {ao:AO} {xs:List XO} {dst:Option Nat} {r:List bH} {aW:List Nat} {acc:List TE} {fF:List Nat}
theorem Ng:sJ P n0 true ao xs dst r k K env h (.rv (.bool true))=tC P n0 ao (xs.map (jq (lk env))) dst r k K env h:=rfl
theorem Nf:sJ P n0 true ao xs dst r k K env h (.rv (.bool false))=G P n0 (.o r::k) K (gu dst (.aO []) env) h:=rfl
theorem Nc:sJ P n0 false ao xs dst r k K env h (.rv (.bool true))=G P n0 (.o r::k) K (gu dst (.aO []) env) h:=rfl
theorem Nb:sJ P n0 false ao xs dst r k K env h (.rv (.bool false))=tC P n0 ao (xs.map (jq (lk env))) dst r k K env h:=rfl
theorem Nh {b:Bool}:sJ P n0 b ao xs dst r k K env h (.aO [])=G P n0 (.o r::k) K (gu dst (.aO []) env) h:=rfl
theorem Nm {b:Bool}:sK P n0 aW acc fF b ao xs dst r k K env h (.aO [])=G P n0 (.d aW (acc++[⟨fF,dst,[],[]⟩]) r::k) K (gu dst (.aO []) env) h:=rfl
theorem ax {b t:Bool} (h1:t=b→tC P n0 ao (xs.map (jq (lk env))) dst r k K env h) (h2:t = !b→G P n0 (.o r::k) K (gu dst (.aO []) env) h):sJ P n0 b ao xs dst r k K env h (.rv (.bool t)):=by
 cases t <;> cases b <;> first | exact h1 rfl | exact h2 rfl
theorem Nl:sK P n0 aW acc fF true ao xs dst r k K env h (.rv (.bool true))=tE P n0 aW acc fF ao (xs.map (jq (lk env))) dst r k K env h:=rfl
theorem Nk:sK P n0 aW acc fF true ao xs dst r k K env h (.rv (.bool false))=G P n0 (.d aW (acc++[⟨fF,dst,[],[]⟩]) r::k) K (gu dst (.aO []) env) h:=rfl
theorem Nj:sK P n0 aW acc fF false ao xs dst r k K env h (.rv (.bool true))=G P n0 (.d aW (acc++[⟨fF,dst,[],[]⟩]) r::k) K (gu dst (.aO []) env) h:=rfl
theorem Ni:sK P n0 aW acc fF false ao xs dst r k K env h (.rv (.bool false))=tE P n0 aW acc fF ao (xs.map (jq (lk env))) dst r k K env h:=rfl
theorem ay {b t:Bool} (h1:t=b→tE P n0 aW acc fF ao (xs.map (jq (lk env))) dst r k K env h) (h2:t = !b→G P n0 (.d aW (acc++[⟨fF,dst,[],[]⟩]) r::k) K (gu dst (.aO []) env) h):sK P n0 aW acc fF b ao xs dst r k K env h (.rv (.bool t)):=by
 cases t <;> cases b <;> first | exact h1 rfl | exact h2 rfl
end
end
theorem TD {x y:SV}:xg [.rv (.bool true),x,y]=some (True,x,none,[]):=rfl
theorem TC {x y:SV}:xg [.rv (.bool false),x,y]=some (True,y,none,[]):=rfl
theorem bF {x y:Int}:(x == y)=decide (x=y):=rfl
theorem JK {m:Int} (h1:0≤m) (h2:m≤4611686018427387904):IntKind.i64.wrap (0 - m) = -m:=by rw [wrap_i64 (by omega) (by omega)];omega
theorem yj {P:Program} {f:FuncId} {N:Nat} {ac:AC} {rs:List RR} (H:aX P f N ac rs) (σ:List Nat) (mJ mK:List HB) (jc args:List SV) (us:List (Nat×HB)) (sv:SV) (hN:args.length≤N) (hA:aP (fun j=>σ[j]?) jc args) (hl:mJ.length=σ.length) (zj:bQ (σ.map some)) (g1:mJ.length=mK.length)
 (g2:∀ (j:Nat) (x y:HB),mJ[j]?=some x→mK[j]?=some y→mY (fun j=>σ[j]?) x y)
 (hrun:∀ K:Ex→St→Prop,(∀ env h env' h' kU,gi σ.length ⟨env,h⟩ ⟨env',h'⟩→gw σ (σ.zip mK) us rs sv env' h' kU→K .normal ⟨env,h⟩∧K .ret ⟨env,h⟩)→G P σ.length [.c ac] K (nZ 0 jc) (mJ.map some)):aL P f args (σ.zip mK) us sv:=by
 refine ym H σ (mJ.map some) jc hN (lZ.1 hA) (by simpa using hl) (fun i j id h1 h2=>zN zj i j id (by simp [h1]) (by simp [h2])) (fun j id hj=>?_) (fun K hK=>hrun K (fun env h env' h' kU hE hr=>hK env h env' h' _ hE (Fc hr)))
 have hlt:=(List.getElem?_eq_some_iff.1 hj).1
 have h1:=List.getElem?_eq_getElem (l:=mJ) (i:=j) (by omega)
 have h2:=List.getElem?_eq_getElem (l:=mK) (i:=j) (by omega)
 refine ⟨_,_,by rw [List.getElem?_map,h1];rfl,?_,g2 j _ _ h1 h2⟩
 have hz:(σ.zip mK)[j]?=some (id,mK[j]'(by omega)):=by
  rw [List.getElem?_zip_eq_some];exact ⟨hj,h2⟩
 exact List.mem_of_getElem? hz
theorem LF {P:Program} {f:FuncId} {args:List SV} {pre pre' us:List (Nat×HB)} {sv:SV} (h:aL P f args pre us sv) (hp:∀ q,q∈pre↔q∈pre'):aL P f args pre' us sv:=
 ⟨h.1,fun C kk w aa vs a b c d e=>h.2 C kk w aa vs (fun q hq=>a q ((hp q).1 hq)) (fun q hq=>(b q hq).imp (fun ⟨hb,hm⟩=>⟨hb,(hp _).2 hm⟩) id) c d e⟩
def iz (i:Nat) (os:List Nat):List (List SV):=os.map fun o=>[.ptr i o]
theorem Ie {i:Nat} {os:List Nat}:(iz i os).length=os.length:=by simp [iz]
theorem Ab {τ:Nat→Option Nat} {h:Hp} {i j:Nat} {os:List Nat} (me:τ i=some j):AF τ h (iz i os) (iz j os):=by
 refine ⟨by simp [iz],fun k x y hx hy=>?_⟩
 unfold iz at hx hy
 rw [List.getElem?_map] at hx hy
 cases hk:os[k]? with
 | none=>simp [hk] at hx
 | some o=>
   simp [hk] at hx hy
   subst hx;subst hy
   exact uN.1 ⟨.ptr _ _ _ me,trivial⟩
theorem Lo {σ:Nat→Option Nat} {i j e v:Nat} {os:List Nat} (oP:σ i=some j):mY σ (.row e v (iz i os)) (.row e v (iz j os)):=by
 refine .row _ _ _ _ (by simp [iz]) (fun k x y hx hy=>?_)
 unfold iz at hx hy
 rw [List.getElem?_map] at hx hy
 cases hk:os[k]? with
 | none=>simp [hk] at hx
 | some o=>
   simp [hk] at hx hy
   subst hx;subst hy
   exact lZ.1 ⟨.ptr _ _ _ oP,trivial⟩
theorem Eh {σ:Nat→Option Nat} {rs:List RV}:mY σ (.var (rs.map .rv)) (.var (rs.map .rv)):=.var _ _ (lZ.1 (bu.2 trivial))
theorem AR {σ:Nat→Option Nat} {xs ys:List SV} (h:aP σ xs ys):mY σ (.var xs) (.var ys):=.var _ _ (lZ.1 h)
theorem Eg {σ:Nat→Option Nat} {e v:Nat} {xs:List (List RV)}:mY σ (.row e v (aM xs)) (.row e v (aM xs)):=by
 refine .row _ _ _ _ rfl (fun i x y hx hy=>?_)
 rw [hx] at hy;cases hy
 unfold aM at hx
 rw [List.getElem?_map] at hx
 cases hq:xs[i]? with
 | none=>simp [hq] at hx
 | some z=>simp [hq] at hx;subst hx;exact lZ.1 (bu.2 trivial)
theorem KW {p:Nat→HB→HB→Prop} {a a' b b' c c':HB} (h0:p 0 a a') (h1:p 1 b b') (h2:p 2 c c'):∀ (j:Nat) (x y:HB),[a,b,c][j]?=some x→[a',b',c'][j]?=some y→p j x y:=by
 intro j x y hx hy
 match j with
 | 0=>simp at hx hy;subst hx;subst hy;exact h0
 | 1=>simp at hx hy;subst hx;subst hy;exact h1
 | 2=>simp at hx hy;subst hx;subst hy;exact h2
 | j+3=>simp at hx
theorem DS {p:Nat→HB→HB→Prop} {a a' b b':HB} (h0:p 0 a a') (h1:p 1 b b'):∀ (j:Nat) (x y:HB),[a,b][j]?=some x→[a',b'][j]?=some y→p j x y:=by
 intro j x y hx hy
 match j with
 | 0=>simp at hx hy;subst hx;subst hy;exact h0
 | 1=>simp at hx hy;subst hx;subst hy;exact h1
 | j+2=>simp at hx
theorem bz {P:Program} {f:FuncId} {N:Nat} {ac:AC} {rs:List RR} (H:aX P f N ac rs) (args:List SV) (sv:SV) (hN:args.length≤N) (hA:aP (fun j=>([]:List Nat)[j]?) args args)
 (hrun:∀ K:Ex→St→Prop,(∀ env h,aT (fun _=>none) (aB h) sv (aS (lk env) (aB h) rs)→K .normal ⟨env,h⟩∧K .ret ⟨env,h⟩)→G P 0 [.c ac] K (nZ 0 args) []):aL P f args [] [] sv:=by
 refine ym H [] [] args hN (lZ.1 hA) rfl (by simp) (by simp) (fun K hK=>hrun K (fun env h hr=>?_))
 unfold aT at hr
 split at hr
 ·rename_i p xs hres
  exact hK env h env h (fun _=>none) (gk _ _) ⟨by simp,by simp,by simp,by simp,by simp,p,xs,hres,hr.1,hr.2⟩
 ·exact hr.elim
theorem bU {τ:Nat→Option Nat} {h:Hp} {env:List (Nat×SV)} {n:Nat} {r:RV} (hl:lk env n = .rv r):aT τ h (.rv r) (aS (lk env) h [.t n]):=by
 simp [aS,aT,bf,hl,aG]
theorem gM {τ:Nat→Option Nat} {h:Hp} {env:List (Nat×SV)} {n m:Nat} {r q:RV} (hl:lk env n = .rv r) (hm:lk env m = .rv q):aT τ h (.aO [.rv r,.rv q]) (aS (lk env) h [.t n,.t m]):=by
 simp [aS,aT,bf,hl,hm,aG,bl,aF]
theorem BE {τ:Nat→Option Nat} {h:Hp}:∀ (bs:List RV),tL τ h (bs.map .rv) bs
 | []=>trivial
 | b::bs=>⟨.rv b,BE bs⟩
theorem GV {P:Program} {f:FuncId} {e id v n:Nat} {xs:List (List RV)} {bs:List RV} {r:RV} (H:aL P f (.rv (.sl e xs)::bs.map .rv) [] [] (.rv r)) (hf:jD r) (hn:n=xs.length) (h1:∀ x∈xs,∀ r∈x,r.one=true) :
 aL P f (.row id v n::bs.map .rv) [(id,.row e v (aM xs))] [] (.rv r):=by
 refine yl (rs:=.sl e xs::bs) H (fun hp hpre=>⟨?_,?_⟩) (by simp) (.rv _ hf) (by simp)
 ·have:=nP (h:=hp) (τ:=fun _=>none) (j:=id) (e:=e) (az:=v) (len:=n) (xs:=xs) (hpre _ (.head _)) rfl (by omega) h1
  rwa [hn,List.take_length,← hn] at this
 ·exact BE bs
theorem GW {P:Program} {f:FuncId} {e id v n:Nat} {xs:List (List RV)} {bs:List RV} {rs:List RV} (H:aL P f (.rv (.sl e xs)::bs.map .rv) [] [] (.aO (rs.map .rv))) (hf:∀ r∈rs,jD r) (hn:n=xs.length) (h1:∀ x∈xs,∀ r∈x,r.one=true) :
 aL P f (.row id v n::bs.map .rv) [(id,.row e v (aM xs))] [] (.aO (rs.map .rv)):=by
 refine yl (rs:=.sl e xs::bs) H (fun hp hpre=>⟨?_,?_⟩) (by simp) (.aO _ (fun j y hy=>?_)) (by simp)
 ·have:=nP (h:=hp) (τ:=fun _=>none) (j:=id) (e:=e) (az:=v) (len:=n) (xs:=xs) (hpre _ (.head _)) rfl (by omega) h1
  rwa [hn,List.take_length,← hn] at this
 ·exact BE bs
 ·rw [List.getElem?_map] at hy
  cases hr:rs[j]? with
  | none=>simp [hr] at hy
  | some r=>simp [hr] at hy;subst hy;exact .rv _ (hf r (List.mem_of_getElem? hr))
end Go.aJ

namespace Go.aJ
open Go
theorem pP {n0:Nat} {env:List (Nat×SV)} {h:List (Option HB)} (n e v:Nat) (hn:lk env n = .rv .cv):gi n0 ⟨env,h⟩ ⟨(n,.row h.length v 0)::env,h++[some (.row e v [])]⟩:=by
 intro C a w R
 obtain ⟨⟨aa,RF⟩,h1,h0⟩:=R
 have hnone:aB h h.length=none:=by unfold aB;rw [List.getElem?_eq_none (Nat.le_refl _)]
 have vH:C.h0 h.length=none:=h0 _ h1
 have S:=RF.mem.ghost h.length e v (.inl ⟨hnone,vH⟩)
 have lI:=RF.step S
 have hh:aB (h++[some (.row e v [])])=up (aB h) h.length (some (.row e v [])):=by
  have:=zb (h:=h) (q:=(h.length,.row e v [])) (Nat.le_refl _)
  rw [← this]
  unfold aQ;rw [if_pos rfl]
 have hv:=RF.env n
 rw [hn] at hv
 refine ⟨⟨up aa h.length none,?_,fun m=>?_,lI.size,lI.defers⟩,?_,h0⟩
 ·show cn C (aB (h++[some (.row e v [])])) w (up aa h.length none)
  rw [hh];exact lI.mem
 ·show Rp w (aI C (up aa h.length none) (aB (h++[some (.row e v [])]))) (up aa h.length none) (aB (h++[some (.row e v [])])) (lk ((n,.row h.length v 0)::env) m) _
  rw [hh,wV]
  by_cases hm:m=n
  ·subst hm
   rw [cr]
   cases hv with
   | rv _ _ hr=>
     generalize a.tmps.getD m undef=v at hr
     cases hr
     refine .row _ _ _ _ rfl (by rw [cr];rfl) (fun e gp xs hx=>by rw [cr] at hx;cases hx;exact Nat.le_refl _) (fun e xs hx=>.inl ⟨cr _ _ _,rfl,rfl⟩)
  ·rw [gA _ _ hm];exact lI.env m
 ·show n0≤(h++[some (HB.row e v [])]).length
  have Nx:n0≤h.length:=h1
  simp;omega
theorem cn.Nn {C:Ctx} {hp:Hp} {w:World} {aa:Nat→Option Nat} (R:cn C hp w aa) {i0 m k v:Nat} {xs:List (List SV)} (e:Nat) (hi:hp i0=some (.row 1 v xs)) (ho:xs[k]?=some [.rv .cv]) (hm:hp m=none) (hm0:C.h0 m=none) :
 ∃ aK,Step C hp (up (up hp m (some (.row e 0 []))) i0 (some (.row 1 v (xs.set k [.row m 0 0])))) w w aa aK:=by
 have S:=R.ghost m e 0 (.inl ⟨hm,hm0⟩)
 have hne:i0≠m:=fun h=>by subst h;rw [hm] at hi;cases hi
 have hi':(up hp m (some (.row e 0 []))) i0=some (.row 1 v xs):=by rw [gA _ _ hne];exact hi
 rcases S.mem.heap i0 _ hi' with ⟨_,e',az,hc⟩ | ⟨b,cur,t,h1,h2,h3⟩
 ·cases hc;simp at ho
 ·have S2:=S.mem.replace i0 (.row 1 v (xs.set k [.row m 0 0])) b cur t rfl rfl rfl (Nat.le_refl _) h2 (fun k _ _=>rfl) (.inl ⟨by rw [hi'];rfl,h1⟩) (fun hb hq=>by
   rw [hi'] at hq;cases hq
   exact ⟨Nat.le_refl _,fun _=>⟨rfl,h1.symm,fun b' _ cur t hc=>⟨cur,t,hc,rfl⟩⟩⟩) (fun hq=>by rw [hi'] at hq;cases hq) ⟨fun x hx=>by
   rcases List.mem_or_eq_of_mem_set hx with h | h
   ·exact h3.1 x h
   ·rw [h];rfl,by rw [List.length_set];exact h3.2.1,fun i x hx=>by
   rw [List.getElem?_set] at hx
   split at hx
   ·rename_i hik
    subst hik
    split at hx
    ·cases hx
     intro j y hy
     cases j with
     | succ j=>simp at hy
     | zero=>
       simp at hy
       subst hy
       obtain ⟨u,v1,v2,v3⟩:=h3.2.2 _ _ ho 0 _ rfl
       refine ⟨u,v1,v2,?_⟩
       cases v3 with
       | rv _ _ hr=>
         cases hr
         exact .row _ _ _ _ rfl (by rw [cr];rfl) (fun e gp xs hx=>by rw [cr] at hx;cases hx;exact Nat.le_refl _) (fun e xs hx=>.inl ⟨cr _ _ _,rfl,rfl⟩)
    ·cases hx
   ·exact h3.2.2 i x hx⟩
  exact ⟨_,S.trans S2 (Nat.le_refl _)⟩
def jf (n:Nat) (e:Nat):List (Option HB):=List.replicate n (some (.row e 0 []))
def iM (b n k:Nat):List (List SV):=(List.range n).map fun p=>if p<k then [.row (b+p) 0 0] else [.rv .cv]
theorem Mj {n0:Nat} {env:List (Nat×SV)} {h:List (Option HB)} {r v n e k:Nat} (hr:h[r]?=some (some (.row 1 v (iM h.length n k)))) (hk:k<n) :
 gi n0 ⟨env,h++jf k e⟩ ⟨env,(h.set r (some (.row 1 v (iM h.length n (k+1)))))++jf (k+1) e⟩:=by
 intro C a w R
 obtain ⟨⟨aa,RF⟩,h1,h0⟩:=R
 have hrl:r<h.length:=(List.getElem?_eq_some_iff.1 hr).1
 have hlen:(h++jf k e).length=h.length+k:=by simp [jf]
 have hnone:aB (h++jf k e) (h.length+k)=none:=by unfold aB;rw [List.getElem?_eq_none (by rw [hlen];exact Nat.le_refl _)]
 have vH:C.h0 (h.length+k)=none:=h0 _ (by have:n0≤(h++jf k e).length:=h1;omega)
 have hi:aB (h++jf k e) r=some (.row 1 v (iM h.length n k)):=by
  unfold aB;rw [List.getElem?_append_left hrl,hr]
 have ho:(iM h.length n k)[k]?=some [.rv .cv]:=by simp [iM,hk]
 have M:cn C (aB (h++jf k e)) w aa:=RF.mem
 obtain ⟨aK,S⟩:=M.Nn e hi ho hnone vH
 have ta:(iM h.length n k).set k [.row (h.length+k) 0 0]=iM h.length n (k+1):=by
  refine List.ext_getElem (by simp [iM]) (fun i a1 a2=>?_)
  simp only [List.getElem_set,iM,List.getElem_map,List.getElem_range]
  by_cases hik:k=i
  ·subst hik;simp
  ·rw [if_neg hik]
   by_cases hlt:i<k
   ·rw [if_pos hlt,if_pos (by omega)]
   ·rw [if_neg hlt,if_neg (by omega)]
 have hh:aB ((h.set r (some (.row 1 v (iM h.length n (k+1)))))++jf (k+1) e)=up (up (aB (h++jf k e)) (h.length+k) (some (.row e 0 []))) r (some (.row 1 v ((iM h.length n k).set k [.row (h.length+k) 0 0]))):=by
  rw [ta]
  funext j
  unfold aB up
  by_cases hj:j=r
  ·subst hj
   rw [if_pos rfl,List.getElem?_append_left (by simpa using hrl),List.getElem?_set]
   simp [hrl]
  ·rw [if_neg hj]
   by_cases ze:j=h.length+k
   ·subst ze
    rw [if_pos rfl,List.getElem?_append_right (by simp)]
    simp [jf]
   ·rw [if_neg ze]
    dsimp only
    by_cases hjl:j<h.length
    ·rw [List.getElem?_append_left (by simpa using hjl),List.getElem?_append_left hjl,List.getElem?_set_ne (Ne.symm hj)]
    ·rw [List.getElem?_append_right (by simp;omega),List.getElem?_append_right (by omega)]
     simp only [List.length_set,jf,List.getElem?_replicate]
     by_cases FO:j - h.length<k
     ·rw [if_pos (by omega),if_pos FO]
     ·rw [if_neg (by omega),if_neg FO]
 have lI:=RF.step S
 refine ⟨⟨aK,?_,fun m=>?_,lI.size,lI.defers⟩,?_,h0⟩
 ·show cn C (aB _) w aK
  rw [hh];exact lI.mem
 ·show Rp w (aI C aK (aB _)) aK (aB _) _ _
  rw [hh];exact lI.env m
 ·show n0≤((h.set r _)++jf (k+1) e).length
  have:n0≤(h++jf k e).length:=h1
  simp [jf] at this ⊢;omega
theorem ET {n0:Nat} {env:List (Nat×SV)} {h:List (Option HB)} {r v n e:Nat} (hr:h[r]?=some (some (.row 1 v (List.replicate n [.rv .cv])))) :
 gi n0 ⟨env,h⟩ ⟨env,(h.set r (some (.row 1 v (iM h.length n n))))++jf n e⟩:=by
 have hrl:r<h.length:=(List.getElem?_eq_some_iff.1 hr).1
 have hz:iM h.length n 0=List.replicate n [.rv .cv]:=by
  refine List.ext_getElem (by simp [iM]) (fun i h1 h2=>?_)
  simp [iM]
 have key:∀ k,k≤n→gi n0 ⟨env,h⟩ ⟨env,(h.set r (some (.row 1 v (iM h.length n k))))++jf k e⟩:=by
  intro k
  induction k with
  | zero=>
    intro _
    have:h.set r (some (.row 1 v (iM h.length n 0)))=h:=by
     rw [hz]
     refine List.ext_getElem? (fun i=>?_)
     rw [List.getElem?_set]
     by_cases hi:r=i
     ·subst hi;rw [if_pos rfl,if_pos hrl,hr]
     ·rw [if_neg hi]
    rw [this]
    simpa [jf] using gk n0 ⟨env,h⟩
  | succ k ih=>
    intro hk
    refine (ih (by omega)).trans ?_
    have hl:(h.set r (some (.row 1 v (iM h.length n k)))).length=h.length:=by simp
    have:=Mj (n0:=n0) (env:=env) (h:=h.set r (some (.row 1 v (iM h.length n k)))) (r:=r) (v:=v) (n:=n) (e:=e) (k:=k) (by rw [hl,List.getElem?_set];simp [hrl]) (by omega)
    rw [hl,List.set_set] at this
    exact this
 exact key n (Nat.le_refl _)
theorem LC {P:Program} {f:FuncId} {rs:List RV} {us:List (Nat×HB)} {sv xu:SV} (H:aL P f (rs.map .rv) [] us sv) (hz:Rn (fun _=>none) (bP (fun _=>none) us) sv xu) (aE:∃ rs',xu = .rv rs'∨∃ qs:List RV,xu = .aO (qs.map .rv)):aL P f (rs.map .rv) [] [] xu:=by
 refine ⟨H.1,fun C hp w aa vs hpre hnew R hvl hvs=>?_⟩
 let C2:Ctx:=⟨w,fun b=>aI C aa hp b,fun _=>False,C.N,fun _=>none,fun _=>none⟩
 have sW:∀ b,C2.wY b→aI C2 (fun _=>none) (fun _=>none) b:=fun b hb=>⟨.inl hb,fun id hid=>by simp at hid⟩
 have R2:cn C2 (fun _=>none) w (fun _=>none):=⟨fun id hb h=>(by cases h),fun i j b h=>(by simp at h),fun i b h=>(by simp at h),⟨rfl,rfl,rfl,Nat.le_refl _,fun b _ _=>rfl⟩,fun id hb hb0 h=>(by cases h)⟩
 refine (H.2 C2 (fun _=>none) w (fun _=>none) vs (fun q hq=>by simp at hq) (fun q hq=>.inr ⟨rfl,rfl⟩) R2 hvl (fun j s hj=>?_)).mono ?_
 ·have h1:=hvs j s hj
  rw [List.getElem?_map] at hj
  cases hr:rs[j]? with
  | none=>simp [hr] at hj
  | some r=>
    simp [hr] at hj
    subst hj
    cases h1 with
    | rv _ _ h=>exact .rv _ _ (h.mono fun b hb _=>⟨sW b hb,rfl⟩)
 ·rintro e w' ⟨v,aK,rfl,S,hR⟩
  have R':=S.mem
  have hsz:w.heap.size≤w'.heap.size:=R'.fr.size
  have tv:∀ b,aI C aa hp b→b<w.heap.size→aI C aa hp b∧w'.heap[b]?=w.heap[b]?:=fun b hb hlt=>⟨hb,R'.fr.block b hlt (fun h=>h)⟩
  have HI:∀ b,w.heap.size≤b→aI C aa hp b:=fun b hb=>⟨.inr (Nat.le_trans R.fr.size hb),fun id hid he=>by have:=(R.own id b hid he).2;omega⟩
  have E:jn w w' (aI C aa hp) (aI C aa hp) aa aa hp hp:=jn.of tv (fun id hb hq=>⟨hb,hq,by
   cases hb with
   | var cs=>rfl
   | row e az xs=>exact ⟨Nat.le_refl _,fun _=>⟨rfl,rfl,fun b hb cur t hc=>⟨cur,t,by rw [R'.fr.block b (R.own id b (by rw [hq];rfl) hb).2 (fun h=>h)];exact hc,rfl⟩⟩⟩⟩)
  have out:Rp w' (aI C aa hp) aa hp xu v:=hR.leave (τ:=fun _=>none) (aa:=aa) (hp:=hp) (fun b hb=>by
   rcases hb.1 with h | h
   ·exact h
   ·exact HI b h) (fun j b _ hs hb=>by
   rcases (R'.own j b hs hb).1 with ⟨h,_⟩ | h
   ·cases h
   ·exact HI b h) (fun j hb hj=>R'.heap j hb hj) (fun j id hj=>by cases hj) hz
  refine ⟨v,aa,rfl,⟨⟨fun id hb hq=>?_,R.inj,fun id b h1 h2=>⟨(R.own id b h1 h2).1,by have:=(R.own id b h1 h2).2;omega⟩,⟨R'.fr.os.trans R.fr.os,R'.fr.tape.trans R.fr.tape,R'.fr.output.trans R.fr.output,Nat.le_trans R.fr.size hsz,fun b h1 h2=>?_⟩,fun id hb hb0 h1 h2=>?_⟩,E⟩,out⟩
  ·have fX:hp id=some hb:=hq
   rcases R.heap id hb fX with h | ⟨b,cur,t,a1,a2,a3⟩
   ·exact .inl h
   ·refine .inr ⟨b,cur,t,a1,?_,a3.mono E⟩
    rw [R'.fr.block b (R.own id b (by rw [fX];rfl) a1).2 (fun h=>h)];exact a2
  ·have hb:b<w.heap.size:=by have:=R.fr.size;omega
   rw [R'.fr.block b hb (fun h=>h)]
   exact R.fr.block b h1 h2
  ·have fX:hp id=some hb:=h1
   refine (R.jS id hb hb0 fX h2).trans ?_
   cases hb with
   | var cs=>rfl
   | row e az xs=>exact ⟨Nat.le_refl _,fun _=>⟨rfl,rfl,fun b hb cur t hc=>⟨cur,t,by rw [R'.fr.block b (R.own id b (by rw [fX];rfl) hb).2 (fun h=>h)];exact hc,rfl⟩⟩⟩
end Go.aJ

namespace Go.aJ
open Go
inductive iV (n:Nat):SV→Prop where
 | dead:iV n .dead
 | rv (r:RV):iV n (.rv r)
 | ptr (id off:Nat) (h:id<n):iV n (.ptr id off)
 | bX (id az i off:Nat) (h:id<n):iV n (.bX id az i off)
 | row (id az len:Nat) (h:id<n):iV n (.row id az len)
 | win (id az off len:Nat) (h:id<n):iV n (.win id az off len)
 | agg (cs:List SV) (h:∀ (j:Nat) (y:SV),cs[j]?=some y→iV n y):iV n (.agg cs)
 | aO (cs:List SV) (h:∀ (j:Nat) (y:SV),cs[j]?=some y→iV n y):iV n (.aO cs)
 | fn (f:FuncId) (cs:List SV) (h:∀ (j:Nat) (y:SV),cs[j]?=some y→iV n y):iV n (.fn f cs)
 | fK (f:FuncId) (cs:List SV) (h:∀ (j:Nat) (y:SV),cs[j]?=some y→iV n y):iV n (.fK f cs)
 | bW (t:TypeId) (x:SV) (h:iV n x):iV n (.bW t x)
theorem iV.rn {n:Nat} {h:Hp} {x:SV} (hc:iV n x):Rn (gU n) h x x:=by
 induction hc with
 | dead=>exact .dead _
 | rv r=>exact .fz _ _ (.rv r)
 | ptr id off h=>exact .ptr _ _ _ (by simp [gU,h])
 | bX id az i off h=>exact .bX _ _ _ _ _ (by simp [gU,h])
 | row id az len h=>exact .row _ _ _ _ (by simp [gU,h])
 | win id az off len h=>exact .win _ _ _ _ _ (by simp [gU,h])
 | agg cs h ih=>exact .agg _ _ rfl (fun i x y hx hy=>by rw [hx] at hy;cases hy;exact ih i x hx)
 | aO cs h ih=>exact .aO _ _ rfl (fun i x y hx hy=>by rw [hx] at hy;cases hy;exact ih i x hx)
 | fn f cs h ih=>exact .fn _ _ _ rfl (fun i x y hx hy=>by rw [hx] at hy;cases hy;exact ih i x hx)
 | fK f cs h ih=>exact .fK _ _ _ rfl (fun i x y hx hy=>by rw [hx] at hy;cases hy;exact ih i x hx)
 | bW t x h ih=>exact .bW _ _ _ ih
def mZ (n:Nat):List SV→Prop
 | []=>True
 | x::r=>iV n x∧mZ n r
theorem mZ.get {n:Nat}:∀ {l:List SV},mZ n l→∀ (j:Nat) (y:SV),l[j]?=some y→iV n y
 | [],_,j,y,h=>by simp at h
 | x::r,hc,j,y,h=>by
   cases j with
   | zero=>simp at h;subst h;exact hc.1
   | succ j=>exact hc.2.get j y (by simpa using h)
theorem jH {n:Nat} {r:RV}:iV n (.rv r)↔True:=⟨fun _=>trivial,fun _=>.rv r⟩
theorem lP {n i o:Nat}:iV n (.ptr i o)↔i<n:=⟨fun h=>by cases h;assumption,fun h=>.ptr _ _ h⟩
theorem jw {n i v l:Nat}:iV n (.row i v l)↔i<n:=⟨fun h=>by cases h;assumption,fun h=>.row _ _ _ h⟩
theorem jG {n:Nat} {rs:List RV}:mZ n (rs.map .rv):=by
 induction rs with
 | nil=>trivial
 | cons r rs ih=>exact ⟨.rv r,ih⟩
def nc (n:Nat):HB→Prop
 | .var cs=>mZ n cs
 | .row _ _ xs=>∀ (i:Nat) (x:List SV),xs[i]?=some x→mZ n x
theorem jd {n e v:Nat} {xs:List (List RV)}:nc n (.row e v (aM xs)):=fun i x hx=>by
 unfold aM at hx
 rw [List.getElem?_map] at hx
 cases hq:xs[i]? with
 | none=>simp [hq] at hx
 | some z=>simp [hq] at hx;subst hx;exact jG
theorem nc.rn {n:Nat} {h:Hp} {hb:HB} (hc:nc n hb):pJ (gU n) h hb hb:=by
 cases hb with
 | var cs=>exact .var _ _ ⟨rfl,fun i x y hx hy=>by rw [hx] at hy;cases hy;exact (mZ.get hc i x hx).rn⟩
 | row e v xs=>exact .row _ _ _ _ rfl (fun i x y hx hy=>by
    rw [hx] at hy;cases hy
    exact ⟨rfl,fun j a b ha hb=>by rw [ha] at hb;cases hb;exact (mZ.get (hc i x hx) j a ha).rn⟩)
def iC (n:Nat) (env:List (Nat×SV)):List (Nat×SV)→Prop
 | []=>True
 | (m,v)::r=>(v = .dead∨lk env m=v∧iV n v)∧iC n env r
theorem iC.get {n:Nat} {env:List (Nat×SV)}:∀ {env':List (Nat×SV)},iC n env env'→∀ p∈env',p.2 = .dead∨lk env p.1=p.2∧iV n p.2
 | [],_,p,hp=>by simp at hp
 | (m,v)::r,h,p,hp=>by
   rcases List.mem_cons.1 hp with rfl | hp
   ·exact h.1
   ·exact h.2.get p hp
def lH (P:HB→Prop):List (Option HB)→Prop
 | []=>True
 | some hb::r=>P hb∧lH P r
 | none::_=>False
theorem lH.get {P:HB→Prop}:∀ {l:List (Option HB)},lH P l→∀ j,j<l.length→∃ hb,l[j]?=some (some hb)∧P hb
 | [],_,j,hj=>by simp at hj
 | some hb::r,h,j,hj=>by
   cases j with
   | zero=>exact ⟨hb,rfl,h.1⟩
   | succ j=>obtain ⟨x,a,b⟩:=h.2.get j (by simpa using hj);exact ⟨x,by simpa using a,b⟩
 | none::r,h,_,_=>h.elim
theorem lH.of {P:HB→Prop}:∀ {l:List (Option HB)},(∀ (j:Nat) (x:Option HB),l[j]?=some x→∃ hb,x=some hb∧P hb)→lH P l
 | [],_=>trivial
 | x::r,h=>by
   obtain ⟨hb,rfl,hp⟩:=h 0 x rfl
   exact ⟨hp,lH.of fun j y hy=>h (j+1) y (by simpa using hy)⟩
theorem nj {n0:Nat} {env env':List (Nat×SV)} {h' C:List (Option HB)} (hn:n0≤h'.length) (hC:lH (nc h'.length) h') (he:iC h'.length env env'):gi n0 ⟨env,h'++C⟩ ⟨env',h'⟩:=by
 refine Bu (gU h'.length) hn (fun j i hj=>?_) (fun j hj=>?_) (fun j=>?_) (wU (fun x=>.dead x) (fun p hp=>?_))
 ·unfold gU at hj;split at hj <;> cases hj;rfl
 ·unfold gU at hj;split at hj
  ·cases hj
  ·omega
 ·by_cases hj:j<h'.length
  ·obtain ⟨hb,g1,g2⟩:=hC.get j hj
   exact .inl ⟨hb,hb,by simp [gU,hj],pU.2 (by rw [List.getElem?_append_left hj];exact g1),pU.2 g1,g2.rn⟩
  ·refine .inr ⟨?_,.inl (by simp [gU,hj])⟩
   unfold aB
   rw [List.getElem?_eq_none (by omega)]
 ·rcases he.get p hp with h | ⟨h1,h2⟩
  ·rw [h];exact .dead _
  ·rw [h1];exact h2.rn
structure jv (P:Program) (n:Nat) (t:TypeId) (rs:List RV):Prop where
 ty:kN P n t rs
theorem Jx {P:Program} {f g:TypeId→List RV→Prop} (h:∀ t rs,f t rs→g t rs):∀ {fs:List Field} {rs:List RV},va P f fs rs→va P g fs rs
 | [],_,hf=>hf
 | _::_,_,⟨a,b,e,h1,h2⟩=>⟨a,b,e,h _ _ h1,Jx h h2⟩
theorem Jw {P:Program} {n:Nat} {t:TypeId} {k:IntKind} {rs:List RV} (hu:P.underlying t=some (.int k)) (h:jv P (n+1) t rs):∃ i,rs=[.int k i]∧(Lit.int k i).wf=true:=by
 have h:=h.ty;unfold kN at h;simp only [hu] at h;exact h
theorem Wk {P:Program} {n:Nat} {t:TypeId} {rs:List RV} (hu:P.underlying t=some .bool) (h:jv P (n+1) t rs):∃ b,rs=[.bool b]:=by
 have h:=h.ty;unfold kN at h;simp only [hu] at h;exact h
theorem Wl {P:Program} {n:Nat} {t e:TypeId} {rs:List RV} (hu:P.underlying t=some (.slice e)) (h:jv P (n+1) t rs):∃ xs,rs=[.sl (P.cellsOf e) xs]∧xs.length≤maxLen∧∀ x∈xs,jv P n e x:=by
 have h:=h.ty;unfold kN at h;simp only [hu] at h
 obtain ⟨xs,h1,h2,h3⟩:=h
 exact ⟨xs,h1,h2,fun x hx=>⟨h3 x hx⟩⟩
theorem As {P:Program} {n:Nat} {t:TypeId} {fs:Array Field} {rs:List RV} (hu:P.underlying t=some (.struct fs)) (h:jv P (n+1) t rs):va P (jv P n) fs.toList rs:=by
 have h:=h.ty;unfold kN at h;simp only [hu] at h
 exact Jx (fun _ _ h=>⟨h⟩) h
theorem Jv {P:Program} {n m:Nat} {t e:TypeId} {rs:List RV} (hu:P.underlying t=some (.array m e)) (h:jv P (n+1) t rs):∃ xs:List (List RV),rs=xs.flatten∧xs.length=m∧∀ x∈xs,jv P n e x:=by
 have h:=h.ty;unfold kN at h;simp only [hu] at h
 obtain ⟨xs,h1,h2,h3⟩:=h
 exact ⟨xs,h1,h2,fun x hx=>⟨h3 x hx⟩⟩
theorem xe {P:Program} {H:Type} {enc:TypeId×Value→H} {w:World} {r:Reach} {b0 n:Nat} {t:TypeId} {v:Value} {d:DataW H} {ps:List MemPlace} (hf:oD P n t=true) (hval:Value.okWide P w r b0 t v) (hd:DataW.Trod enc P w 0 (fun _=>true) true t v d ps) :
 ∃ rs,jv P n t rs∧∀ (ok:Nat→Prop) (aa:Nat→Option Nat) (hp:Hp),(∀ b,b<w.heap.size→ok b)→Rp w ok aa hp (nJ P t rs) v:=by
 obtain ⟨rs,h1,h2⟩:=Tp hf hval hd ⟨w,fun _=>True,fun _=>True,0,fun _=>.none,fun _=>.none⟩ (fun _=>.none)
 exact ⟨rs,⟨h1⟩,h2⟩
theorem xW {P:Program} {t:TypeId} {r:RV} (h:fD P t=some false):nJ P t [r] = .rv r:=by
 unfold nJ;rw [h];rfl
theorem Lg {P:Program} {t:TypeId} {rs:List RV} (h:fD P t=some true):nJ P t rs = .agg (rs.map .rv):=by
 unfold nJ;rw [h]
theorem TJ {hp:Hp} {a:Nat} {hb:HB} (h:hp a=some hb):aR hp [(a,hb)]:=fun q hq=>by simp at hq;subst hq;exact h
end Go.aJ

namespace Go.aJ
open Go
attribute [go_sem] MQ Na MW MX MZ ML MO MM MY MP Ns Np Nt Nq No Nr MR MN MS MV MT MU AV zz Db tC AW zA Dc tE bY o1 o2 nw gE rQ yf xT yg yh fits oE oV oU zD zC yQ oW wT nD qR yq xV yb yd yc AS tP rL qM xU wX lu zw ry zB qE vA yL zO zM yF zH zJ zI yO rC wL wM uA sF yN yM vp yu Ah rJ oR uW xw mG nL wQ nZ lk gL gK gu xB aQ mA jq om DG List.map_cons List.map_nil List.length_cons List.length_nil List.length_append List.length_map List.length_set List.set_cons_zero List.set_cons_succ List.cons_append List.nil_append List.append_nil List.getElem?_cons_zero List.getElem?_cons_succ List.getElem?_nil List.take_succ_cons List.take_zero List.drop_succ_cons List.drop_zero List.drop_nil List.take_nil Option.getD_some Option.getD_none Option.map_some Option.map_none true_and and_true Nat.zero_add Nat.add_zero decide_eq_true_eq Bool.false_eq_true au Ui Dq Uj Iz Int.toNat_natCast Lt Ls Lr Lq Bool.not_true Bool.not_false VW rM qU chunks LH LG Ng Nf Nc Nb Nl Nk Nj Ni Nh Nm TD TC
attribute [go_sem_proc] Nat.reduceEqDiff Nat.reduceAdd Nat.reduceSub Nat.reduceMul Nat.reduceLeDiff Nat.reduceLT reduceCtorEq Int.reduceToNat
attribute [go_sem_proc ↓] reduceIte
theorem Sx (n:Nat):Int.ofNat (no_index (OfNat.ofNat n))=OfNat.ofNat n:=rfl
attribute [go_sem] Sx
theorem kO:IntKind.i64.wrap (0+1)=1:=by decide
theorem kP:IntKind.i64.wrap (1+1)=2:=by decide
theorem kQ:IntKind.i64.wrap (2+1)=3:=by decide
theorem kR:IntKind.i64.wrap (3+1)=4:=by decide
theorem kS:IntKind.i64.wrap (4+1)=5:=by decide
theorem kT:IntKind.i64.wrap (5+1)=6:=by decide
theorem kI (n:Nat):((no_index (OfNat.ofNat n):Nat):Int)=OfNat.ofNat n:=rfl
def fc (P:Program) (f:FuncId) (N:Nat) (rs:List RR):AC:=(yS P f N rs).getD .skip
theorem br {P:Program} {f:FuncId} {N:Nat} {rs:List RR} (h:(yS P f N rs).isSome=true):aX P f N (fc P f N rs) rs:=by
 obtain ⟨c,hc⟩:=Option.isSome_iff_exists.1 h
 unfold fc;rw [hc];exact MI hc
end Go.aJ

namespace Go.aJ
open Go
structure Ln where
 kind:Int
 n:Int
 deriving DecidableEq,Inhabited
structure Q4 (α:Type) where
 a:α
 b:α
 c:α
 d:α
 deriving DecidableEq,Inhabited
structure aC where
 shown:Bool
 position:Int
 off:Q4 Ln
 width:Ln
 height:Ln
 jA:Ln
 jz:Ln
 jX:Ln
 jW:Ln
 bA:Q4 Ln
 pad:Q4 Ln
 bE:Q4 Int
 bO:Bool
 yY:Bool
 z:Int
 clip:Bool
 back:Int
 line:Int
 deriving DecidableEq,Inhabited
structure Nd where
 s:aC
 parent:Int
 deriving DecidableEq,Inhabited
def Ln.cells (x:Ln):List RV:=[.int .i64 x.kind,.int .i64 x.n]
def Q4.oY (q:Q4 Ln):List RV:=[.int .i64 q.a.kind,.int .i64 q.a.n,.int .i64 q.b.kind,.int .i64 q.b.n,.int .i64 q.c.kind,.int .i64 q.c.n,.int .i64 q.d.kind,.int .i64 q.d.n]
def Q4.ints (q:Q4 Int):List RV:=[.int .i64 q.a,.int .i64 q.b,.int .i64 q.c,.int .i64 q.d]
def aC.cells (s:aC):List RV:=[.bool s.shown,.int .i64 s.position,
 .int .i64 s.off.a.kind,.int .i64 s.off.a.n,.int .i64 s.off.b.kind,.int .i64 s.off.b.n,.int .i64 s.off.c.kind,.int .i64 s.off.c.n,.int .i64 s.off.d.kind,.int .i64 s.off.d.n,
 .int .i64 s.width.kind,.int .i64 s.width.n,.int .i64 s.height.kind,.int .i64 s.height.n,.int .i64 s.jA.kind,.int .i64 s.jA.n,.int .i64 s.jz.kind,.int .i64 s.jz.n,.int .i64 s.jX.kind,.int .i64 s.jX.n,.int .i64 s.jW.kind,.int .i64 s.jW.n,
 .int .i64 s.bA.a.kind,.int .i64 s.bA.a.n,.int .i64 s.bA.b.kind,.int .i64 s.bA.b.n,.int .i64 s.bA.c.kind,.int .i64 s.bA.c.n,.int .i64 s.bA.d.kind,.int .i64 s.bA.d.n,
 .int .i64 s.pad.a.kind,.int .i64 s.pad.a.n,.int .i64 s.pad.b.kind,.int .i64 s.pad.b.n,.int .i64 s.pad.c.kind,.int .i64 s.pad.c.n,.int .i64 s.pad.d.kind,.int .i64 s.pad.d.n,
 .int .i64 s.bE.a,.int .i64 s.bE.b,.int .i64 s.bE.c,.int .i64 s.bE.d,
 .bool s.bO,.bool s.yY,.int .i64 s.z,.bool s.clip,.int .i64 s.back,.int .i64 s.line]
abbrev aC.sv (s:aC):SV:=.agg (s.cells.map .rv)
abbrev Ln.sv (x:Ln):SV:=.agg (x.cells.map .rv)
def Nd.cells (x:Nd):List RV:=x.s.cells++[.int .i64 x.parent]
abbrev Nd.sv (x:Nd):SV:=.agg (x.cells.map .rv)
def bp (l:List Nd):List (List RV):=l.map Nd.cells
def oc {α:Type} (q:Q4 α):Nat→α
 | 0=>q.a
 | 1=>q.b
 | 2=>q.c
 | _=>q.d
def Q4.list {α:Type} (q:Q4 α):List α:=[q.a,q.b,q.c,q.d]
def fY (s:aC):List Ln:=s.off.list++[s.width,s.height,s.jA,s.jz,s.jX,s.jW]++s.bA.list++s.pad.list
theorem aq (s:aC):(fY s).length=18:=rfl
def mh (l:List Ln):List (List RV):=l.map Ln.cells
def oX (x:Ln):Bool:=(decide (x.kind=0) && decide (x.n=0)) || decide (x.kind=1) || decide (x.kind=2)
def mj (p:Ln) (b:Int):Bool:=!(decide (p.kind=0) || decide (p.n<0) || decide (b<0))
def rR (s:aC):Bool:=decide (s.position≥0) && decide (s.position≤3) && decide (s.back≥0) && decide (s.line≥0) && (s.yY || decide (s.z=0))
def jb (s:aC):Bool:=(fY s).all oX && ([s.width,s.height,s.jA,s.jz,s.jX,s.jW].all fun x=>decide (0≤x.n)) &&
 (mj s.pad.a s.bE.a && mj s.pad.b s.bE.b && mj s.pad.c s.bE.c && mj s.pad.d s.bE.d) && rR s
def rz (n most:Int):Bool:=decide (-most≤n) && decide (n≤most)
def qf (x:Ln):Bool:=!((decide (x.kind=1) && !rz x.n 1099511627776) || (decide (x.kind=2) && !rz x.n 1000000))
def lD (s:aC):Bool:=(fY s).all qf && (s.bE.list.all fun n=>decide (n≤1099511627776)) && (rz s.z 1073741824 && decide (s.back≤16777216) && decide (s.line≤16777216))
theorem af (s:aC):s.cells.length=48:=rfl
theorem ak (x:Nd):x.cells.length=49:=rfl
theorem an (l:List Nd):(bp l).length=l.length:=by simp [bp]
theorem iP {l:List Nd} {i:Nat} (h:i<l.length):(bp l)[i]?.getD []=(l[i]'h).cells:=by simp [bp,h]
theorem av (l:List Ln):(mh l).length=l.length:=by simp [mh]
theorem CJ {l:List Ln} {i:Nat} (h:i<l.length):(mh l)[i]?.getD []=(l[i]'h).cells:=by simp [mh,h]
theorem cE (s:aC):(s.cells.map SV.rv)[0]?=some (.rv (.bool s.shown)):=rfl
theorem dZ (s:aC):(s.cells.drop 0)[0]?=some (.bool s.shown):=rfl
theorem cF (s:aC):(s.cells.map SV.rv)[1]?=some (.rv (.int .i64 s.position)):=rfl
theorem ec (s:aC):(s.cells.drop 1)[0]?=some (.int .i64 s.position):=rfl
theorem cQ (s:aC):(s.cells.map SV.rv)[2]?=some (.rv (.int .i64 s.off.a.kind)):=rfl
theorem eC (s:aC):(s.cells.drop 2)[0]?=some (.int .i64 s.off.a.kind):=rfl
theorem de (s:aC):(s.cells.map SV.rv)[3]?=some (.rv (.int .i64 s.off.a.n)):=rfl
theorem eN (s:aC):(s.cells.drop 3)[0]?=some (.int .i64 s.off.a.n):=rfl
theorem dz (s:aC):(s.cells.map SV.rv)[4]?=some (.rv (.int .i64 s.off.b.kind)):=rfl
theorem eZ (s:aC):(s.cells.drop 4)[0]?=some (.int .i64 s.off.b.kind):=rfl
theorem dJ (s:aC):(s.cells.map SV.rv)[5]?=some (.rv (.int .i64 s.off.b.n)):=rfl
theorem fu (s:aC):(s.cells.drop 5)[0]?=some (.int .i64 s.off.b.n):=rfl
theorem dK (s:aC):(s.cells.map SV.rv)[6]?=some (.rv (.int .i64 s.off.c.kind)):=rfl
theorem fy (s:aC):(s.cells.drop 6)[0]?=some (.int .i64 s.off.c.kind):=rfl
theorem dL (s:aC):(s.cells.map SV.rv)[7]?=some (.rv (.int .i64 s.off.c.n)):=rfl
theorem fA (s:aC):(s.cells.drop 7)[0]?=some (.int .i64 s.off.c.n):=rfl
theorem dM (s:aC):(s.cells.map SV.rv)[8]?=some (.rv (.int .i64 s.off.d.kind)):=rfl
theorem fB (s:aC):(s.cells.drop 8)[0]?=some (.int .i64 s.off.d.kind):=rfl
theorem dN (s:aC):(s.cells.map SV.rv)[9]?=some (.rv (.int .i64 s.off.d.n)):=rfl
theorem fC (s:aC):(s.cells.drop 9)[0]?=some (.int .i64 s.off.d.n):=rfl
theorem cG (s:aC):(s.cells.map SV.rv)[10]?=some (.rv (.int .i64 s.width.kind)):=rfl
theorem ee (s:aC):(s.cells.drop 10)[0]?=some (.int .i64 s.width.kind):=rfl
theorem cH (s:aC):(s.cells.map SV.rv)[11]?=some (.rv (.int .i64 s.width.n)):=rfl
theorem eg (s:aC):(s.cells.drop 11)[0]?=some (.int .i64 s.width.n):=rfl
theorem cI (s:aC):(s.cells.map SV.rv)[12]?=some (.rv (.int .i64 s.height.kind)):=rfl
theorem ek (s:aC):(s.cells.drop 12)[0]?=some (.int .i64 s.height.kind):=rfl
theorem cJ (s:aC):(s.cells.map SV.rv)[13]?=some (.rv (.int .i64 s.height.n)):=rfl
theorem ep (s:aC):(s.cells.drop 13)[0]?=some (.int .i64 s.height.n):=rfl
theorem cK (s:aC):(s.cells.map SV.rv)[14]?=some (.rv (.int .i64 s.jA.kind)):=rfl
theorem er (s:aC):(s.cells.drop 14)[0]?=some (.int .i64 s.jA.kind):=rfl
theorem cL (s:aC):(s.cells.map SV.rv)[15]?=some (.rv (.int .i64 s.jA.n)):=rfl
theorem eu (s:aC):(s.cells.drop 15)[0]?=some (.int .i64 s.jA.n):=rfl
theorem cM (s:aC):(s.cells.map SV.rv)[16]?=some (.rv (.int .i64 s.jz.kind)):=rfl
theorem ew (s:aC):(s.cells.drop 16)[0]?=some (.int .i64 s.jz.kind):=rfl
theorem cN (s:aC):(s.cells.map SV.rv)[17]?=some (.rv (.int .i64 s.jz.n)):=rfl
theorem ey (s:aC):(s.cells.drop 17)[0]?=some (.int .i64 s.jz.n):=rfl
theorem cO (s:aC):(s.cells.map SV.rv)[18]?=some (.rv (.int .i64 s.jX.kind)):=rfl
theorem ez (s:aC):(s.cells.drop 18)[0]?=some (.int .i64 s.jX.kind):=rfl
theorem cP (s:aC):(s.cells.map SV.rv)[19]?=some (.rv (.int .i64 s.jX.n)):=rfl
theorem eA (s:aC):(s.cells.drop 19)[0]?=some (.int .i64 s.jX.n):=rfl
theorem cR (s:aC):(s.cells.map SV.rv)[20]?=some (.rv (.int .i64 s.jW.kind)):=rfl
theorem eD (s:aC):(s.cells.drop 20)[0]?=some (.int .i64 s.jW.kind):=rfl
theorem cS (s:aC):(s.cells.map SV.rv)[21]?=some (.rv (.int .i64 s.jW.n)):=rfl
theorem eE (s:aC):(s.cells.drop 21)[0]?=some (.int .i64 s.jW.n):=rfl
theorem cT (s:aC):(s.cells.map SV.rv)[22]?=some (.rv (.int .i64 s.bA.a.kind)):=rfl
theorem eF (s:aC):(s.cells.drop 22)[0]?=some (.int .i64 s.bA.a.kind):=rfl
theorem cU (s:aC):(s.cells.map SV.rv)[23]?=some (.rv (.int .i64 s.bA.a.n)):=rfl
theorem eG (s:aC):(s.cells.drop 23)[0]?=some (.int .i64 s.bA.a.n):=rfl
theorem cV (s:aC):(s.cells.map SV.rv)[24]?=some (.rv (.int .i64 s.bA.b.kind)):=rfl
theorem eH (s:aC):(s.cells.drop 24)[0]?=some (.int .i64 s.bA.b.kind):=rfl
theorem cW (s:aC):(s.cells.map SV.rv)[25]?=some (.rv (.int .i64 s.bA.b.n)):=rfl
theorem eI (s:aC):(s.cells.drop 25)[0]?=some (.int .i64 s.bA.b.n):=rfl
theorem cX (s:aC):(s.cells.map SV.rv)[26]?=some (.rv (.int .i64 s.bA.c.kind)):=rfl
theorem eJ (s:aC):(s.cells.drop 26)[0]?=some (.int .i64 s.bA.c.kind):=rfl
theorem cY (s:aC):(s.cells.map SV.rv)[27]?=some (.rv (.int .i64 s.bA.c.n)):=rfl
theorem eK (s:aC):(s.cells.drop 27)[0]?=some (.int .i64 s.bA.c.n):=rfl
theorem cZ (s:aC):(s.cells.map SV.rv)[28]?=some (.rv (.int .i64 s.bA.d.kind)):=rfl
theorem eL (s:aC):(s.cells.drop 28)[0]?=some (.int .i64 s.bA.d.kind):=rfl
theorem dc (s:aC):(s.cells.map SV.rv)[29]?=some (.rv (.int .i64 s.bA.d.n)):=rfl
theorem eM (s:aC):(s.cells.drop 29)[0]?=some (.int .i64 s.bA.d.n):=rfl
theorem dg (s:aC):(s.cells.map SV.rv)[30]?=some (.rv (.int .i64 s.pad.a.kind)):=rfl
theorem eO (s:aC):(s.cells.drop 30)[0]?=some (.int .i64 s.pad.a.kind):=rfl
theorem dh (s:aC):(s.cells.map SV.rv)[31]?=some (.rv (.int .i64 s.pad.a.n)):=rfl
theorem eP (s:aC):(s.cells.drop 31)[0]?=some (.int .i64 s.pad.a.n):=rfl
theorem di (s:aC):(s.cells.map SV.rv)[32]?=some (.rv (.int .i64 s.pad.b.kind)):=rfl
theorem eR (s:aC):(s.cells.drop 32)[0]?=some (.int .i64 s.pad.b.kind):=rfl
theorem dj (s:aC):(s.cells.map SV.rv)[33]?=some (.rv (.int .i64 s.pad.b.n)):=rfl
theorem eS (s:aC):(s.cells.drop 33)[0]?=some (.int .i64 s.pad.b.n):=rfl
theorem dm (s:aC):(s.cells.map SV.rv)[34]?=some (.rv (.int .i64 s.pad.c.kind)):=rfl
theorem eT (s:aC):(s.cells.drop 34)[0]?=some (.int .i64 s.pad.c.kind):=rfl
theorem dn (s:aC):(s.cells.map SV.rv)[35]?=some (.rv (.int .i64 s.pad.c.n)):=rfl
theorem eU (s:aC):(s.cells.drop 35)[0]?=some (.int .i64 s.pad.c.n):=rfl
theorem dr (s:aC):(s.cells.map SV.rv)[36]?=some (.rv (.int .i64 s.pad.d.kind)):=rfl
theorem eV (s:aC):(s.cells.drop 36)[0]?=some (.int .i64 s.pad.d.kind):=rfl
theorem dw (s:aC):(s.cells.map SV.rv)[37]?=some (.rv (.int .i64 s.pad.d.n)):=rfl
theorem eW (s:aC):(s.cells.drop 37)[0]?=some (.int .i64 s.pad.d.n):=rfl
theorem dx (s:aC):(s.cells.map SV.rv)[38]?=some (.rv (.int .i64 s.bE.a)):=rfl
theorem eX (s:aC):(s.cells.drop 38)[0]?=some (.int .i64 s.bE.a):=rfl
theorem dy (s:aC):(s.cells.map SV.rv)[39]?=some (.rv (.int .i64 s.bE.b)):=rfl
theorem eY (s:aC):(s.cells.drop 39)[0]?=some (.int .i64 s.bE.b):=rfl
theorem dA (s:aC):(s.cells.map SV.rv)[40]?=some (.rv (.int .i64 s.bE.c)):=rfl
theorem fe (s:aC):(s.cells.drop 40)[0]?=some (.int .i64 s.bE.c):=rfl
theorem dB (s:aC):(s.cells.map SV.rv)[41]?=some (.rv (.int .i64 s.bE.d)):=rfl
theorem ff (s:aC):(s.cells.drop 41)[0]?=some (.int .i64 s.bE.d):=rfl
theorem cB (s:aC):(s.cells.map SV.rv)[42]?=some (.rv (.bool s.bO)):=rfl
theorem fh (s:aC):(s.cells.drop 42)[0]?=some (.bool s.bO):=rfl
theorem dD (s:aC):(s.cells.map SV.rv)[43]?=some (.rv (.bool s.yY)):=rfl
theorem fj (s:aC):(s.cells.drop 43)[0]?=some (.bool s.yY):=rfl
theorem dF (s:aC):(s.cells.map SV.rv)[44]?=some (.rv (.int .i64 s.z)):=rfl
theorem fk (s:aC):(s.cells.drop 44)[0]?=some (.int .i64 s.z):=rfl
theorem dG (s:aC):(s.cells.map SV.rv)[45]?=some (.rv (.bool s.clip)):=rfl
theorem fm (s:aC):(s.cells.drop 45)[0]?=some (.bool s.clip):=rfl
theorem dH (s:aC):(s.cells.map SV.rv)[46]?=some (.rv (.int .i64 s.back)):=rfl
theorem fo (s:aC):(s.cells.drop 46)[0]?=some (.int .i64 s.back):=rfl
theorem dI (s:aC):(s.cells.map SV.rv)[47]?=some (.rv (.int .i64 s.line)):=rfl
theorem fq (s:aC):(s.cells.drop 47)[0]?=some (.int .i64 s.line):=rfl
theorem dO (s:aC):((s.cells.map SV.rv).drop 10).take 2=s.width.cells.map SV.rv:=rfl
theorem dP (s:aC):((s.cells.map SV.rv).drop 12).take 2=s.height.cells.map SV.rv:=rfl
theorem dQ (s:aC):((s.cells.map SV.rv).drop 14).take 2=s.jA.cells.map SV.rv:=rfl
theorem dR (s:aC):((s.cells.map SV.rv).drop 16).take 2=s.jz.cells.map SV.rv:=rfl
theorem dS (s:aC):((s.cells.map SV.rv).drop 18).take 2=s.jX.cells.map SV.rv:=rfl
theorem dV (s:aC):((s.cells.map SV.rv).drop 20).take 2=s.jW.cells.map SV.rv:=rfl
theorem dU (s:aC):((s.cells.map SV.rv).drop 2).take 8=s.off.oY.map SV.rv:=rfl
theorem dW (s:aC):((s.cells.map SV.rv).drop 22).take 8=s.bA.oY.map SV.rv:=rfl
theorem dX (s:aC):((s.cells.map SV.rv).drop 30).take 8=s.pad.oY.map SV.rv:=rfl
theorem dY (s:aC):((s.cells.map SV.rv).drop 38).take 4=s.bE.ints.map SV.rv:=rfl
theorem cA (s:aC):(s.cells.map SV.rv).take 48=s.cells.map SV.rv:=rfl
theorem cD (s:aC):((s.cells.map SV.rv).drop 0).take 48=s.cells.map SV.rv:=rfl
theorem pM {α:Type} {p:α→Bool} {l:List α} {k:Nat} (h:k<l.length) (hk:(l.drop k).all p=l.all p) (hp:p (l[k]'h)=true):(l.drop (k+1)).all p=l.all p:=by
 rw [← hk,List.drop_eq_getElem_cons h,List.all_cons,hp,Bool.true_and]
theorem pL {α:Type} {p:α→Bool} {l:List α} {k:Nat} (h:k<l.length) (hk:(l.drop k).all p=l.all p) (hp:p (l[k]'h)=false):l.all p=false:=by
 rw [← hk,List.drop_eq_getElem_cons h,List.all_cons,hp,Bool.false_and]
theorem pK {α:Type} {p:α→Bool} {l:List α} {k:Nat} (h:l.length≤k) (hk:(l.drop k).all p=l.all p):l.all p=true:=by
 rw [← hk,List.drop_of_length_le h];rfl
theorem HD (x:Nd):x.cells.take 48=x.s.cells:=rfl
theorem uF (x:Nd):(x.cells.map SV.rv)[48]?=some (.rv (.int .i64 x.parent)):=rfl
theorem qH (x:Nd):x.cells.take 49=x.cells:=rfl
theorem Wd (s:aC):∀ r∈s.cells,r.one=true:=by
 intro r hr
 simp -implicitDefEqProofs only [aC.cells,List.mem_cons,List.not_mem_nil,or_false] at hr
 repeat' rcases hr with rfl | hr
 all_goals first | rfl | (subst hr;rfl)
theorem HC (x:Nd):∀ r∈x.cells,r.one=true:=by
 intro r hr
 rcases List.mem_append.1 hr with hr | hr
 ·exact Wd _ r hr
 ·simp at hr;rw [hr];rfl
theorem zL (l:List Nd):∀ x∈bp l,∀ r∈x,r.one=true:=by
 intro x hx
 obtain ⟨n,_,rfl⟩:=List.mem_map.1 hx
 exact HC n
def aN (ys:List Int):List (List RV):=ys.map fun n=>[.int .i64 n]
theorem ai (l:List Int):(aN l).length=l.length:=by simp [aN]
theorem oS {l:List Int} {i:Nat} (h:i<l.length):(aN l)[i]?.getD []=[.int .i64 (l[i]'h)]:=by simp [aN,h]
theorem kM (l:List Int):∀ x∈aN l,∀ r∈x,r.one=true:=by
 intro x hx r hr
 obtain ⟨n,_,rfl⟩:=List.mem_map.1 hx
 simp at hr;rw [hr];rfl
theorem lq {l:List Int} {i:Nat} (h:i<l.length):(aN l)[i]?.getD []=[.int .i64 (l.getD i 0)]:=by simp [aN,h]
theorem nA {ys:List Int} {k:Nat} {v:Int}:(aM (aN ys)).set k [.rv (.int .i64 v)]=aM (aN (ys.set k v)):=by simp [aM,aN,List.map_set]
theorem Af {n:Nat}:List.replicate n [SV.rv (.int .i64 0)]=aM (aN (List.replicate n 0)):=by simp [aM,aN]
theorem mu {ys:List Int} {v:Int}:aM (aN ys)++[[.rv (.int .i64 v)]]=aM (aN (ys++[v])):=by simp [aM,aN]
theorem cw {k:Nat} (h:k<4611686018427387904):IntKind.i64.wrap ((k:Int)+1)=((k+1:Nat):Int):=by
 rw [wrap_i64 (by omega) (by omega)];omega
theorem vg {k:Nat} (h:0<k) (h2:k<4611686018427387904):IntKind.i64.wrap ((k:Int) - 1)=((k - 1:Nat):Int):=by
 rw [wrap_i64 (by omega) (by omega)];omega
end Go.aJ

namespace Go.aJ
open Go Go.Proofs
theorem At {n:Nat} {rs:List RV} (h:jv Go.Proofs.Tryz.prog (n+1) 3 rs):∃ i,rs=[.int .i64 i]:=by
 obtain ⟨i,h,_⟩:=Jw Tryz.underlying3 h
 exact ⟨i,h⟩
theorem qj {n:Nat} {rs:List RV} (h:jv Go.Proofs.Tryz.prog (n+1) 2 rs):∃ i,rs=[.int .i64 i]:=by
 obtain ⟨i,h,_⟩:=Jw Tryz.underlying2 h
 exact ⟨i,h⟩
theorem uZ {n:Nat} {rs:List RV} (h:jv Go.Proofs.Tryz.prog (n+1) 4 rs):∃ b,rs=[.bool b]:=by
 exact Wk Tryz.underlying4 h
theorem qk {n:Nat} {rs:List RV} (h:jv Go.Proofs.Tryz.prog (n+2) 67 rs):∃ x:Ln,rs=x.cells:=by
 have h:=As Tryz.underlying67 h
 obtain ⟨_,_,rfl,h1,_,_,rfl,h2,rfl⟩:=h
 obtain ⟨i,rfl⟩:=At h1
 obtain ⟨j,rfl⟩:=qj h2
 exact ⟨⟨i,j⟩,rfl⟩
theorem GY {α:Type} {xs:List α} (h:xs.length=4):∃ a b c d,xs=[a,b,c,d]:=by
 match xs,h with
 | [a,b,c,d],_=>exact ⟨a,b,c,d,rfl⟩
theorem DF {n:Nat} {rs:List RV} (h:jv Go.Proofs.Tryz.prog (n+3) 68 rs):∃ q:Q4 Ln,rs=q.oY:=by
 obtain ⟨xs,rfl,hl,hx⟩:=Jv Tryz.underlying68 h
 obtain ⟨a,b,c,d,rfl⟩:=GY hl
 obtain ⟨a,rfl⟩:=qk (hx a (by simp))
 obtain ⟨b,rfl⟩:=qk (hx b (by simp))
 obtain ⟨c,rfl⟩:=qk (hx c (by simp))
 obtain ⟨d,rfl⟩:=qk (hx d (by simp))
 exact ⟨⟨a,b,c,d⟩,rfl⟩
theorem Wj {n:Nat} {rs:List RV} (h:jv Go.Proofs.Tryz.prog (n+2) 31 rs):∃ q:Q4 Int,rs=q.ints:=by
 obtain ⟨xs,rfl,hl,hx⟩:=Jv Tryz.underlying31 h
 obtain ⟨a,b,c,d,rfl⟩:=GY hl
 obtain ⟨a,rfl⟩:=qj (hx a (by simp))
 obtain ⟨b,rfl⟩:=qj (hx b (by simp))
 obtain ⟨c,rfl⟩:=qj (hx c (by simp))
 obtain ⟨d,rfl⟩:=qj (hx d (by simp))
 exact ⟨⟨a,b,c,d⟩,rfl⟩
theorem Wn {n:Nat} {rs:List RV} (h:jv Go.Proofs.Tryz.prog (n+4) 70 rs):∃ s:aC,rs=s.cells:=by
 have h:=As Tryz.underlying70 h
 obtain ⟨_,_,rfl,h1,_,_,rfl,h2,_,_,rfl,h3,_,_,rfl,h4,_,_,rfl,h5,_,_,rfl,h6,_,_,rfl,h7,_,_,rfl,h8,_,_,rfl,h9,_,_,rfl,Ny,_,_,rfl,Nz,_,_,rfl,h12,_,_,rfl,NA,_,_,rfl,NB,_,_,rfl,NC,_,_,rfl,ND,_,_,rfl,NF,_,_,rfl,NG,rfl⟩:=h
 obtain ⟨b1,rfl⟩:=uZ h1
 obtain ⟨i2,rfl⟩:=At h2
 obtain ⟨q3,rfl⟩:=DF h3
 obtain ⟨x4,rfl⟩:=qk h4
 obtain ⟨x5,rfl⟩:=qk h5
 obtain ⟨x6,rfl⟩:=qk h6
 obtain ⟨x7,rfl⟩:=qk h7
 obtain ⟨x8,rfl⟩:=qk h8
 obtain ⟨x9,rfl⟩:=qk h9
 obtain ⟨TL,rfl⟩:=DF Ny
 obtain ⟨TM,rfl⟩:=DF Nz
 obtain ⟨TN,rfl⟩:=Wj h12
 obtain ⟨Lj,rfl⟩:=uZ NA
 obtain ⟨Lk,rfl⟩:=uZ NB
 obtain ⟨i15,rfl⟩:=qj NC
 obtain ⟨Ll,rfl⟩:=uZ ND
 obtain ⟨i17,rfl⟩:=qj NF
 obtain ⟨i18,rfl⟩:=qj NG
 exact ⟨⟨b1,i2,q3,x4,x5,x6,x7,x8,x9,TL,TM,TN,Lj,Lk,i15,Ll,i17,i18⟩,rfl⟩
theorem Wm {n:Nat} {rs:List RV} (h:jv Go.Proofs.Tryz.prog (n+5) 72 rs):∃ x:Nd,rs=x.cells:=by
 have h:=As Tryz.underlying72 h
 obtain ⟨_,_,rfl,h1,_,_,rfl,h2,rfl⟩:=h
 obtain ⟨s,rfl⟩:=Wn h1
 obtain ⟨i,rfl⟩:=At h2
 exact ⟨⟨s,i⟩,rfl⟩
theorem GZ {α:Type} {f:α→List RV}:∀ {xs:List (List RV)},(∀ x∈xs,∃ a,x=f a)→∃ l:List α,xs=l.map f
 | [],_=>⟨[],rfl⟩
 | x::xs,h=>by
   obtain ⟨a,rfl⟩:=h x (by simp)
   obtain ⟨l,rfl⟩:=GZ (xs:=xs) fun y hy=>h y (by simp [hy])
   exact ⟨a::l,rfl⟩
theorem LJ:Program.cellsOf Go.Proofs.Tryz.prog 72=49:=by kernel_rfl
theorem KL:fD Go.Proofs.Tryz.prog 22=some false:=by kernel_rfl
theorem KJ:fD Go.Proofs.Tryz.prog 3=some false:=by kernel_rfl
theorem Tn {rs:List RV} (h:jv Go.Proofs.Tryz.prog 6 22 rs):∃ l:List Nd,nJ Go.Proofs.Tryz.prog 22 rs = .rv (.sl 49 (bp l)):=by
 obtain ⟨xs,rfl,_,hx⟩:=Wl Tryz.underlying22 h
 obtain ⟨l,rfl⟩:=GZ fun x hx'=>Wm (hx x hx')
 refine ⟨l,?_⟩
 rw [xW KL,LJ];rfl
theorem Tl {rs:List RV} (h:jv Go.Proofs.Tryz.prog 1 3 rs):∃ i:Int,nJ Go.Proofs.Tryz.prog 3 rs = .rv (.int .i64 i):=by
 obtain ⟨i,rfl⟩:=At h
 exact ⟨i,xW KJ⟩
end Go.aJ

namespace Go.aJ
open Go
def aZ (l:List Nd) (n:Nat):Int:=(l.getD n default).parent
theorem lX {l:List Nd} {n:Nat} (h:n<l.length):(l[n]'h).parent=aZ l n:=by simp [aZ,h]
def WF (l:List Nd) (k:Nat):Prop:=aZ l 0 = -1∧∀ j,0<j→j<k→0≤aZ l j∧aZ l j<j
theorem WF.mono {l:List Nd} {k m:Nat} (h:WF l k) (hm:m≤k):WF l m:=⟨h.1,fun j a b=>h.2 j a (by omega)⟩
def bw (l:List Nd) (n:Nat):List Nat:=if h:0≤aZ l n∧aZ l n<n then n::bw l (aZ l n).toNat else [n]
termination_by n
decreasing_by omega
theorem qh {l:List Nd} {n:Nat} (h:0≤aZ l n∧aZ l n<n):bw l n=n::bw l (aZ l n).toNat:=by
 rw [bw,dif_pos h]
theorem rH {l:List Nd} {n:Nat} (h:¬ (0≤aZ l n∧aZ l n<n)):bw l n=[n]:=by
 rw [bw,dif_neg h]
theorem De {l:List Nd}:bw l 0=[0]:=rH (by omega)
theorem Ib {l:List Nd} {n:Nat}:∃ r,bw l n=n::r:=by
 by_cases h:0≤aZ l n∧aZ l n<n
 ·exact ⟨_,qh h⟩
 ·exact ⟨_,rH h⟩
theorem uJ {l:List Nd}:∀ n,(bw l n).length≤n+1:=by
 intro n
 induction n using Nat.strongRecOn with
 | _ n ih=>
   by_cases h:0≤aZ l n∧aZ l n<n
   ·rw [qh h];have:=ih (aZ l n).toNat (by omega);simp;omega
   ·rw [rH h];simp
theorem uI {l:List Nd}:∀ n x,x∈bw l n→x≤n:=by
 intro n
 induction n using Nat.strongRecOn with
 | _ n ih=>
   intro x hx
   by_cases h:0≤aZ l n∧aZ l n<n
   ·rw [qh h] at hx
    rcases List.mem_cons.1 hx with rfl | hx
    ·omega
    ·have:=ih (aZ l n).toNat (by omega) x hx;omega
   ·rw [rH h] at hx;simp at hx;omega
def kH (p:List Nat) (i:Nat):Int:=match p[i]? with
 | some x=>x
 | none=>-1
theorem vl {p:List Nat} {i:Nat} (h:i<p.length):kH p i=((p[i]'h:Nat):Int):=by simp [kH,h]
theorem Li {p:List Nat} {i:Nat} (h:p.length≤i):kH p i = -1:=by
 unfold kH;rw [List.getElem?_eq_none h]
theorem qS {p:List Nat} {i:Nat}:0≤kH p i↔i<p.length:=by
 by_cases h:i<p.length
 ·rw [vl h];simp [h]
 ·rw [Li (by omega)];simp;omega
theorem vm {l:List Nd} {n:Nat}:kH (bw l n) 0=n:=by
 obtain ⟨r,h⟩:=Ib (l:=l) (n:=n)
 simp [kH,h]
theorem zS {l:List Nd} {k:Nat} (hw:WF l k):∀ n,n<k→∀ i,(h:i<(bw l n).length)→aZ l ((bw l n)[i]'h)=kH (bw l n) (i+1):=by
 intro n
 induction n using Nat.strongRecOn with
 | _ n ih=>
   intro hn i hi
   by_cases h:0≤aZ l n∧aZ l n<n
   ·have hp:=qh h
    cases i with
    | zero=>
      simp -implicitDefEqProofs only [hp,List.getElem_cons_zero]
      rw [show kH (n::bw l (aZ l n).toNat) (0+1)=kH (bw l (aZ l n).toNat) 0 from by simp [kH],vm]
      omega
    | succ i=>
      simp -implicitDefEqProofs only [hp,List.length_cons] at hi
      have:=ih (aZ l n).toNat (by omega) (by omega) i (by omega)
      simp -implicitDefEqProofs only [hp,List.getElem_cons_succ]
      rw [show kH (n::bw l (aZ l n).toNat) (i+1+1)=kH (bw l (aZ l n).toNat) (i+1) from by simp [kH]]
      exact this
   ·have hp:=rH h
    have h0:n=0:=by
     rcases Nat.eq_zero_or_pos n with h0 | h0
     ·exact h0
     ·exact absurd (hw.2 n h0 hn) h
    subst h0
    simp -implicitDefEqProofs only [hp,List.length_singleton] at hi
    obtain rfl:i=0:=by omega
    simp -implicitDefEqProofs only [hp,List.getElem_cons_zero]
    rw [hw.1];rfl
theorem zX {l:List Nd} {k n i:Nat} (hn:n<k) (h:i<(bw l n).length):(bw l n)[i]'h<k:=by
 have:=uI n _ (List.getElem_mem h);omega
theorem TK {l:List Nd}:∀ n i,(h:i<(bw l n).length)→(bw l n).drop i=bw l ((bw l n)[i]'h):=by
 intro n
 induction n using Nat.strongRecOn with
 | _ n ih=>
   intro i hi
   by_cases h:0≤aZ l n∧aZ l n<n
   ·have hp:=qh h
    cases i with
    | zero=>simp [hp]
    | succ i=>
      simp -implicitDefEqProofs only [hp,List.length_cons] at hi
      simp -implicitDefEqProofs only [hp,List.drop_succ_cons,List.getElem_cons_succ]
      exact ih _ (by omega) i (by omega)
   ·have hp:=rH h
    simp -implicitDefEqProofs only [hp,List.length_singleton] at hi
    obtain rfl:i=0:=by omega
    simp [hp]
def nF (l:List Nd) (k:Nat):Option Nat:=(bw l (k - 1)).findIdx? fun (j:Nat)=>decide ((j:Int)=aZ l k)
def jL (l:List Nd) (k:Nat):Bool:=decide (k=0) || (nF l k).isSome
def lC (l:List Nd):Bool:=decide (0<l.length) && decide (aZ l 0 = -1) && (List.range l.length).all (jL l)
def fW (l:List Nd):Bool:=lC l && l.all fun x=>jb x.s
theorem DH {l:List Nd} {k:Nat} (h:(nF l k).isSome=true):0≤aZ l k∧aZ l k≤((k - 1:Nat):Int)∧(aZ l k).toNat∈bw l (k - 1):=by
 obtain ⟨i,hi⟩:=Option.isSome_iff_exists.1 h
 unfold nF at hi
 rw [List.findIdx?_eq_some_iff_getElem] at hi
 obtain ⟨hlt,hp,_⟩:=hi
 simp at hp
 have h1:=List.getElem_mem hlt
 have h2:=uI _ _ h1
 refine ⟨by omega,by omega,?_⟩
 rw [← hp];simp
theorem Wq {l:List Nd} {k:Nat} (h0:0≤aZ l k) (h:(aZ l k).toNat∈bw l (k - 1)):(nF l k).isSome=true:=by
 unfold nF
 rw [List.findIdx?_isSome,List.any_eq_true]
 exact ⟨_,h,by simp;omega⟩
theorem Wo {l:List Nd} {k i:Nat} (h:i<(bw l (k - 1)).length) (hp:(((bw l (k - 1))[i]'h:Nat):Int)=aZ l k) (hn:∀ j,(h:j<(bw l (k - 1)).length)→j<i→(((bw l (k - 1))[j]'h:Nat):Int)≠aZ l k):nF l k=some i:=by
 unfold nF
 rw [List.findIdx?_eq_some_iff_getElem]
 exact ⟨h,by simpa using hp,fun j hj=>by simpa using hn j (by omega) hj⟩
theorem Wp {l:List Nd} {k:Nat} (hn:∀ j,(h:j<(bw l (k - 1)).length)→(((bw l (k - 1))[j]'h:Nat):Int)≠aZ l k):nF l k=none:=by
 unfold nF
 rw [List.findIdx?_eq_none_iff]
 intro x hx
 obtain ⟨j,hj,rfl⟩:=List.getElem_of_mem hx
 simpa using hn j hj
theorem JH {l:List Nd} {k:Nat} (h0:aZ l 0 = -1) (h:∀ j,j<k→jL l j=true):WF l k:=by
 refine ⟨h0,fun j hj hk=>?_⟩
 have:=h j hk
 simp [jL] at this
 rcases this with h | h
 ·omega
 ·have:=DH h;omega
structure gF (l:List Nd):Prop where
 pos:0<l.length
 root:aZ l 0 = -1
 up:∀ j,0<j→j<l.length→0≤aZ l j∧aZ l j<j∧(aZ l j).toNat∈bw l (j - 1)
theorem gF.wf {l:List Nd} (h:gF l):WF l l.length:=⟨h.root,fun j a b=>⟨(h.up j a b).1,(h.up j a b).2.1⟩⟩
theorem uS {l:List Nd}:lC l=true↔gF l:=by
 simp -implicitDefEqProofs only [lC,Bool.and_eq_true,decide_eq_true_eq,List.all_eq_true,List.mem_range]
 constructor
 ·rintro ⟨⟨h1,h2⟩,h3⟩
  refine ⟨h1,h2,fun j hj hl=>?_⟩
  have:=h3 j hl
  simp [jL] at this
  rcases this with h | h
  ·omega
  ·obtain ⟨a,b,c⟩:=DH h
   exact ⟨a,by omega,c⟩
 ·intro h
  refine ⟨⟨h.pos,h.root⟩,fun j hj=>?_⟩
  rcases Nat.eq_zero_or_pos j with h0 | h0
  ·simp [jL,h0]
  ·obtain ⟨a,b,c⟩:=h.up j h0 hj
   simp [jL,Wq a c]
def depth (l:List Nd) (n:Nat):Nat:=(bw l n).length
theorem Bm {l:List Nd} {k n:Nat} (hw:WF l k) (h0:0<n) (hn:n<k):depth l n=depth l (aZ l n).toNat+1:=by
 unfold depth;rw [qh (hw.2 n h0 hn)];simp
theorem Bn {l:List Nd}:depth l 0=1:=by simp [depth,De]
def kX (l:List Nd):Int:=if fW l=false then 2 else if (decide (l.length>65535) || (List.range l.length).any (fun k=>decide (depth l k>256)) || l.any fun x=>!lD x.s)=true then 3 else 0
end Go.aJ

namespace Go.aJ
open Go
def bB (l:List Nd) (k p:Nat):List Nat:=(List.range k).filter fun j=>decide (0<j) && decide (aZ l j=p)
def gY (l:List Nd) (p:Nat):List Nat:=bB l l.length p
theorem uC {l:List Nd} {p:Nat}:bB l 0 p=[]:=rfl
theorem uB {l:List Nd} {k p:Nat}:bB l (k+1) p=bB l k p++if 0<k∧aZ l k=p then [k] else []:=by
 by_cases h:0<k∧aZ l k=p
 ·simp [bB,List.range_succ,h]
 ·rw [if_neg h]
  have:(decide (0<k) && decide (aZ l k=p))=false:=by
   rw [Bool.eq_false_iff];simpa using h
  simp [bB,List.range_succ,this]
theorem th {l:List Nd} {k p:Nat}:(bB l k p).length≤k:=by
 have:=List.length_filter_le (fun j=>decide (0<j) && decide (aZ l j=p)) (List.range k)
 simpa [bB] using this
theorem qG {l:List Nd} {c p:Nat}:c∈gY l p↔0<c∧c<l.length∧aZ l c=p:=by
 simp [gY,bB];omega
def iH (l:List Nd) (n:Nat):Nat:=match (gY l n).getLast? with
 | none=>n+1
 | some c=>if h:n<c∧c<l.length then iH l c else n+1
termination_by l.length - n
decreasing_by omega
theorem Bt {l:List Nd} {n:Nat} (h:gY l n=[]):iH l n=n+1:=by
 rw [iH,h];rfl
theorem Bs {l:List Nd} {n c:Nat} (h:(gY l n).getLast?=some c) (h1:n<c) (h2:c<l.length):iH l n=iH l c:=by
 rw [iH,h];simp [h1,h2]
def nB (l:List Nd) (n:Nat):Bool:=(l.getD n default).s.shown
theorem Ds {l:List Nd} {n:Nat} (h:n<l.length):(l[n]'h).s.shown=nB l n:=by simp [nB,h]
def lz (l:List Nd) (n:Nat):Bool:=(bw l n).all (nB l)
theorem Hl {l:List Nd}:lz l 0=nB l 0:=by simp [lz,De]
theorem Hj {l:List Nd} {k n:Nat} (hw:WF l k) (h0:0<n) (hn:n<k):lz l n=(nB l n && lz l (aZ l n).toNat):=by
 unfold lz;rw [qh (hw.2 n h0 hn)];rfl
end Go.aJ

namespace Go.aJ
open Go
theorem zG {l:List Nd} {n:Nat}:n∈bw l n:=by obtain ⟨r,h⟩:=Ib (l:=l) (n:=n);simp [h]
theorem Dd {l:List Nd} {a n:Nat} (h:a∈bw l n):∀ x,x∈bw l a→x∈bw l n:=by
 obtain ⟨i,hi,rfl⟩:=List.getElem_of_mem h
 intro x hx
 rw [← TK n i hi] at hx
 exact List.mem_of_mem_drop hx
theorem tq {l:List Nd} {k n m:Nat} (hw:WF l m) (h0:0<k) (hk:k<m):n∈bw l k↔n=k∨n∈bw l (aZ l k).toNat:=by
 rw [qh (hw.2 k h0 hk)];simp
theorem SU {l:List Nd} {n:Nat}:n∈bw l 0↔n=0:=by rw [De];simp
theorem gF.step {l:List Nd} (h:gF l) {n k:Nat} (hk:k<l.length) (hn:n<k) (hm:n∈bw l k):n∈bw l (k - 1):=by
 rw [tq h.wf (by omega) hk] at hm
 rcases hm with hm | hm
 ·omega
 ·exact Dd (h.up k (by omega) hk).2.2 n hm
theorem gF.Ee {l:List Nd} (h:gF l) {n:Nat}:∀ k j,k<l.length→n∈bw l k→n≤j→j≤k→n∈bw l j:=by
 intro k
 induction k using Nat.strongRecOn with
 | _ k ih=>
   intro j hk hm h1 h2
   rcases Nat.lt_or_ge j k with ze | ze
   ·exact ih (k - 1) (by omega) j (by omega) (h.step hk (by omega) hm) h1 (by omega)
   ·obtain rfl:j=k:=by omega
    exact hm
theorem gF.child {l:List Nd} (h:gF l) {n:Nat}:∀ k,k<l.length→n∈bw l k→n≠k→∃ c,c∈gY l n∧c∈bw l k:=by
 intro k
 induction k using Nat.strongRecOn with
 | _ k ih=>
   intro hk hm hne
   rcases Nat.eq_zero_or_pos k with h0 | h0
   ·subst h0;rw [SU] at hm;exact absurd hm hne
   ·obtain ⟨p1,p2,_⟩:=h.up k h0 hk
    rw [tq h.wf h0 hk] at hm
    rcases hm with hm | hm
    ·exact absurd hm hne
    ·by_cases hp:n=(aZ l k).toNat
     ·exact ⟨k,qG.2 ⟨h0,hk,by omega⟩,zG⟩
     ·obtain ⟨c,c1,c2⟩:=ih (aZ l k).toNat (by omega) (by omega) hm hp
      exact ⟨c,c1,(tq h.wf h0 hk).2 (.inr c2)⟩
theorem Sh {l:List Nd} {n c:Nat} (h:(gY l n).getLast?=some c):∀ x∈gY l n,x≤c:=by
 have key:∀ k,∀ c,(bB l k n).getLast?=some c→∀ x∈bB l k n,x≤c:=by
  intro k
  induction k with
  | zero=>intro c h;simp [uC] at h
  | succ k ih=>
    intro c h x hx
    rw [uB] at h hx
    by_cases hc:0<k∧aZ l k=n
    ·rw [if_pos hc] at h hx
     simp at h
     subst h
     rcases List.mem_append.1 hx with hx | hx
     ·simp [bB] at hx;omega
     ·simp at hx;omega
    ·rw [if_neg hc,List.append_nil] at h hx
     exact ih c h x hx
 exact key _ c h
theorem gF.ends {l:List Nd} (h:gF l):∀ m n,l.length - n=m→n<l.length→n<iH l n∧iH l n≤l.length∧∀ k,k<l.length→(n∈bw l k↔n≤k∧k<iH l n):=by
 intro m
 induction m using Nat.strongRecOn with
 | _ m ih=>
   intro n hm hn
   cases hl:(gY l n).getLast? with
   | none=>
     have gQ:gY l n=[]:=List.getLast?_eq_none_iff.1 hl
     rw [Bt gQ]
     refine ⟨by omega,hn,fun k hk=>⟨fun hm=>?_,fun hb=>?_⟩⟩
     ·refine ⟨uI _ _ hm,?_⟩
      apply Classical.byContradiction
      intro hc
      obtain ⟨c,c1,_⟩:=h.child k hk hm (by omega)
      rw [gQ] at c1;simp at c1
     ·obtain rfl:k=n:=by omega
      exact zG
   | some c=>
     have nq:c∈gY l n:=List.mem_of_getLast? hl
     obtain ⟨c1,c2,c3⟩:=qG.1 nq
     have hnc:n<c:=by have:=(h.up c c1 c2).2.1;omega
     rw [Bs hl hnc c2]
     obtain ⟨e1,e2,e3⟩:=ih (l.length - c) (by omega) c rfl c2
     have FW:n∈bw l c:=(tq h.wf c1 c2).2 (.inr (by rw [c3,Int.toNat_natCast];exact zG))
     refine ⟨by omega,e2,fun k hk=>⟨fun hm=>?_,fun hb=>?_⟩⟩
     ·refine ⟨uI _ _ hm,?_⟩
      rcases Nat.lt_or_ge k (c+1) with hkc | hkc
      ·omega
      ·obtain ⟨c',d1,d2⟩:=h.child k hk hm (by omega)
       have hle:=Sh hl c' d1
       obtain ⟨g1,g2,g3⟩:=qG.1 d1
       by_cases NV:c'=c
       ·subst NV;exact ((e3 k hk).1 d2).2
       ·have:=h.Ee k c hk d2 (by omega) (by omega)
        rw [tq h.wf c1 c2,c3,Int.toNat_natCast] at this
        rcases this with t | t
        ·omega
        ·have:=uI _ _ t
         have:=(h.up c' g1 g2).2.1
         omega
     ·rcases Nat.lt_or_ge k c with hkc | hkc
      ·exact h.Ee c k c2 FW hb.1 (by omega)
      ·exact Dd ((e3 k hk).2 ⟨hkc,hb.2⟩) n FW
theorem gF.below {l:List Nd} (h:gF l) {n k:Nat} (hn:n<l.length) (hk:k<l.length):n∈bw l k↔n≤k∧k<iH l n:=(h.ends _ n rfl hn).2.2 k hk
theorem gF.sB {l:List Nd} (h:gF l) {n:Nat} (hn:n<l.length):n<iH l n∧iH l n≤l.length:=⟨(h.ends _ n rfl hn).1,(h.ends _ n rfl hn).2.1⟩
end Go.aJ

namespace Go.aJ
open Go
theorem RP:aX Go.Proofs.Tryz.prog 108 21 (fc Go.Proofs.Tryz.prog 108 21 [(.t 2)]) [(.t 2)]:=br (by kernel_rfl)
theorem RU:aX Go.Proofs.Tryz.prog 87 14 (fc Go.Proofs.Tryz.prog 87 14 [(.t 4)]) [(.t 4)]:=br (by kernel_rfl)
theorem VR (x:Ln):aL Go.Proofs.Tryz.prog 108 [x.sv] [] [] (.rv (.bool (oX x))):=by
 refine mF RP [] [] [] [x.sv] [x.sv] [] _ (by simp) (by simp [aP,Ln.sv,Ln.cells,bg,aY]) rfl (by simp [bQ]) (by simp [iB]) (fun K hK=>?_)
 conv in fc _ _ _ _=>reduce
 simp -implicitDefEqProofs only [Ln.sv,Ln.cells,go_sem,Int.reduceNegSucc]
 repeat' (first | (simp -implicitDefEqProofs only [go_sem,Int.reduceNegSucc]) | (with_reducible refine aA ?_) | ((first | refine aj (fun hg=>?_) (fun hg=>?_) | refine ax (fun hg=>?_) (fun hg=>?_) | refine ay (fun hg=>?_) (fun hg=>?_)) <;> try simp -implicitDefEqProofs only [hg,Bool.not_true,Bool.not_false]) | ((with_reducible apply And.intro);focus (first | trivial | omega | decide | (simp -implicitDefEqProofs only [maxLen];omega) | (simp [maxLen,af,ak,an,av,ai,au,aq] <;> omega))) | fail)
 all_goals (try ((first | refine (hK _ _ _ _ [] (gk _ _) ?_).2 | refine (hK _ _ ?_).2 | refine (hK _ _ _ _ [] (gk _ _) ?_).1 | refine (hK _ _ ?_).1 | fail);clear hK;(simp_all [gw,bQ,newL,gB,gn,aT,aS,lk,bf,fJ,fU,fN,gL,gK,aB,gx,bl,aG,ga,gz,gS,aH,gR,aF,gd,fL,bF,oX]) <;> try omega))
theorem Dy (n m:Int) (hm:0≤m) (hm2:m<4611686018427387904):aL Go.Proofs.Tryz.prog 87 [.rv (.int .i64 n),.rv (.int .i64 m)] [] [] (.rv (.bool (rz n m))):=by
 refine Ly RU [.int .i64 n,.int .i64 m] _ (by simp) (fun K hK=>?_)
 have e1:IntKind.i64.wrap (0 - m) = -m:=by rw [wrap_i64 (by omega) (by omega)];omega
 conv in fc _ _ _ _=>reduce
 simp -implicitDefEqProofs only [e1,go_sem,Int.reduceNegSucc]
 repeat' (first | (simp -implicitDefEqProofs only [go_sem,Int.reduceNegSucc]) | (with_reducible refine aA ?_) | ((first | refine aj (fun hg=>?_) (fun hg=>?_) | refine ax (fun hg=>?_) (fun hg=>?_) | refine ay (fun hg=>?_) (fun hg=>?_)) <;> try simp -implicitDefEqProofs only [hg,Bool.not_true,Bool.not_false]) | ((with_reducible apply And.intro);focus (first | trivial | omega | decide | (simp -implicitDefEqProofs only [maxLen];omega) | (simp [maxLen,af,ak,an,av,ai,au,aq] <;> omega))) | fail)
 all_goals (try ((first | refine (hK _ _ _ _ [] (gk _ _) ?_).2 | refine (hK _ _ ?_).2 | refine (hK _ _ _ _ [] (gk _ _) ?_).1 | refine (hK _ _ ?_).1 | fail);clear hK;(simp_all [gw,bQ,newL,gB,gn,aT,aS,lk,bf,fJ,fU,fN,gL,gK,aB,gx,bl,aG,ga,gz,gS,aH,gR,aF,gd,fL,bF,rz]) <;> try omega))
end Go.aJ

namespace Go.aJ
open Go
theorem RT:aX Go.Proofs.Tryz.prog 109 15 (fc Go.Proofs.Tryz.prog 109 15 []) []:=br (by kernel_rfl)
theorem RQ:aX Go.Proofs.Tryz.prog 86 43 (fc Go.Proofs.Tryz.prog 86 43 [(.t 2)]) [(.t 2)]:=br (by kernel_rfl)
def upto (o:Nat) (k:Nat):List Nat:=(List.range k).map fun q=>o+q*2
theorem Wt {o k:Nat}:upto o (k+1)=upto o k++[o+k*2]:=by simp [upto,List.range_succ]
theorem JC {o k:Nat}:(upto o k).length=k:=by simp [upto]
theorem Du (i j m o v:Nat) (cs:List RV) (os:List Nat) (h1:i≠j) (h2:i≠m) (h3:j≠m) (hb:os.length<1000) :
 aL Go.Proofs.Tryz.prog 109 [.ptr i o,.ptr j 0] [(i,.var (cs.map .rv)),(j,.var [.row m v os.length]),(m,.row 1 v (iz i os))] [(j,.var [.row m (v+4) (os.length+4)]),(m,.row 1 (v+4) (iz i (os++upto o 4)))] (.aO []):=by
 refine yj RT [i,j,m] [.var (cs.map .rv),.var [.row 2 v os.length],.row 1 v (iz 0 os)] [.var (cs.map .rv),.var [.row m v os.length],.row 1 v (iz i os)] [.ptr 0 o,.ptr 1 0] _ _ _ (by simp) (by simp [aP,mb,lN,aY,bg,oz,bq,oA,oy,iB,oo,bQ]) rfl (by simp [bQ,h1,h2,h3]) rfl (KW Eh (AR (by simp [aP,mb,lN,aY,bg,oz,bq,oA,oy,iB,oo,bQ,lN])) (Lo rfl)) (fun K hK=>?_)
 conv in fc _ _ _ _=>reduce
 simp -implicitDefEqProofs only [go_sem,Int.reduceNegSucc]
 refine fG (ι:=Nat) (fun k=>[(4,.rv (.int .i64 k)),(0,.ptr 0 o),(1,.ptr 1 0)]) (fun k=>[some (.var (cs.map .rv)),some (.var [.row 2 (v+k) (os.length+k)]),some (.row 1 (v+k) (iz 0 (os++upto o k)))]) (fun k=>k≤4) (fun k=>4 - k) 0 (by simp) (by simpa [upto] using aU (by simp [lk])) (fun k hk K' hN hX hR=>?_)
 simp -implicitDefEqProofs only [go_sem,Int.reduceNegSucc]
 refine aj (fun hg=>?_) (fun hg=>?_)
 ·have aD:k<4:=by simp at hg;omega
  have d1:List.take (os.length+k) (iz 0 (os++upto o k))++[[SV.ptr 0 (o+k*2)]]=iz 0 (os++upto o (k+1)):=by
   rw [Wt,List.take_of_length_le (by simp [Ie,JC])]
   simp [iz]
  simp -implicitDefEqProofs only [Ie,List.length_append,JC,go_sem,Int.reduceNegSucc]
  repeat' (first | (simp -implicitDefEqProofs only [go_sem,Int.reduceNegSucc]) | (with_reducible refine aA ?_) | ((first | refine aj (fun hg=>?_) (fun hg=>?_) | refine ax (fun hg=>?_) (fun hg=>?_) | refine ay (fun hg=>?_) (fun hg=>?_)) <;> try simp -implicitDefEqProofs only [hg,Bool.not_true,Bool.not_false]) | ((with_reducible apply And.intro);focus (first | trivial | omega | decide | (simp -implicitDefEqProofs only [maxLen];omega) | (simp [maxLen,af,ak,an,av,ai,au,aq] <;> omega))) | fail)
  rw [d1,cw (by omega)]
  refine hN (k+1) _ _ (by omega) (by omega) (ud _ (by simp) ?_ ?_)
  ·simp [qF,aB,fJ,aF,ga,gU,Ab,fL,Nat.add_assoc]
  ·simp [lk,aG,gz,gU]
 ·have aD:k=4:=by simp at hg;omega
  subst aD
  simp -implicitDefEqProofs only [go_sem,Int.reduceNegSucc]
  refine hX _ _ _ ?_
  repeat' (first | (simp -implicitDefEqProofs only [go_sem,Int.reduceNegSucc]) | (with_reducible refine aA ?_) | ((first | refine aj (fun hg=>?_) (fun hg=>?_) | refine ax (fun hg=>?_) (fun hg=>?_) | refine ay (fun hg=>?_) (fun hg=>?_)) <;> try simp -implicitDefEqProofs only [hg,Bool.not_true,Bool.not_false]) | ((with_reducible apply And.intro);focus (first | trivial | omega | decide | (simp -implicitDefEqProofs only [maxLen];omega) | (simp [maxLen,af,ak,an,av,ai,au,aq] <;> omega))) | fail)
  refine (hK _ _ _ _ [] (gk _ _) ?_).1
  simp [gw,bQ,newL,gB,gn,aT,aS,lk,bf,fJ,fU,fN,gL,gK,aB,gx,bl,aG,ga,gz,gS,aH,gR,aF,gd,fL,h1,h2,h3,Ne.symm h1,Ne.symm h2,Ne.symm h3,ga,Ab,fL]
theorem Vp (i j m o:Nat) (cs:List RV) (h1:i≠j) (h2:i≠m) (h3:j≠m) :
 aL Go.Proofs.Tryz.prog 109 [.ptr i o,.ptr j 0] [(j,.var [.rv .cv]),(i,.var (cs.map .rv))] [(j,.var [.row m 4 4]),(m,.row 1 4 (iz i (upto o 4)))] (.aO []):=by
 have:=Du i j m o 0 cs [] h1 h2 h3 (by simp)
 simp -implicitDefEqProofs only [List.length_nil,Nat.zero_add,List.nil_append] at this
 refine LB (e:=1) (o:=0) (m:=m) rfl (by simp [h1,h2]) (Ne.symm h3) (by simp) (by simp) (LF this ?_)
 intro q
 simp [iz]
 constructor
 ·rintro (h | h | h) <;> simp [h]
 ·rintro (h | h | h) <;> simp [h]
def nX:List Nat:=[2,4,6,8,10,12,14,16,18,20,22,24,26,28,30,32,34,36]
theorem IW (i m:Nat) (s:aC) (h1:i≠m) :
 aL Go.Proofs.Tryz.prog 86 [.ptr i 0] [(i,.var (s.cells.map .rv))] [(m,.row 1 13 (iz i nX))] (.row m 13 18):=by
 refine yj RQ [i] [.var (s.cells.map .rv)] [.var (s.cells.map .rv)] [.ptr 0 0] _ _ _ (by simp) (by simp [aP,mb,lN,aY,bg,oz,bq,oA,oy,iB,oo,bQ]) rfl (by simp [bQ]) rfl (fun j x y hx hy=>by
  match j with
  | 0=>simp at hx hy;subst hx;subst hy;exact Eh
  | j+1=>simp at hx) (fun K hK=>?_)
 conv in fc _ _ _ _=>reduce
 simp -implicitDefEqProofs only [go_sem,Int.reduceNegSucc]
 refine bS (Vp 0 1 2 2 s.cells (by decide) (by decide) (by decide)) (by simp [aR,aB]) (by simp [aV,aQ]) ?_
 repeat' (first | (simp -implicitDefEqProofs only [go_sem,Int.reduceNegSucc]) | (with_reducible refine aA ?_) | ((first | refine aj (fun hg=>?_) (fun hg=>?_) | refine ax (fun hg=>?_) (fun hg=>?_) | refine ay (fun hg=>?_) (fun hg=>?_)) <;> try simp -implicitDefEqProofs only [hg,Bool.not_true,Bool.not_false]) | ((with_reducible apply And.intro);focus (first | trivial | omega | decide | (simp -implicitDefEqProofs only [maxLen];omega) | (simp [maxLen,af,ak,an,av,ai,au,aq] <;> omega))) | fail)
 rw [show List.take 4 (iz 0 (upto 2 4))++[[SV.ptr 0 10],[SV.ptr 0 12],[SV.ptr 0 14],[SV.ptr 0 16],[SV.ptr 0 18],[SV.ptr 0 20]]=iz 0 [2,4,6,8,10,12,14,16,18,20] from rfl]
 refine bS (Du 0 1 2 22 5 s.cells [2,4,6,8,10,12,14,16,18,20] (by decide) (by decide) (by decide) (by decide)) (by simp [aR,aB]) (by simp [aV,aQ]) ?_
 repeat' (first | (simp -implicitDefEqProofs only [go_sem,Int.reduceNegSucc]) | (with_reducible refine aA ?_) | ((first | refine aj (fun hg=>?_) (fun hg=>?_) | refine ax (fun hg=>?_) (fun hg=>?_) | refine ay (fun hg=>?_) (fun hg=>?_)) <;> try simp -implicitDefEqProofs only [hg,Bool.not_true,Bool.not_false]) | ((with_reducible apply And.intro);focus (first | trivial | omega | decide | (simp -implicitDefEqProofs only [maxLen];omega) | (simp [maxLen,af,ak,an,av,ai,au,aq] <;> omega))) | fail)
 refine bS (Du 0 1 2 30 9 s.cells [2,4,6,8,10,12,14,16,18,20,22,24,26,28] (by decide) (by decide) (by decide) (by decide)) (by simp [aR,aB,upto,List.range_succ]) (by simp [aV,aQ]) ?_
 repeat' (first | (simp -implicitDefEqProofs only [go_sem,Int.reduceNegSucc]) | (with_reducible refine aA ?_) | ((first | refine aj (fun hg=>?_) (fun hg=>?_) | refine ax (fun hg=>?_) (fun hg=>?_) | refine ay (fun hg=>?_) (fun hg=>?_)) <;> try simp -implicitDefEqProofs only [hg,Bool.not_true,Bool.not_false]) | ((with_reducible apply And.intro);focus (first | trivial | omega | decide | (simp -implicitDefEqProofs only [maxLen];omega) | (simp [maxLen,af,ak,an,av,ai,au,aq] <;> omega))) | fail)
 refine (hK _ _ _ _ [none,some m,none] (gk _ _) ?_).2
 rw [show 2::4::6::8::10::12::14::16::18::20::22::24::26::28::upto 30 4=nX from rfl]
 simp [gw,bQ,newL,gB,gn,aT,aS,lk,bf,fJ,fU,fN,gL,gK,aB,gx,bl,aG,ga,gz,gS,aH,gR,aF,gd,fL,h1,Ne.symm h1,ga,Ab,fL]
end Go.aJ
