/- Part 2 of the proof: EngO, EngP, EngQ, EngR, EngS, EngT, EngU, EngV, EngW, EngX, EngY, EngZ, EngZa, EngZb, EngZc, EngZd, K0, KF, T0, T1, T2, K1, K2. -/
import Derived.Test.YtnaoehbodmiekaaGreatFlowLays1
import Derived.ProofKit
import Derived.OpenShut
import Derived.Below
import Derived.Test.YtnaoehbodmiekaaGreatProg
import Derived.KernelRfl
set_option linter.unusedSimpArgs false
set_option linter.unusedVariables false
set_option maxRecDepth 100000
set_option maxHeartbeats 16000000
namespace Go.aJ
open Go
structure St where
 env:List (Nat×SV)
 h:List (Option HB)
def lk:List (Nat×SV)→Nat→SV
 | [],_=>.dead
 | (m,v)::r,n=>if m=n then v else lk r n
def aB (h:List (Option HB)) (id:Nat):Option HB:=match h[id]? with
 | some x=>x
 | none=>none
def fZ (dst:Option Nat) (v:SV) (env:List (Nat×SV)):List (Nat×SV):=match dst with
 | some d=>(d,v)::env
 | none=>env
def aR (h:List (Option HB)) (q:Nat×HB):List (Option HB):=if q.1=h.length then h++[some q.2] else h.set q.1 (some q.2)
def wN (h:List (Option HB)):Option (Nat×HB)→List (Option HB)
 | none=>h
 | some q=>aR h q
def lS:List (Option HB)→List (Nat×HB)→List (Option HB)
 | h,[]=>h
 | h,q::r=>lS (aR h q) r
def bh (pre:List (Nat×HB)):List (Option HB)→List (Nat×HB)→Prop
 | _,[]=>True
 | h,q::r=>(q.1=h.length∨(q.1<h.length∧∃ hb,(q.1,hb)∈pre))∧bh pre (aR h q) r
theorem wg (env:List (Nat×SV)) (d:Nat) (v:SV):lk ((d,v)::env)=up (lk env) d v:=by
 funext n
 simp only [lk,up]
 by_cases h:d=n
 ·simp [h]
 ·rw [if_neg h,if_neg (Ne.symm h)]
theorem uD (h:List (Option HB)) (q:Nat×HB):h.length≤(aR h q).length:=by
 unfold aR;split <;> simp
theorem yq {h:List (Option HB)} {q:Nat×HB} (hq:q.1≤h.length):aB (aR h q)=up (aB h) q.1 (some q.2):=by
 funext id
 unfold aR aB up
 by_cases he:q.1=h.length
 ·rw [if_pos he]
  by_cases hi:id=q.1
  ·subst hi;simp [he]
  ·rw [if_neg hi]
   show _=(match h[id]? with | some x=>x | none=>none)
   by_cases hl:id<h.length
   ·rw [List.getElem?_append_left hl]
   ·rw [List.getElem?_append_right (by omega),List.getElem?_eq_none (l:=h) (by omega),List.getElem?_eq_none (by simp;omega)]
 ·rw [if_neg he,List.getElem?_set]
  by_cases hi:id=q.1
  ·subst hi
   have:q.1<h.length:=by omega
   simp [this]
  ·rw [if_neg (Ne.symm hi),if_neg hi]
theorem vn {pre:List (Nat×HB)}:∀ {us:List (Nat×HB)} {h:List (Option HB)},bh pre h us→aB (lS h us)=bM (aB h) us∧h.length≤(lS h us).length
 | [],h,_=>⟨rfl,Nat.le_refl _⟩
 | q::r,h,hk=>by
   obtain ⟨h1,h2⟩:=hk
   have hle:q.1≤h.length:=by rcases h1 with h1 | ⟨h1,_⟩ <;> omega
   obtain ⟨g1,g2⟩:=vn h2
   refine ⟨?_,Nat.le_trans (uD h q) g2⟩
   obtain ⟨id,hb⟩:=q
   rw [lS,g1,yq hle];rfl
structure jv (C:Ctx) (n0:Nat) (s:St) (a:Act) (w:World):Prop where
 rep:∃ aa,jQ C (lk s.env) (aB s.h) a w aa
 vX:n0≤s.h.length
 h0:∀ id,n0≤id→C.h0 id=none
theorem GB {C:Ctx} {n0:Nat} {s:St} {a:Act} {w:World} (R:jv C n0 s a w) {pre:List (Nat×HB)}:∀ {us:List (Nat×HB)} {h:List (Option HB)},s.h.length≤h.length→bh pre h us→rO C (aB s.h) pre us
 | [],h,_,_=>fun q hq=>by simp at hq
 | p::r,h,hl,hk=>fun q hq=>by
   rcases List.mem_cons.1 hq with rfl | hq
   ·rcases hk.1 with h1 | ⟨_,h1⟩
    ·refine .inr ⟨?_,R.h0 _ (by have:=R.vX;omega)⟩
     unfold aB
     rw [List.getElem?_eq_none (by omega)]
    ·exact .inl h1
   ·exact GB R (h:=aR h p) (by have:=uD h p;omega) hk.2 q hq
theorem Hi {w:World} {ok:Nat→Prop} {aa:Nat→Option Nat} {hp:Hp}:Rp w ok aa hp (.aP []) undef:=.aP [] [] rfl (fun j y hj=>by simp at hj)
theorem SA {w:World} {ok:Nat→Prop} {aa:Nat→Option Nat} {hp:Hp} {v:Value} (h:Rp w ok aa hp (.aP []) v):v=undef:=by
 cases h with
 | aP _ vs hl _=>
   have:vs=[]:=List.eq_nil_of_length_eq_zero (by simpa using hl)
   subst this;rfl
def kN (en:Nat→SV):Option (Nat×Bool)→Option Bool
 | none=>some true
 | some (d,b)=>match en d with
   | .rv (.bool t)=>some (t == b)
   | .aP []=>some false
   | _=>none
def qv (P:Program) (f:FuncId) (args:List SV) (h:List (Option HB)) (K:SV→List (Option HB)→Prop):Prop:=
 ∃ pre us sv,aG P f args pre us sv∧aU (aB h) pre∧bh pre h us∧K sv (lS h us)
def xI (P:Program) (h:List (Option HB)) (K:SV→List (Option HB)→Prop):List SV→Prop
 | .fn f caps::args=>qv P f (args++caps) h K
 | .fE f caps::args=>qv P f (caps++args) h K
 | _=>False
def vQ (P:Program) (name:String) (h:List (Option HB)) (K:SV→List (Option HB)→Prop):List SV→Prop
 | s::args=>match ov s with
   | some (t,x)=>match ox P t name with
     | some (f,none)=>qv P f (x::args) h K
     | some (f,some (n,agg))=>match ia n agg (aB h) x with
       | some (p,y,_,_)=>p∧qv P f (y::args) h K
       | none=>False
     | none=>False
   | none=>False
 | _=>False
def zg (h:List (Option HB)) (K:SV→List (Option HB)→Prop):XR→Prop
 | some (p,sv,u,_)=>p∧K sv (wN h u)
 | none=>False
def sN (P:Program) (ao:AO) (args:List SV) (h:List (Option HB)) (K:SV→List (Option HB)→Prop):Prop:=
 match ao with
 | .call f=>qv P f args h K
 | .nR=>xI P h K args
 | .inv name=>vQ P name h K args
 | ao=>zg h K (bX ao args (aB h) h.length)
def RW (P:Program) (K:St→Prop):List bE→St→Prop
 | [],s=>K s
 | op::r,s=>match kN (lk s.env) op.guard with
   | some true=>sN P op.ao (op.xs.map (iY (lk s.env))) s.h fun sv h'=>RW P K r ⟨fZ op.dst sv s.env,h'⟩
   | some false=>RW P K r ⟨fZ op.dst (.aP []) s.env,s.h⟩
   | none=>False
theorem Gf {n:Nat} {agg:Bool} {hp:Hp} {x y:SV} {p:Prop} {u:Option (Nat×HB)} {rd:List Nat} (h:ia n agg hp x=some (p,y,u,rd)):∀ id∈rd,(hp id).isSome=true:=by
 unfold ia at h
 repeat' split at h
 all_goals first | (cases h;done) | (cases h;simp [*])
def uj (h:List (Option HB)) (rd:List Nat):List (Nat×HB):=rd.filterMap fun id=>(aB h id).map fun hb=>(id,hb)
theorem Fo {P:Program} {o:Oper} {name:String} {s x y:SV} {t:TypeId} {args:List SV} {f:FuncId} {n:Nat} {agg:Bool} {gz:List Operand} (hc:kM P o.op=some (.inv name,gz)) (hi:ov s=some (t,x)) (hf:ox P t name=some (f,some (n,agg))) {h:List (Option HB)} {p:Prop} {u:Option (Nat×HB)} {rd:List Nat} (hE:ia n agg (aB h) x=some (p,y,u,rd)) (aD:p)
 {pre us:List (Nat×HB)} {sv:SV} (H:aG P f (y::args) pre us sv) (h2:aU (aB h) pre) (h3:bh pre h us):oO P o (s::args) (uj h rd++pre) us sv∧aU (aB h) (uj h rd++pre)∧bh (uj h rd++pre) h us:=by
 have hrd:=Gf hE
 have hpre:aU (aB h) (uj h rd++pre):=fun q hq=>by
  rcases List.mem_append.1 hq with hq | hq
  ·obtain ⟨id,_,hid⟩:=List.mem_filterMap.1 hq
   cases fO:aB h id with
   | none=>simp [fO] at hid
   | some hb=>simp [fO] at hid;subst hid;exact fO
  ·exact h2 q hq
 have RB:∀ {us:List (Nat×HB)} {h':List (Option HB)},bh pre h' us→bh (uj h rd++pre) h' us:=by
  intro us
  induction us with
  | nil=>intro h' _;trivial
  | cons q r ih=>
    intro h' hk
    refine ⟨hk.1.imp (fun h=>h) (fun ⟨a,hb,hm⟩=>⟨a,hb,List.mem_append.2 (.inr hm)⟩),ih hk.2⟩
 refine ⟨BV hc hi hf (y:=y) (fun hp hP=>?_) (zh:=pre) (fun q hq=>List.mem_append.2 (.inr hq)) H (fun C hp hnew hP q hq=>?_),hpre,RB h3⟩
 ·refine ⟨p,u,rd,Ge hE (fun id hid=>?_),aD⟩
  obtain ⟨hb,pe⟩:=Option.isSome_iff_exists.1 (hrd id hid)
  rw [pe]
  exact hP (id,hb) (List.mem_append.2 (.inl (List.mem_filterMap.2 ⟨id,hid,by simp [pe]⟩)))
 ·rcases hnew q hq with ⟨hb,hm⟩ | hn
  ·rcases List.mem_append.1 hm with hm | hm
   ·
    have:∀ {us:List (Nat×HB)} {h':List (Option HB)},bh pre h' us→∀ q∈us,(∃ hb,(q.1,hb)∈pre)∨h'.length≤q.1:=by
     intro us
     induction us with
     | nil=>intro h' _ q hq;simp at hq
     | cons r l ih=>
       intro h' hk q hq
       rcases List.mem_cons.1 hq with rfl | hq
       ·rcases hk.1 with h1 | ⟨_,h1⟩
        ·exact .inr (by omega)
        ·exact .inl h1
       ·rcases ih hk.2 q hq with h1 | h1
        ·exact .inl h1
        ·exact .inr (by have:=uD h' r;omega)
    rcases this h3 q hq with h1 | h1
    ·exact .inl h1
    ·exfalso
     obtain ⟨id,_,hid⟩:=List.mem_filterMap.1 hm
     cases fO:aB h id with
     | none=>simp [fO] at hid
     | some hb'=>
       simp [fO] at hid
       have:id<h.length:=by
        unfold aB at fO
        cases hl:h[id]? with
        | none=>simp [hl] at fO
        | some x=>exact (List.getElem?_eq_some_iff.1 hl).1
       omega
   ·exact .inl ⟨hb,hm⟩
  ·exact .inr hn
theorem RJ {P:Program} {o:Oper} {ao:AO} {gz:List Operand} (hc:kM P o.op=some (ao,gz)) {args:List SV} {h:List (Option HB)} {K:SV→List (Option HB)→Prop} (hW:sN P ao args h K) :
 ∃ pre us sv,oO P o args pre us sv∧aU (aB h) pre∧bh pre h us∧K sv (lS h us):=by
 unfold sN at hW
 split at hW
 ·obtain ⟨pre,us,sv,h1,h2,h3,h4⟩:=hW
  exact ⟨pre,us,sv,GF hc h1,h2,h3,h4⟩
 ·unfold xI at hW
  split at hW
  ·obtain ⟨pre,us,sv,h1,h2,h3,h4⟩:=hW
   exact ⟨pre,us,sv,GH hc h1,h2,h3,h4⟩
  ·obtain ⟨pre,us,sv,h1,h2,h3,h4⟩:=hW
   exact ⟨pre,us,sv,GG hc h1,h2,h3,h4⟩
  ·exact hW.elim
 ·unfold vQ at hW
  split at hW
  ·rename_i s iO
   split at hW
   ·rename_i t x hi
    split at hW
    ·rename_i f hf
     obtain ⟨pre,us,sv,h1,h2,h3,h4⟩:=hW
     exact ⟨pre,us,sv,BV hc hi hf (y:=x) (fun hp hP=>rfl) (fun q hq=>hq) h1 (fun C hp hn _=>hn),h2,h3,h4⟩
    ·rename_i f n agg hf
     split at hW
     ·rename_i p y u rd hE
      obtain ⟨aD,pre,us,sv,h1,h2,h3,h4⟩:=hW
      obtain ⟨g1,g2,g3⟩:=Fo hc hi hf hE aD h1 h2 h3
      exact ⟨_,us,sv,g1,g2,g3,h4⟩
     ·exact hW.elim
    ·exact hW.elim
   ·exact hW.elim
  ·exact hW.elim
 ·unfold zg at hW
  split at hW
  ·rename_i p sv u rd hE
   obtain ⟨hp,hK⟩:=hW
   have om:aB h h.length=none:=by unfold aB;rw [List.getElem?_eq_none (Nat.le_refl _)]
   refine ⟨_,wM u,sv,GI hc hE hp om,fun q hq=>?_,?_,?_⟩
   ·obtain ⟨id,_,hid⟩:=List.mem_filterMap.1 hq
    cases fO:aB h id with
    | none=>simp [fO] at hid
    | some hb=>simp [fO] at hid;subst hid;exact fO
   ·cases u with
    | none=>trivial
    | some q=>
      have ur:=BU hE
      refine ⟨?_,trivial⟩
      rcases ur.1 q rfl with h1 | h1
      ·exact .inl h1
      ·right
       have hs:=ur.2 _ h1
       obtain ⟨hb,pe⟩:=Option.isSome_iff_exists.1 hs
       refine ⟨?_,hb,List.mem_filterMap.2 ⟨q.1,h1,by simp [pe]⟩⟩
       unfold aB at pe
       cases hl:h[q.1]? with
       | none=>simp [hl] at pe
       | some x=>exact (List.getElem?_eq_some_iff.1 hl).1
   ·cases u with
    | none=>exact hK
    | some q=>exact hK
  ·exact hW.elim
theorem AG {C:Ctx} {en:Nat→SV} {hp:Hp} {a:Act} {w:World} {aa:Nat→Option Nat} (RF:jQ C en hp a w aa) {ops:Array Oper} {o:Oper} {N:Nat} {P:Program} {op:bE} (hc:ni P ops N o=some op) {b:Bool} (h:kN en op.guard=some b):Region.wanted o (yielded ops a.tmps)=b:=by
 unfold ni at hc
 split at hc
 ·cases hc
 ·split at hc
  ·cases hc
  ·split at hc
   ·split at hc
    ·rename_i hg
     cases hc
     simp only [kN,Option.some.injEq] at h
     simp [Region.wanted,hg,← h]
    ·rename_i j b' hg
     split at hc
     ·rename_i d hd
      cases hc
      simp only [kN] at h
      split at h
      ·rename_i t ht
       simp only [Option.some.injEq] at h
       have:=RF.env d
       rw [ht] at this
       have hv:=sQ this
       have Nq:a.tmps[d]?=some (.bool t):=by
        rw [Array.getD_eq_getD_getElem?] at hv
        cases hx:a.tmps[d]? with
        | none=>simp [hx,undef] at hv
        | some x=>simp [hx] at hv;rw [hv]
       simp only [Region.wanted,hg,yielded,hd,Option.bind_some,Nq]
       rw [← h];cases t <;> cases b' <;> rfl
      ·rename_i ht
       simp only [Option.some.injEq] at h
       have:=RF.env d
       rw [ht] at this
       have hv:=SA this
       have hno:yielded ops a.tmps j=none:=by
        simp only [yielded,hd,Option.bind_some]
        rw [Array.getD_eq_getD_getElem?] at hv
        cases hx:a.tmps[d]? with
        | none=>rfl
        | some x=>simp [hx] at hv;rw [hv];rfl
       simp only [Region.wanted,hg,hno]
       rw [← h];rfl
      ·cases h
     ·cases hc
   ·cases hc
theorem Ab {P:Program} {ops:Array Oper} {N:Nat} {o:Oper} {op:bE} (hc:ni P ops N o=some op):∃ gz,kM P o.op=some (op.ao,gz)∧tq gz=some op.xs∧o.dst=op.dst∧∀ d,op.dst=some d→d<N:=by
 unfold ni at hc
 split at hc
 ·cases hc
 ·rename_i ao xs hao
  split at hc
  ·cases hc
  ·rename_i ys hys
   split at hc
   ·rename_i hd
    split at hc
    ·cases hc
     exact ⟨xs,hao,hys,rfl,fun d lq=>by have AR:o.dst=some d:=lq;rw [AR] at hd;simpa using hd⟩
    ·split at hc
     ·cases hc
      exact ⟨xs,hao,hys,rfl,fun d lq=>by have AR:o.dst=some d:=lq;rw [AR] at hd;simpa using hd⟩
     ·cases hc
   ·cases hc
theorem jQ.GW {C:Ctx} {env:List (Nat×SV)} {hp:Hp} {a:Act} {w:World} {aa:Nat→Option Nat} (R:jQ C (lk env) hp a w aa) {dst:Option Nat} (hd:∀ d,dst=some d→d<C.N) {s:SV} {v:Value} (h:Rp w (aF C aa hp) aa hp s v) :
 jQ C (lk (fZ dst s env)) hp (a.put dst v) w aa:=by
 cases dst with
 | none=>exact R
 | some d=>
   have:=R.put (hd d rfl) h
   rw [← wg] at this;exact this
theorem Hw {P:Program} {C:Ctx} {n0:Nat} {ops:Array Oper} {K:St→Prop} {Q:Exit→Act→World→Prop} (hK:∀ s a w,K s→jv C n0 s a w→Q .normal a w) :
 ∀ (l:List bE) (is:List Nat) (s:St) (a:Act) (w:World),is.length=l.length→(∀ (j i:Nat) (op:bE),is[j]?=some i→l[j]?=some op→∃ o,ops[i]?=some o∧ni P ops C.N o=some op)→
  RW P K l s→jv C n0 s a w→wpOps P ops Q is a w
 | [],[],s,a,w,_,_,h,R=>hK s a w h R
 | [],_::_,s,a,w,hl,_,_,_=>by simp at hl
 | _::_,[],s,a,w,hl,_,_,_=>by simp at hl
 | op::l,i::is,s,a,w,hl,hc,h,R=>by
   obtain ⟨o,ho,mh⟩:=hc 0 i op rfl rfl
   obtain ⟨gz,qL,lH,tJ,tK⟩:=Ab mh
   have ih:=Hw (P:=P) (ops:=ops) hK l is
   have hl':is.length=l.length:=by simpa using hl
   have nk:∀ (j i:Nat) (op:bE),is[j]?=some i→l[j]?=some op→∃ o,ops[i]?=some o∧ni P ops C.N o=some op:=fun j i op h1 h2=>hc (j+1) i op (by simpa using h1) (by simpa using h2)
   simp only [wpOps,ho]
   unfold RW at h
   cases hg:kN (lk s.env) op.guard with
   | none=>simp [hg] at h
   | some b=>
     obtain ⟨aa,RF⟩:=R.rep
     have hw:=AG RF mh hg
     cases b with
     | false=>
       rw [hg] at h
       rw [if_neg (by rw [hw];simp)]
       refine ih _ _ _ hl' nk h ⟨⟨aa,?_⟩,R.vX,R.h0⟩
       rw [tJ]
       exact RF.GW tK Hi
     | true=>
       rw [hg] at h
       rw [if_pos hw]
       left
       obtain ⟨pre,us,sv,h1,h2,h3,h4⟩:=RJ qL h
       obtain ⟨g1,g2⟩:=vn h3
       refine h1 C (aB s.h) w aa a _ _ _ _ qL h2 (GB R (Nat.le_refl _) h3) RF.mem (xp RF lH) (fun v w' aH hS hR=>?_)
       refine ih _ _ _ hl' nk h4 ⟨⟨aH,?_⟩,Nat.le_trans R.vX g2,R.h0⟩
       rw [tJ]
       have kY:=RF.step hS
       rw [← g1] at kY hR
       exact kY.GW tK hR
end Go.aJ

namespace Go.aJ
open Go
structure TE where
 fB:List Nat
 dst:Option Nat
 pre:List Nat
 us:List Nat
def nH:List XO→List Nat
 | []=>[]
 | .t n::r=>n::nH r
 | .c _::r=>nH r
def oF (op:bE):List Nat:=match op.guard with
 | some (d,_)=>d::nH op.xs
 | none=>nH op.xs
def pU (a b:List Nat):Bool:=a.all fun x=>!b.contains x
def mG (x y:TE):Bool:=
 (match x.dst with
  | some d=>!y.fB.contains d && !(y.dst == some d)
  | none=>true) &&
 (match y.dst with
  | some d=>!x.fB.contains d
  | none=>true) && pU x.us y.pre && pU x.us y.us && pU y.us x.pre
def DG (aV:List (List Nat)) (i:Nat) (x:TE):Nat→List TE→Bool
 | _,[]=>true
 | j,y::r=>((aV.getD j []).contains i || mG x y) && DG aV i x (j+1) r
def KK (aV:List (List Nat)):Nat→List TE→Bool
 | _,[]=>true
 | i,x::r=>DG aV i x (i+1) r && KK aV (i+1) r
def jL (o:Oper):List Nat:=(o.after.toList.filter (fun e=>Region.binds .any e)).map (·.on)
inductive EN where
 | skip
 | run (args:List SV) (pre us:List (Nat×HB)) (sv:SV)
def BR (op:bE) (s:St):EN→St
 | .skip=>⟨fZ op.dst (.aP []) s.env,s.h⟩
 | .run _ _ us sv=>⟨fZ op.dst sv s.env,lS s.h us⟩
def iV (op:bE):EN→TE
 | .skip=>⟨oF op,op.dst,[],[]⟩
 | .run _ pre us _=>⟨oF op,op.dst,pre.map (·.1),us.map (·.1)⟩
def Tr (P:Program) (ops:Array Oper):Nat→List bE→St→List EN→St→Prop
 | _,[],s,[],s'=>s=s'
 | i,op::l,s,e::es,s'=>(match e with
    | .skip=>kN (lk s.env) op.guard=some false
    | .run args pre us sv=>kN (lk s.env) op.guard=some true∧args=op.xs.map (iY (lk s.env))∧(∀ o,ops[i]?=some o→oO P o args pre us sv)∧aU (aB s.h) pre∧bh pre s.h us)∧Tr P ops (i+1) l (BR op s e) es s'
 | _,_,_,_,_=>False
def fJ:List bE→List EN→St→Nat→St
 | op::l,e::es,s,i+1=>fJ l es (BR op s e) i
 | _,_,s,_=>s
theorem Tr.length {P:Program} {ops:Array Oper}:∀ {l:List bE} {i:Nat} {s s':St} {es:List EN},Tr P ops i l s es s'→es.length=l.length
 | [],i,s,s',[],_=>rfl
 | [],i,s,s',_::_,h=>h.elim
 | _::_,i,s,s',[],h=>h.elim
 | op::l,i,s,s',e::es,h=>by simp [Tr.length h.2]
theorem Tr.last {P:Program} {ops:Array Oper}:∀ {l:List bE} {i:Nat} {s s':St} {es:List EN},Tr P ops i l s es s'→fJ l es s l.length=s'
 | [],i,s,s',[],h=>h
 | [],i,s,s',_::_,h=>h.elim
 | _::_,i,s,s',[],h=>h.elim
 | op::l,i,s,s',e::es,h=>by simpa [fJ] using Tr.last h.2
theorem Tr.at_ {P:Program} {ops:Array Oper}:∀ {l:List bE} {i:Nat} {s s':St} {es:List EN},Tr P ops i l s es s'→∀ (j:Nat) (op:bE),l[j]?=some op→∃ e,es[j]?=some e∧fJ l es s (j+1)=BR op (fJ l es s j) e∧(match e with
 | .skip=>kN (lk (fJ l es s j).env) op.guard=some false
 | .run args pre us sv=>kN (lk (fJ l es s j).env) op.guard=some true∧args=op.xs.map (iY (lk (fJ l es s j).env))∧(∀ o,ops[i+j]?=some o→oO P o args pre us sv)∧aU (aB (fJ l es s j).h) pre∧bh pre (fJ l es s j).h us)
 | [],i,s,s',es,h,j,op,hj=>by simp at hj
 | _::_,i,s,s',[],h,_,_,_=>h.elim
 | VT::l,i,s,s',e::es,h,j,op,hj=>by
   cases j with
   | zero=>
     simp at hj;subst hj
     refine ⟨e,rfl,?_,?_⟩
     ·cases l <;> cases es <;> rfl
     ·have:=h.1
      cases e <;> exact this
   | succ j=>
     have:=Tr.at_ h.2 j op (by simpa using hj)
     obtain ⟨e',h1,h2,h3⟩:=this
     refine ⟨e',by simpa using h1,h2,?_⟩
     rw [show i+(j+1)=i+1+j by omega]
     exact h3
theorem Ii {l:List bE} {es:List EN} {s:St} (P:Program) (ops:Array Oper) {i:Nat} {s':St} (h:Tr P ops i l s es s'):∀ j,j≤l.length→s.h.length≤(fJ l es s j).h.length:=fun j=>by
 induction j with
 | zero=>intro _;cases l <;> cases es <;> exact Nat.le_refl _
 | succ j ih=>
   intro hj
   obtain ⟨e,h1,h2,h3⟩:=h.at_ j _ (List.getElem?_eq_getElem (by omega))
   rw [h2]
   refine Nat.le_trans (ih (by omega)) ?_
   cases e with
   | skip=>exact Nat.le_refl _
   | run args pre us sv=>exact (vn h3.2.2.2.2).2
def cnt (L:Nat→Bool):Nat→Nat
 | 0=>0
 | n+1=>cnt L n+(if L n then 0 else 1)
theorem DC {L L':Nat→Bool}:∀ {n:Nat},(∀ i,i<n→L' i=L i)→cnt L' n=cnt L n
 | 0,_=>rfl
 | n+1,h=>by rw [cnt,cnt,DC (fun i hi=>h i (by omega)),h n (by omega)]
theorem DD {L L':Nat→Bool} {j:Nat} (hj:L j=false) (hj':L' j=true) (ho:∀ i,i≠j→L' i=L i):∀ {n:Nat},j<n→cnt L n=cnt L' n+1
 | n+1,h=>by
   rw [cnt,cnt]
   by_cases hn:j=n
   ·subst hn
    rw [DC (L:=L) (L':=L') (fun i hi=>ho i (by omega)),hj,hj'];simp
   ·rw [DD hj hj' ho (n:=n) (by omega),ho n (fun e=>hn e.symm)];omega
theorem DE {L:Nat→Bool}:∀ {n:Nat},cnt L n=0→∀ i,i<n→L i=true
 | n+1,h,i,hi=>by
   rw [cnt] at h
   by_cases hn:i=n
   ·subst hn;cases hL:L i with
    | true=>rfl
    | false=>simp [hL] at h
   ·exact DE (n:=n) (by omega) i (by omega)
theorem DB (L:Nat→Bool):∀ n,cnt L n≤n
 | 0=>Nat.le_refl _
 | n+1=>by rw [cnt];have:=DB L n;split <;> omega
theorem wO {hp aD:Hp}:∀ {us:List (Nat×HB)} {id:Nat},id∈us.map (·.1)→bM hp us id=bM aD us id
 | [],id,h=>by simp at h
 | (i,hb)::r,id,h=>by
   by_cases hr:id∈r.map (·.1)
   ·rw [bM,bM];exact wO hr
   ·have hi:id=i:=by
     rcases List.mem_cons.1 h with h | h
     ·exact h
     ·exact absurd h hr
    subst hi
    have hne:∀ q∈r,q.1≠id:=fun q hq he=>hr (List.mem_map.2 ⟨q,hq,he⟩)
    rw [bM,bM,sU hne,sU hne,cn,cn]
theorem uu {α:Type} (f:Nat→α) (wr:Nat→Prop) (hs:∀ i,¬ wr i→f (i+1)=f i) {k j:Nat} (yy:k≤j) (h:∀ i,k≤i→i<j→¬ wr i):f j=f k:=by
 induction j with
 | zero=>have:k=0:=by omega
         rw [this]
 | succ j ih=>
   by_cases he:k=j+1
   ·rw [he]
   ·rw [hs j (h j (by omega) (by omega)),ih (by omega) (fun i h1 h2=>h i h1 (by omega))]
theorem xW {a b:List Nat} (h:pU a b=true) {x:Nat} (ha:x∈a) (hb:x∈b):False:=by
 unfold pU at h
 rw [List.all_eq_true] at h
 have:=h x ha
 simp at this
 exact this hb
structure jB (P:Program) (ops:Array Oper) (N:Nat) (l:List bE) (es:List EN) (s0 s1:St) (aV:List (List Nat)):Prop where
 tr:Tr P ops 0 l s0 es s1
 size:ops.size=l.length
 comp:∀ (i:Nat) (op:bE),l[i]?=some op→∃ o,ops[i]?=some o∧ni P ops N o=some op
 back:∀ (i:Nat) (o:Oper),ops[i]?=some o→∀ k∈jL o,k<i
 JY:∀ (i:Nat) (o:Oper),ops[i]?=some o→∀ k∈aV.getD i [],∃ (L:List Nat),(∀ x∈L,x∈jL o)∧(k∈L∨∃ x∈L,k∈aV.getD x [])
 ok:∀ (a b:Nat) (BW BX:bE) (ea eb:EN),a<b→l[a]?=some BW→l[b]?=some BX→es[a]?=some ea→es[b]?=some eb→a∈aV.getD b []∨mG (iV BW ea) (iV BX eb)=true
section
variable {P:Program} {ops:Array Oper} {N:Nat} {l:List bE} {es:List EN} {s0 s1:St} {aV:List (List Nat)}
def qw (ops:Array Oper) (L:Nat→Bool):Prop:=∀ (i:Nat) (o:Oper),ops[i]?=some o→L i=true→∀ k∈jL o,L k=true
theorem jB.xq (H:jB P ops N l es s0 s1 aV) {L:Nat→Bool} (hc:qw ops L):∀ (i:Nat) (o:Oper),ops[i]?=some o→(∀ k∈jL o,L k=true)→∀ k∈aV.getD i [],L k=true:=by
 intro i
 induction i using Nat.strongRecOn with
 | _ i ih=>
   intro o ho hn k hk
   obtain ⟨ls,h1,h2⟩:=H.JY i o ho k hk
   rcases h2 with h2 | ⟨x,hx,h2⟩
   ·exact hn k (h1 k h2)
   ·have jY:=H.back i o ho x (h1 x hx)
    have hxs:x<ops.size:=by have:=(Array.getElem?_eq_some_iff.1 ho).1;omega
    have ET:=Array.getElem?_eq_getElem hxs
    exact ih x jY _ ET (hc x _ ET (hn x (h1 x hx))) k h2
structure Inv (l:List bE) (es:List EN) (s0:St) (L:Nat→Bool) (en:Nat→SV) (hp:Hp):Prop where
 env:∀ m,∃ k,k≤l.length∧en m=lk (fJ l es s0 k).env m∧(∀ (i:Nat) (op:bE),i<k→l[i]?=some op→op.dst=some m→L i=true)∧(∀ (i:Nat) (op:bE),k≤i→l[i]?=some op→op.dst=some m→L i=false)
 heap:∀ id,∃ k,k≤l.length∧hp id=aB (fJ l es s0 k).h id∧(∀ (i:Nat) (op:bE) (e:EN),i<k→l[i]?=some op→es[i]?=some e→id∈(iV op e).us→L i=true)∧(∀ (i:Nat) (op:bE) (e:EN),k≤i→l[i]?=some op→es[i]?=some e→id∈(iV op e).us→L i=false)
theorem jB.As (H:jB P ops N l es s0 s1 aV) (m i:Nat) (h:∀ op,l[i]?=some op→op.dst≠some m):lk (fJ l es s0 (i+1)).env m=lk (fJ l es s0 i).env m:=by
 cases hi:l[i]? with
 | none=>
   have hlen:∀ (l:List bE) (es:List EN) (s:St) (i:Nat),l.length≤i→fJ l es s (i+1)=fJ l es s i:=by
    intro l
    induction l with
    | nil=>intro es s i _;cases i <;> rfl
    | cons op l ih=>
      intro es s i hi
      cases es with
      | nil=>cases i <;> rfl
      | cons e es=>
        cases i with
        | zero=>simp at hi
        | succ i=>simp only [fJ];exact ih es _ i (by simpa using hi)
   rw [hlen l es s0 i (List.getElem?_eq_none_iff.1 hi)]
 | some op=>
   obtain ⟨e,_,h2,_⟩:=H.tr.at_ i op hi
   rw [h2]
   have hd:=h op hi
   have hput:∀ v,lk (fZ op.dst v (fJ l es s0 i).env) m=lk (fJ l es s0 i).env m:=fun v=>by
    cases lq:op.dst with
    | none=>rfl
    | some d=>
      rw [lq] at hd
      rw [fZ,wg,gd _ _ (fun e=>hd (by rw [e]))]
   cases e <;> exact hput _
theorem jB.AV (H:jB P ops N l es s0 s1 aV) (id i:Nat) (h:∀ op e,l[i]?=some op→es[i]?=some e→id∉(iV op e).us):aB (fJ l es s0 (i+1)).h id=aB (fJ l es s0 i).h id:=by
 cases hi:l[i]? with
 | none=>
   have hlen:∀ (l:List bE) (es:List EN) (s:St) (i:Nat),l.length≤i→fJ l es s (i+1)=fJ l es s i:=by
    intro l
    induction l with
    | nil=>intro es s i _;cases i <;> rfl
    | cons op l ih=>
      intro es s i hi
      cases es with
      | nil=>cases i <;> rfl
      | cons e es=>
        cases i with
        | zero=>simp at hi
        | succ i=>simp only [fJ];exact ih es _ i (by simpa using hi)
   rw [hlen l es s0 i (List.getElem?_eq_none_iff.1 hi)]
 | some op=>
   obtain ⟨e,he,h2,h3⟩:=H.tr.at_ i op hi
   rw [h2]
   have hd:=h op e hi he
   cases e with
   | skip=>rfl
   | run args pre us sv=>
     obtain ⟨_,_,_,_,hk⟩:=h3
     show aB (lS (fJ l es s0 i).h us) id=_
     rw [(vn hk).1]
     exact sU (fun q hq he=>hd (List.mem_map.2 ⟨q,hq,he⟩))
theorem jB.ID (H:jB P ops N l es s0 s1 aV) {L:Nat→Bool} (hc:qw ops L) {j:Nat} {op:bE} {o:Oper} (hj:l[j]?=some op) (ho:ops[j]?=some o) (hL:L j=false) (hn:∀ k∈jL o,L k=true)
 {m:Nat} (hm:m∈oF op∨op.dst=some m) (i:Nat) (cj:bE) (hi:l[i]?=some cj) (hd:cj.dst=some m):(i<j→L i=true)∧(j<i→L i=false):=by
 obtain ⟨e,he,_⟩:=H.tr.at_ j op hj
 have hlen:=H.tr.length
 have fF:i<es.length:=by rw [hlen];exact (List.getElem?_eq_some_iff.1 hi).1
 have iS:=List.getElem?_eq_getElem fF
 have hdt:∀ e,(iV cj e).dst=some m:=fun e=>by cases e <;> exact hd
 have Fa:∀ e,(iV op e).fB=oF op:=fun e=>by cases e <;> rfl
 have EB:∀ e,(iV op e).dst=op.dst:=fun e=>by cases e <;> rfl
 refine ⟨fun hij=>?_,fun hji=>?_⟩
 ·rcases H.ok i j cj op _ e hij hi hj iS he with h | h
  ·exact H.xq hc j o ho hn i h
  ·exfalso
   simp only [mG,Bool.and_eq_true] at h
   have ha:=h.1.1.1.1
   rw [hdt] at ha
   rw [Fa,EB] at ha
   rcases hm with hm | hm
   ·simp [hm] at ha
   ·simp [hm] at ha
 ·cases AH:L i with
  | false=>rfl
  | true=>
    exfalso
    rcases H.ok j i op cj e _ hji hj hi he iS with h | h
    ·have kO:=Array.getElem?_eq_getElem (xs:=ops) (i:=i) (by rw [H.size,← hlen];exact fF)
     have:=H.xq hc i _ kO (hc i _ kO AH) j h
     rw [hL] at this;cases this
    ·simp only [mG,Bool.and_eq_true] at h
     have hb:=h.1.1.1.2
     have ha:=h.1.1.1.1
     rw [hdt] at hb
     rw [Fa] at hb
     rw [EB,hdt] at ha
     rcases hm with hm | hm
     ·simp [hm] at hb
     ·simp [hm] at ha
theorem jB.Ss (H:jB P ops N l es s0 s1 aV) {L:Nat→Bool} (hc:qw ops L) {en:Nat→SV} {hp:Hp} (I:Inv l es s0 L en hp) {j:Nat} {op:bE} {o:Oper} (hj:l[j]?=some op) (ho:ops[j]?=some o) (hL:L j=false) (hn:∀ k∈jL o,L k=true)
 {m:Nat} (hm:m∈oF op∨op.dst=some m):en m=lk (fJ l es s0 j).env m:=by
 obtain ⟨k,hk,h1,h2,h3⟩:=I.env m
 rw [h1]
 have hw:=H.ID hc hj ho hL hn hm
 by_cases yy:k≤j
 ·refine (uu (fun i=>lk (fJ l es s0 i).env m) (fun i=>∃ cj,l[i]?=some cj∧cj.dst=some m) (fun i hi=>H.As m i (fun op ho hd=>hi ⟨op,ho,hd⟩)) yy (fun i hi1 hi2 ⟨cj,ho,hd⟩=>?_)).symm
  have:=h3 i cj hi1 ho hd
  rw [(hw i cj ho hd).1 hi2] at this;cases this
 ·refine uu (fun i=>lk (fJ l es s0 i).env m) (fun i=>∃ cj,l[i]?=some cj∧cj.dst=some m) (fun i hi=>H.As m i (fun op ho hd=>hi ⟨op,ho,hd⟩)) (by omega) (fun i hi1 hi2 ⟨cj,ho,hd⟩=>?_)
  have:=h2 i cj hi2 ho hd
  by_cases hij:i=j
  ·subst hij;rw [hL] at this;cases this
  ·rw [(hw i cj ho hd).2 (by omega)] at this;cases this
theorem jB.IF (H:jB P ops N l es s0 s1 aV) {L:Nat→Bool} (hc:qw ops L) {j:Nat} {op:bE} {e:EN} {o:Oper} (hj:l[j]?=some op) (he:es[j]?=some e) (ho:ops[j]?=some o) (hL:L j=false) (hn:∀ k∈jL o,L k=true)
 {id:Nat} (hm:id∈(iV op e).pre∨id∈(iV op e).us) (i:Nat) (cj:bE) (ei:EN) (hi:l[i]?=some cj) (iS:es[i]?=some ei) (hd:id∈(iV cj ei).us):(i<j→L i=true)∧(j<i→L i=false):=by
 have hlen:=H.tr.length
 refine ⟨fun hij=>?_,fun hji=>?_⟩
 ·rcases H.ok i j cj op _ e hij hi hj iS he with h | h
  ·exact H.xq hc j o ho hn i h
  ·exfalso
   simp only [mG,Bool.and_eq_true] at h
   rcases hm with hm | hm
   ·exact xW h.1.1.2 hd hm
   ·exact xW h.1.2 hd hm
 ·cases AH:L i with
  | false=>rfl
  | true=>
    exfalso
    rcases H.ok j i op cj e _ hji hj hi he iS with h | h
    ·have fF:i<es.length:=(List.getElem?_eq_some_iff.1 iS).1
     have kO:=Array.getElem?_eq_getElem (xs:=ops) (i:=i) (by rw [H.size,← hlen];exact fF)
     have:=H.xq hc i _ kO (hc i _ kO AH) j h
     rw [hL] at this;cases this
    ·simp only [mG,Bool.and_eq_true] at h
     rcases hm with hm | hm
     ·exact xW h.2 hd hm
     ·exact xW h.1.2 hm hd
theorem jB.GY (H:jB P ops N l es s0 s1 aV) {L:Nat→Bool} (hc:qw ops L) {en:Nat→SV} {hp:Hp} (I:Inv l es s0 L en hp) {j:Nat} {op:bE} {e:EN} {o:Oper} (hj:l[j]?=some op) (he:es[j]?=some e) (ho:ops[j]?=some o) (hL:L j=false) (hn:∀ k∈jL o,L k=true)
 {id:Nat} (hm:id∈(iV op e).pre∨id∈(iV op e).us):hp id=aB (fJ l es s0 j).h id:=by
 obtain ⟨k,hk,h1,h2,h3⟩:=I.heap id
 rw [h1]
 have hw:=H.IF hc hj he ho hL hn hm
 by_cases yy:k≤j
 ·refine (uu (fun i=>aB (fJ l es s0 i).h id) (fun i=>∃ cj ei,l[i]?=some cj∧es[i]?=some ei∧id∈(iV cj ei).us) (fun i hi=>H.AV id i (fun op e ho he hd=>hi ⟨op,e,ho,he,hd⟩)) yy (fun i hi1 hi2 ⟨cj,ei,ho,iS,hd⟩=>?_)).symm
  have:=h3 i cj ei hi1 ho iS hd
  rw [(hw i cj ei ho iS hd).1 hi2] at this;cases this
 ·refine uu (fun i=>aB (fJ l es s0 i).h id) (fun i=>∃ cj ei,l[i]?=some cj∧es[i]?=some ei∧id∈(iV cj ei).us) (fun i hi=>H.AV id i (fun op e ho he hd=>hi ⟨op,e,ho,he,hd⟩)) (by omega) (fun i hi1 hi2 ⟨cj,ei,ho,iS,hd⟩=>?_)
  have:=h2 i cj ei hi2 ho iS hd
  by_cases hij:i=j
  ·subst hij;rw [hL] at this;cases this
  ·rw [(hw i cj ei ho iS hd).2 (by omega)] at this;cases this
def lQ (L:Nat→Bool) (j:Nat):Nat→Bool:=fun i=>if i=j then true else L i
theorem jB.Fp (H:jB P ops N l es s0 s1 aV) {L:Nat→Bool} (hc:qw ops L) {en:Nat→SV} {hp:Hp} (I:Inv l es s0 L en hp) {j:Nat} {op:bE} {e:EN} {o:Oper} (hj:l[j]?=some op) (he:es[j]?=some e) (ho:ops[j]?=some o) (hL:L j=false) (hn:∀ k∈jL o,L k=true)
 {pV:Nat→SV} {aD:Hp} (h1:∀ m,op.dst=some m→pV m=lk (fJ l es s0 (j+1)).env m) (h2:∀ m,op.dst≠some m→pV m=en m) (h3:∀ id,id∈(iV op e).us→aD id=aB (fJ l es s0 (j+1)).h id) (h4:∀ id,id∉(iV op e).us→aD id=hp id) :
 Inv l es s0 (lQ L j) pV aD:=by
 have hjl:=(List.getElem?_eq_some_iff.1 hj).1
 have zE:∀ i,L i=true→lQ L j i=true:=fun i h=>by unfold lQ;split <;> simp [h]
 refine ⟨fun m=>?_,fun id=>?_⟩
 ·by_cases hm:op.dst=some m
  ·have hw:=H.ID hc hj ho hL hn (.inr hm)
   refine ⟨j+1,by omega,h1 m hm,fun i cj hi ho hd=>?_,fun i cj hi ho hd=>?_⟩
   ·by_cases hij:i=j
    ·subst hij;simp [lQ]
    ·exact zE i ((hw i cj ho hd).1 (by omega))
   ·unfold lQ
    rw [if_neg (by omega)]
    exact (hw i cj ho hd).2 (by omega)
  ·obtain ⟨k,g1,g2,g3,g4⟩:=I.env m
   refine ⟨k,g1,(h2 m hm).trans g2,fun i cj hi ho hd=>zE i (g3 i cj hi ho hd),fun i cj hi kO hd=>?_⟩
   unfold lQ
   by_cases hij:i=j
   ·subst hij;rw [hj] at kO;cases kO;exact absurd hd hm
   ·rw [if_neg hij];exact g4 i cj hi kO hd
 ·by_cases hm:id∈(iV op e).us
  ·have hw:=H.IF hc hj he ho hL hn (.inr hm)
   refine ⟨j+1,by omega,h3 id hm,fun i cj ei hi ho iS hd=>?_,fun i cj ei hi ho iS hd=>?_⟩
   ·by_cases hij:i=j
    ·subst hij;simp [lQ]
    ·exact zE i ((hw i cj ei ho iS hd).1 (by omega))
   ·unfold lQ
    rw [if_neg (by omega)]
    exact (hw i cj ei ho iS hd).2 (by omega)
  ·obtain ⟨k,g1,g2,g3,g4⟩:=I.heap id
   refine ⟨k,g1,(h4 id hm).trans g2,fun i cj ei hi ho iS hd=>zE i (g3 i cj ei hi ho iS hd),fun i cj ei hi kO iS hd=>?_⟩
   unfold lQ
   by_cases hij:i=j
   ·subst hij;rw [hj] at kO;cases kO;rw [he] at iS;cases iS;exact absurd hd hm
   ·rw [if_neg hij];exact g4 i cj ei hi kO iS hd
theorem jB.NO (H:jB P ops N l es s0 s1 aV) {L:Nat→Bool} {en:Nat→SV} {hp:Hp} (I:Inv l es s0 L en hp) (hall:∀ i,i<l.length→L i=true):en=lk s1.env∧hp=aB s1.h:=by
 have EO:=H.tr.last
 refine ⟨funext fun m=>?_,funext fun id=>?_⟩
 ·obtain ⟨k,g1,g2,g3,g4⟩:=I.env m
  rw [g2,← EO]
  refine (uu (fun i=>lk (fJ l es s0 i).env m) (fun i=>∃ cj,l[i]?=some cj∧cj.dst=some m) (fun i hi=>H.As m i (fun op ho hd=>hi ⟨op,ho,hd⟩)) g1 (fun i hi1 hi2 ⟨cj,ho,hd⟩=>?_)).symm
  have:=g4 i cj hi1 ho hd
  rw [hall i hi2] at this;cases this
 ·obtain ⟨k,g1,g2,g3,g4⟩:=I.heap id
  rw [g2,← EO]
  refine (uu (fun i=>aB (fJ l es s0 i).h id) (fun i=>∃ cj ei,l[i]?=some cj∧es[i]?=some ei∧id∈(iV cj ei).us) (fun i hi=>H.AV id i (fun op e ho he hd=>hi ⟨op,e,ho,he,hd⟩)) g1 (fun i hi1 hi2 ⟨cj,ei,ho,iS,hd⟩=>?_)).symm
  have:=g4 i cj ei hi1 ho iS hd
  rw [hall i hi2] at this;cases this
def Lf (listed:Array Bool) (i:Nat):Bool:=listed.getD i false
theorem Cf {listed:Array Bool} (hs:listed.size=ops.size) {i:Nat}:i∈Region.ready .any ops listed↔i<ops.size∧Lf listed i=false∧∀ o,ops[i]?=some o→∀ k∈jL o,Lf listed k=true:=by
 unfold Region.ready
 rw [List.mem_filter,List.mem_range]
 constructor
 ·rintro ⟨h1,h2⟩
  simp only [Bool.and_eq_true,Bool.not_eq_true'] at h2
  refine ⟨h1,?_,fun o ho k hk=>?_⟩
  ·have:=h2.1
   simp only [Lf,Array.getD_eq_getD_getElem?] at this ⊢
   cases hx:listed[i]? with
   | none=>simp [hx] at this
   | some x=>simp [hx] at this ⊢;exact this
  ·have h3:=h2.2
   rw [ho] at h3
   simp only [Option.map_some,Option.getD_some,Array.all_eq_true'] at h3
   unfold jL at hk
   obtain ⟨e,he,rfl⟩:=List.mem_map.1 hk
   obtain ⟨sw,MN⟩:=List.mem_filter.1 he
   have:=h3 e (by simpa using sw)
   simp [MN] at this
   simpa [Lf] using this
 ·rintro ⟨h1,h2,h3⟩
  refine ⟨h1,?_⟩
  have ho:=Array.getElem?_eq_getElem h1
  simp only [Bool.and_eq_true,Bool.not_eq_true']
  refine ⟨?_,?_⟩
  ·simp only [Lf,Array.getD_eq_getD_getElem?] at h2 ⊢
   have hx:=Array.getElem?_eq_getElem (xs:=listed) (i:=i) (by omega)
   rw [hx] at h2 ⊢
   exact h2
  ·rw [ho]
   simp only [Option.map_some,Option.getD_some,Array.all_eq_true']
   intro e he
   cases hb:Region.binds .any e with
   | false=>simp
   | true=>
     have:=h3 _ ho e.on (List.mem_map.2 ⟨e,List.mem_filter.2 ⟨by simpa using he,hb⟩,rfl⟩)
     simpa [Lf] using this
theorem Rr {xs:List XO} {n:Nat} (h:XO.t n∈xs):n∈nH xs:=by
 induction xs with
 | nil=>simp at h
 | cons x r ih=>
   rcases List.mem_cons.1 h with rfl | h'
   ·simp [nH]
   ·cases x with
    | t m=>simp [nH,ih h']
    | c s=>exact ih h'
theorem KW {en pV:Nat→SV} {xs:List XO} (h:∀ n,n∈nH xs→en n=pV n):xs.map (iY en)=xs.map (iY pV):=by
 refine List.map_congr_left (fun x hx=>?_)
 cases x with
 | t n=>exact h n (Rr hx)
 | c s=>rfl
theorem Lx {en pV:Nat→SV} {op:bE} (h:∀ n,n∈oF op→en n=pV n):kN en op.guard=kN pV op.guard:=by
 cases hg:op.guard with
 | none=>rfl
 | some q=>
   obtain ⟨d,b⟩:=q
   simp only [kN]
   rw [h d (by simp [oF,hg])]
theorem SP (H:jB P ops N l es s0 s1 aV) {C:Ctx} (hN:C.N=N) {n0:Nat} (hn0:n0≤s0.h.length) (MW:∀ id,n0≤id→C.h0 id=none) {Q:Exit→Act→World→Prop} (hQ:∀ a w aa,jQ C (lk s1.env) (aB s1.h) a w aa→Q .normal a w) :
 ∀ (fuel:Nat) (listed:Array Bool) (en:Nat→SV) (hp:Hp) (a:Act) (w:World) (aa:Nat→Option Nat),listed.size=ops.size→cnt (Lf listed) l.length≤fuel→qw ops (Lf listed)→Inv l es s0 (Lf listed) en hp→jQ C en hp a w aa→
  wpAny P .any ops Q fuel listed a w:=by
 have MD:∀ listed:Array Bool,listed.size=ops.size→Region.ready .any ops listed=[]→∀ i,i<l.length→Lf listed i=true:=fun listed hs hr i=>by
  induction i using Nat.strongRecOn with
  | _ i ih=>
    intro hi
    cases hL:Lf listed i with
    | true=>rfl
    | false=>
      have:i∈Region.ready .any ops listed:=(Cf hs).2 ⟨by rw [H.size];exact hi,hL,fun o ho k hk=>ih k (H.back i o ho k hk) (by have:=H.back i o ho k hk;omega)⟩
      rw [hr] at this;cases this
 have vm:∀ (listed:Array Bool) (en:Nat→SV) (hp:Hp) (a:Act) (w:World) (aa:Nat→Option Nat),(∀ i,i<l.length→Lf listed i=true)→Inv l es s0 (Lf listed) en hp→jQ C en hp a w aa→Q .normal a w:=fun listed en hp a w aa hall I R=>by
  obtain ⟨rfl,rfl⟩:=H.NO I hall
  exact hQ a w aa R
 intro fuel
 induction fuel with
 | zero=>
   intro listed en hp a w aa hs vi hc I R
   have hall:=DE (Nat.le_zero.1 vi)
   refine ⟨?_,vm listed en hp a w aa hall I R⟩
   cases hr:Region.ready .any ops listed with
   | nil=>rfl
   | cons i r=>
     have hm:i∈Region.ready .any ops listed:=by rw [hr];simp
     obtain ⟨h1,h2,_⟩:=(Cf hs).1 hm
     rw [hall i (by rw [← H.size];exact h1)] at h2;cases h2
 | succ fuel ih=>
   intro listed en hp a w aa hs vi hc I R
   refine ⟨fun hr=>vm listed en hp a w aa (MD listed hs hr) I R,fun j hj=>?_⟩
   obtain ⟨EI,hL,hn⟩:=(Cf hs).1 hj
   have hjl:j<l.length:=by rw [← H.size];exact EI
   have hop:=List.getElem?_eq_getElem hjl
   obtain ⟨o,ho,mh⟩:=H.comp j _ hop
   obtain ⟨e,he,hst,Fb⟩:=H.tr.at_ j _ hop
   obtain ⟨gz,qL,lH,tJ,tK⟩:=Ab mh
   have hn':=hn o ho
   have hrd:∀ m,m∈oF l[j]→en m=lk (fJ l es s0 j).env m:=fun m hm=>H.Ss hc I hop ho hL hn' (.inl hm)
   have EH:=Lx hrd
   have yh:Lf (listed.setIfInBounds j true)=lQ (Lf listed) j:=by
    funext i
    simp only [Lf,lQ,Array.getD_eq_getD_getElem?,Array.getElem?_setIfInBounds]
    by_cases hij:j=i
    ·subst hij;simp [hs,EI]
    ·rw [if_neg hij,if_neg (Ne.symm hij)]
   have Ey:cnt (Lf (listed.setIfInBounds j true)) l.length≤fuel:=by
    rw [yh]
    have:=DD (L:=Lf listed) (L':=lQ (Lf listed) j) hL (by simp [lQ]) (fun i hi=>by simp [lQ,hi]) hjl
    omega
   have nk:qw ops (Lf (listed.setIfInBounds j true)):=by
    rw [yh]
    intro i oi kO hi k hk
    unfold lQ at hi ⊢
    by_cases hij:i=j
    ·subst hij
     rw [ho] at kO;cases kO
     split
     ·rfl
     ·exact hn' k hk
    ·rw [if_neg hij] at hi
     split
     ·rfl
     ·exact hc i oi kO hi k hk
   unfold wpOp
   rw [ho]
   simp only
   cases e with
   | skip=>
     have hg:kN en l[j].guard=some false:=by rw [EH];exact Fb
     have hw:=AG R mh hg
     rw [if_neg (by rw [hw];simp)]
     have AU:∀ m,l[j].dst=some m→m<C.N:=fun m hm=>by rw [hN];exact tK m hm
     have R':jQ C (match l[j].dst with | some d=>up en d (.aP []) | none=>en) hp (a.put o.dst undef) w aa:=by
      rw [tJ]
      cases hd:l[j].dst with
      | none=>exact R
      | some d=>exact R.put (AU d hd) Hi
     refine ih _ _ _ _ _ _ (by simpa using hs) Ey nk ?_ R'
     rw [yh]
     refine H.Fp hc I hop he ho hL hn' (fun m hm=>?_) (fun m hm=>?_) (fun id hid=>by simp [iV] at hid) (fun id _=>rfl)
     ·rw [hst]
      show _=lk (fZ l[j].dst (.aP []) (fJ l es s0 j).env) m
      rw [hm];simp only [fZ,wg,cn]
     ·cases hd:l[j].dst with
      | none=>rfl
      | some d=>rw [hd] at hm;exact gd _ _ (fun e=>hm (by rw [e]))
   | run args pre us sv=>
     obtain ⟨t1,t2,t3,t4,t5⟩:=Fb
     have hg:kN en l[j].guard=some true:=by rw [EH];exact t1
     have hw:=AG R mh hg
     rw [if_pos hw]
     left
     have Nm:∀ m,m∈nH l[j].xs→en m=lk (fJ l es s0 j).env m:=fun m hm=>hrd m (by
      unfold oF
      cases l[j].guard with
      | none=>exact hm
      | some q=>exact List.mem_cons_of_mem _ hm)
     have hargs:args=l[j].xs.map (iY en):=by rw [t2];exact (KW Nm).symm
     have hpre:∀ id,id∈pre.map (·.1)→hp id=aB (fJ l es s0 j).h id:=fun id hid=>H.GY hc I hop he ho hL hn' (.inl hid)
     have jX:∀ id,id∈us.map (·.1)→hp id=aB (fJ l es s0 j).h id:=fun id hid=>H.GY hc I hop he ho hL hn' (.inr hid)
     have VL:=Ii P ops H.tr j (by omega)
     have hnew:rO C hp pre us:=by
      have gen:∀ {us:List (Nat×HB)} {h:List (Option HB)},(fJ l es s0 j).h.length≤h.length→bh pre h us→∀ q∈us,(∃ hb,(q.1,hb)∈pre)∨(fJ l es s0 j).h.length≤q.1:=by
       intro us
       induction us with
       | nil=>intro h _ _ q hq;simp at hq
       | cons p r NB=>
         intro h hl hk q hq
         rcases List.mem_cons.1 hq with rfl | hq
         ·rcases hk.1 with h1 | ⟨_,h1⟩
          ·exact .inr (by omega)
          ·exact .inl h1
         ·exact NB (h:=aR h p) (by have:=uD h p;omega) hk.2 q hq
      intro q hq
      rcases gen (Nat.le_refl _) t5 q hq with h | h
      ·exact .inl h
      ·refine .inr ⟨?_,MW _ (by omega)⟩
       rw [jX q.1 (List.mem_map.2 ⟨q,hq,rfl⟩)]
       unfold aB
       rw [List.getElem?_eq_none (by omega)]
     refine t3 o (by simpa using ho) C hp w aa a _ _ _ _ qL (fun q hq=>?_) hnew R.mem (by rw [hargs];exact xp R lH) (fun v w' aH hS hR=>?_)
     ·rw [hpre q.1 (List.mem_map.2 ⟨q,hq,rfl⟩)];exact t4 q hq
     ·have AU:∀ m,l[j].dst=some m→m<C.N:=fun m hm=>by rw [hN];exact tK m hm
      have R':jQ C (match l[j].dst with | some d=>up en d sv | none=>en) (bM hp us) (a.put o.dst v) w' aH:=by
       rw [tJ]
       have RS:=R.step hS
       cases hd:l[j].dst with
       | none=>exact RS
       | some d=>exact RS.put (AU d hd) hR
      refine ih _ _ _ _ _ _ (by simpa using hs) Ey nk ?_ R'
      rw [yh]
      refine H.Fp hc I hop he ho hL hn' (fun m hm=>?_) (fun m hm=>?_) (fun id hid=>?_) (fun id hid=>?_)
      ·rw [hst]
       show _=lk (fZ l[j].dst sv (fJ l es s0 j).env) m
       rw [hm];simp only [fZ,wg,cn]
      ·cases hd:l[j].dst with
       | none=>rfl
       | some d=>rw [hd] at hm;exact gd _ _ (fun e=>hm (by rw [e]))
      ·rw [hst]
       show _=aB (lS (fJ l es s0 j).h us) id
       rw [(vn t5).1]
       exact wO hid
      ·exact sU (fun q hq he=>hid (List.mem_map.2 ⟨q,hq,he⟩))
end
end Go.aJ

namespace Go.aJ
open Go
def nN:List Oper→List Nat→List Nat
 | [],acc=>acc
 | o::r,acc=>nN r (acc++[(jL o).foldl (fun m k=>m ||| 2 ^ k ||| acc.getD k 0) 0])
theorem Ek (acc:List Nat) (k:Nat):∀ (l:List Nat) (m:Nat),(l.foldl (fun m k=>m ||| 2 ^ k ||| acc.getD k 0) m).testBit k=true→m.testBit k=true∨k∈l∨∃ x∈l,(acc.getD x 0).testBit k=true
 | [],m,h=>.inl h
 | x::l,m,h=>by
   rw [List.foldl_cons] at h
   rcases Ek acc k l _ h with h | h | ⟨y,hy,h⟩
   ·rw [Nat.testBit_or,Nat.testBit_or,Nat.testBit_two_pow] at h
    simp only [Bool.or_eq_true,decide_eq_true_eq] at h
    rcases h with (h | h) | h
    ·exact .inl h
    ·exact .inr (.inl (by simp [h]))
    ·exact .inr (.inr ⟨x,by simp,h⟩)
   ·exact .inr (.inl (by simp [h]))
   ·exact .inr (.inr ⟨y,by simp [hy],h⟩)
theorem zO:∀ (ops:List Oper) (acc:List Nat) (x:Nat),x<acc.length→(nN ops acc).getD x 0=acc.getD x 0
 | [],acc,x,_=>rfl
 | o::r,acc,x,h=>by
   unfold nN
   rw [zO r _ x (by simp;omega)]
   simp only [List.getD_eq_getElem?_getD,List.getElem?_append_left h]
theorem Db:∀ (ops:List Oper) (acc:List Nat) (i:Nat) (o:Oper),ops[i]?=some o→∀ k,((nN ops acc).getD (acc.length+i) 0).testBit k=true→k∈jL o∨∃ x∈jL o,((nN ops acc).getD x 0).testBit k=true
 | [],acc,i,o,h,k,_=>by simp at h
 | p::r,acc,i,o,h,k,hk=>by
   cases i with
   | zero=>
     simp only [List.getElem?_cons_zero,Option.some.injEq] at h
     subst h
     unfold nN at hk ⊢
     rw [zO r _ _ (by simp)] at hk
     simp only [Nat.add_zero,List.getD_eq_getElem?_getD,List.getElem?_concat_length,Option.getD_some] at hk
     rcases Ek acc k (jL p) 0 (by simpa [List.getD_eq_getElem?_getD] using hk) with hk | hk | ⟨x,hx,hk⟩
     ·simp at hk
     ·exact .inl hk
     ·refine .inr ⟨x,hx,?_⟩
      have hl:x<acc.length:=by
       by_cases hl:x<acc.length
       ·exact hl
       ·rw [List.getD_eq_getElem?_getD,List.getElem?_eq_none (by omega)] at hk;simp at hk
      rw [zO r _ x (by simp;omega)]
      simp only [List.getD_eq_getElem?_getD,List.getElem?_append_left hl]
      simpa [List.getD_eq_getElem?_getD] using hk
   | succ i=>
     unfold nN at hk ⊢
     refine Db r _ i o (by simpa using h) k ?_
     have:(acc++[(jL p).foldl (fun m k=>m ||| 2 ^ k ||| acc.getD k 0) 0]).length+i=acc.length+(i+1):=by simp;omega
     rw [this];exact hk
def qG (aV:List Nat) (i:Nat) (x:TE):Nat→List TE→Bool
 | _,[]=>true
 | j,y::r=>((aV.getD j 0).testBit i || mG x y) && qG aV i x (j+1) r
def oT (aV:List Nat):Nat→List TE→Bool
 | _,[]=>true
 | i,x::r=>qG aV i x (i+1) r && oT aV (i+1) r
theorem DH {aV:List Nat} {i:Nat} {x:TE}:∀ {l:List TE} {j:Nat},qG aV i x j l=true→∀ (k:Nat) (y:TE),l[k]?=some y→(aV.getD (j+k) 0).testBit i=true∨mG x y=true
 | [],j,_,k,y,h=>by simp at h
 | z::r,j,hc,k,y,h=>by
   simp only [qG,Bool.and_eq_true,Bool.or_eq_true] at hc
   cases k with
   | zero=>simp at h;subst h;exact hc.1
   | succ k=>
     have:=DH hc.2 k y (by simpa using h)
     rwa [show j+1+k=j+(k+1) by omega] at this
theorem DI {aV:List Nat}:∀ {l:List TE} {i:Nat},oT aV i l=true→∀ (a b:Nat) (x y:TE),a<b→l[a]?=some x→l[b]?=some y→(aV.getD (i+b) 0).testBit (i+a)=true∨mG x y=true
 | [],i,_,a,b,x,y,_,h,_=>by simp at h
 | z::r,i,hc,a,b,x,y,hab,hx,hy=>by
   simp only [oT,Bool.and_eq_true] at hc
   cases b with
   | zero=>omega
   | succ b=>
     simp only [List.getElem?_cons_succ] at hy
     cases a with
     | zero=>
       simp at hx;subst hx
       have:=DH hc.1 b y hy
       rwa [show i+1+b=i+(b+1) by omega] at this
     | succ a=>
       simp only [List.getElem?_cons_succ] at hx
       have:=DI hc.2 a b x y (by omega) hx hy
       rwa [show i+1+b=i+(b+1) by omega,show i+1+a=i+(a+1) by omega] at this
def zP (n:Nat) (aV:List Nat):List (List Nat):=aV.map fun m=>(List.range n).filter fun k=>m.testBit k
theorem BO {n:Nat} {aV:List Nat} {i k:Nat}:k∈(zP n aV).getD i []↔k<n∧(aV.getD i 0).testBit k=true:=by
 unfold zP
 rw [List.getD_eq_getElem?_getD,List.getElem?_map,List.getD_eq_getElem?_getD]
 cases h:aV[i]? with
 | none=>simp
 | some m=>simp
def uM:Nat→List Oper→Bool
 | _,[]=>true
 | i,o::r=>(jL o).all (·< i) && uM (i+1) r
theorem CZ:∀ {ops:List Oper} {i:Nat},uM i ops=true→∀ (j:Nat) (o:Oper),ops[j]?=some o→∀ k∈jL o,k<i+j
 | [],i,_,j,o,h,_,_=>by simp at h
 | p::r,i,hb,j,o,h,k,hk=>by
   simp only [uM,Bool.and_eq_true,List.all_eq_true,decide_eq_true_eq] at hb
   cases j with
   | zero=>simp at h;subst h;exact hb.1 k hk
   | succ j=>have:=CZ hb.2 j o (by simpa using h) k hk;omega
def CF:Option (Nat×HB)→List Nat
 | none=>[]
 | some q=>[q.1]
def oM (P:Program) (f:FuncId) (args:List SV) (h:List (Option HB)) (K:SV→List (Option HB)→List Nat→List Nat→Prop):Prop:=
 ∃ pre us sv,aG P f args pre us sv∧aU (aB h) pre∧bh pre h us∧K sv (lS h us) (pre.map (·.1)) (us.map (·.1))
def xH (P:Program) (h:List (Option HB)) (K:SV→List (Option HB)→List Nat→List Nat→Prop):List SV→Prop
 | .fn f caps::args=>oM P f (args++caps) h K
 | .fE f caps::args=>oM P f (caps++args) h K
 | _=>False
def vP (P:Program) (name:String) (h:List (Option HB)) (K:SV→List (Option HB)→List Nat→List Nat→Prop):List SV→Prop
 | s::args=>match ov s with
   | some (t,x)=>match ox P t name with
     | some (f,none)=>oM P f (x::args) h K
     | some (f,some (n,agg))=>match ia n agg (aB h) x with
       | some (p,y,_,rd)=>p∧oM P f (y::args) h fun sv h' pre us=>K sv h' (rd++pre) us
       | none=>False
     | none=>False
   | none=>False
 | _=>False
def zf (h:List (Option HB)) (K:SV→List (Option HB)→List Nat→List Nat→Prop):XR→Prop
 | some (p,sv,u,rd)=>p∧K sv (wN h u) rd (CF u)
 | none=>False
def sL (P:Program) (ao:AO) (args:List SV) (h:List (Option HB)) (K:SV→List (Option HB)→List Nat→List Nat→Prop):Prop:=
 match ao with
 | .call f=>oM P f args h K
 | .nR=>xH P h K args
 | .inv name=>vP P name h K args
 | ao=>zf h K (bX ao args (aB h) h.length)
def RD (P:Program) (aV:List Nat) (K:St→Prop):List bE→List TE→St→Prop
 | [],acc,s=>oT aV 0 acc=true∧K s
 | op::r,acc,s=>match kN (lk s.env) op.guard with
   | some true=>sL P op.ao (op.xs.map (iY (lk s.env))) s.h fun sv h' pre us=>RD P aV K r (acc++[⟨oF op,op.dst,pre,us⟩]) ⟨fZ op.dst sv s.env,h'⟩
   | some false=>RD P aV K r (acc++[⟨oF op,op.dst,[],[]⟩]) ⟨fZ op.dst (.aP []) s.env,s.h⟩
   | none=>False
theorem Cd {hp:Hp}:∀ {rd:List Nat},(∀ id∈rd,(hp id).isSome=true)→(rd.filterMap fun id=>(hp id).map fun hb=>(id,hb)).map (·.1)=rd
 | [],_=>rfl
 | x::r,h=>by
   obtain ⟨hb,hx⟩:=Option.isSome_iff_exists.1 (h x (by simp))
   simp only [List.filterMap_cons,hx,Option.map_some,List.map_cons]
   rw [Cd (fun id hid=>h id (by simp [hid]))]
theorem RG {P:Program} {o:Oper} {ao:AO} {gz:List Operand} (hc:kM P o.op=some (ao,gz)) {args:List SV} {h:List (Option HB)} {K:SV→List (Option HB)→List Nat→List Nat→Prop} (hW:sL P ao args h K) :
 ∃ pre us sv,oO P o args pre us sv∧aU (aB h) pre∧bh pre h us∧K sv (lS h us) (pre.map (·.1)) (us.map (·.1)):=by
 unfold sL at hW
 split at hW
 ·obtain ⟨pre,us,sv,h1,h2,h3,h4⟩:=hW
  exact ⟨pre,us,sv,GF hc h1,h2,h3,h4⟩
 ·unfold xH at hW
  split at hW
  ·obtain ⟨pre,us,sv,h1,h2,h3,h4⟩:=hW
   exact ⟨pre,us,sv,GH hc h1,h2,h3,h4⟩
  ·obtain ⟨pre,us,sv,h1,h2,h3,h4⟩:=hW
   exact ⟨pre,us,sv,GG hc h1,h2,h3,h4⟩
  ·exact hW.elim
 ·unfold vP at hW
  split at hW
  ·rename_i s iO
   split at hW
   ·rename_i t x hi
    split at hW
    ·rename_i f hf
     obtain ⟨pre,us,sv,h1,h2,h3,h4⟩:=hW
     exact ⟨pre,us,sv,BV hc hi hf (y:=x) (fun hp hP=>rfl) (fun q hq=>hq) h1 (fun C hp hn _=>hn),h2,h3,h4⟩
    ·rename_i f n agg hf
     split at hW
     ·rename_i p y u rd hE
      obtain ⟨aD,pre,us,sv,h1,h2,h3,h4⟩:=hW
      obtain ⟨g1,g2,g3⟩:=Fo hc hi hf hE aD h1 h2 h3
      refine ⟨_,us,sv,g1,g2,g3,?_⟩
      rw [List.map_append]
      have:(uj h rd).map (·.1)=rd:=Cd (fun id hid=>Gf hE id hid)
      rw [this];exact h4
     ·exact hW.elim
    ·exact hW.elim
   ·exact hW.elim
  ·exact hW.elim
 ·unfold zf at hW
  split at hW
  ·rename_i p sv u rd hE
   obtain ⟨hp,hK⟩:=hW
   have om:aB h h.length=none:=by unfold aB;rw [List.getElem?_eq_none (Nat.le_refl _)]
   have ur:=BU hE
   refine ⟨_,wM u,sv,GI hc hE hp om,fun q hq=>?_,?_,?_⟩
   ·obtain ⟨id,_,hid⟩:=List.mem_filterMap.1 hq
    cases fO:aB h id with
    | none=>simp [fO] at hid
    | some hb=>simp [fO] at hid;subst hid;exact fO
   ·cases u with
    | none=>trivial
    | some q=>
      refine ⟨?_,trivial⟩
      rcases ur.1 q rfl with h1 | h1
      ·exact .inl h1
      ·right
       have hs:=ur.2 _ h1
       obtain ⟨hb,pe⟩:=Option.isSome_iff_exists.1 hs
       refine ⟨?_,hb,List.mem_filterMap.2 ⟨q.1,h1,by simp [pe]⟩⟩
       unfold aB at pe
       cases hl:h[q.1]? with
       | none=>simp [hl] at pe
       | some x=>exact (List.getElem?_eq_some_iff.1 hl).1
   ·have:=Cd (hp:=aB h) (rd:=rd) (fun id hid=>ur.2 id hid)
    rw [this]
    cases u with
    | none=>exact hK
    | some q=>exact hK
  ·exact hW.elim
def rA:List bE→List EN→List TE
 | op::l,e::es=>iV op e::rA l es
 | _,_=>[]
theorem CC:∀ {l:List bE} {es:List EN} {a:Nat} {op:bE} {e:EN},l[a]?=some op→es[a]?=some e→(rA l es)[a]?=some (iV op e)
 | [],es,a,op,e,h,_=>by simp at h
 | _::_,[],a,op,e,_,h=>by simp at h
 | p::l,q::es,a,op,e,h1,h2=>by
   cases a with
   | zero=>simp at h1 h2;subst h1;subst h2;rfl
   | succ a=>simp only [rA,List.getElem?_cons_succ] at h1 h2 ⊢;exact CC h1 h2
theorem Ce {P:Program} {ops:Array Oper} {N:Nat} {aV:List Nat} {K:St→Prop}:∀ (l:List bE) (i:Nat) (acc:List TE) (s:St),(∀ (j:Nat) (op:bE),l[j]?=some op→∃ o,ops[i+j]?=some o∧ni P ops N o=some op)→RD P aV K l acc s→
 ∃ es s',Tr P ops i l s es s'∧oT aV 0 (acc++rA l es)=true∧K s'
 | [],i,acc,s,_,h=>⟨[],s,rfl,by simpa [rA] using h.1,h.2⟩
 | op::l,i,acc,s,hc,h=>by
   have nk:∀ (j:Nat) (op:bE),l[j]?=some op→∃ o,ops[i+1+j]?=some o∧ni P ops N o=some op:=fun j op' hj=>by
    have:=hc (j+1) op' (by simpa using hj)
    rwa [show i+(j+1)=i+1+j by omega] at this
   obtain ⟨o,ho,mh⟩:=hc 0 op rfl
   rw [Nat.add_zero] at ho
   obtain ⟨gz,qL,lH,tJ,tK⟩:=Ab mh
   unfold RD at h
   split at h
   ·rename_i hg
    obtain ⟨pre,us,sv,h1,h2,h3,h4⟩:=RG qL h
    obtain ⟨es,s',g1,g2,g3⟩:=Ce l (i+1) _ _ nk h4
    refine ⟨.run (op.xs.map (iY (lk s.env))) pre us sv::es,s',⟨⟨hg,rfl,fun o' ho'=>?_,h2,h3⟩,g1⟩,?_,g3⟩
    ·rw [ho] at ho';cases ho';exact h1
    ·simpa [rA,iV] using g2
   ·rename_i hg
    obtain ⟨es,s',g1,g2,g3⟩:=Ce l (i+1) _ _ nk h
    exact ⟨.skip::es,s',⟨hg,g1⟩,by simpa [rA,iV] using g2,g3⟩
   ·exact h.elim
theorem Sr {P:Program} {C:Ctx} {n0:Nat} {ops:Array Oper} {K:St→Prop} {Q:Exit→Act→World→Prop} {l:List bE} (hm:P.follows .mixedOrders=true) (hsz:ops.size=l.length) (Ez:∀ (j:Nat) (op:bE),l[j]?=some op→∃ o,ops[j]?=some o∧ni P ops C.N o=some op)
 (ME:uM 0 ops.toList=true) {s:St} {a:Act} {w:World} (h:RD P (nN ops.toList []) K l [] s) (R:jv C n0 s a w) (hK:∀ s a w,K s→jv C n0 s a w→Q .normal a w) (id:Nat):(Code.region id ops true).wp P Q a w:=by
 refine wp_region_any hm ?_
 obtain ⟨es,s',h1,h2,h3⟩:=Ce l 0 [] s (fun j op hj=>by rw [Nat.zero_add];exact Ez j op hj) h
 have H:jB P ops C.N l es s s' (zP l.length (nN ops.toList [])):=by
  refine ⟨h1,hsz,Ez,fun i o ho k hk=>?_,fun i o ho k hk=>?_,fun x y BW BX ea eb hxy ha hb MO MP=>?_⟩
  ·have:=CZ ME i o (by simpa using ho) k hk;omega
  ·obtain ⟨gF,hk⟩:=BO.1 hk
   have:=Db ops.toList [] i o (by simpa using ho) k (by simpa using hk)
   rcases this with g | ⟨x,hx,g⟩
   ·exact ⟨jL o,fun x hx=>hx,.inl g⟩
   ·exact ⟨jL o,fun x hx=>hx,.inr ⟨x,hx,BO.2 ⟨gF,g⟩⟩⟩
  ·have:=DI (aV:=nN ops.toList []) (l:=rA l es) (i:=0) (by simpa using h2) x y _ _ hxy (CC ha MO) (CC hb MP)
   rw [Nat.zero_add,Nat.zero_add] at this
   refine this.imp (fun h=>BO.2 ⟨(List.getElem?_eq_some_iff.1 ha).1,h⟩) (fun h=>h)
 have hlen:=h1.length
 obtain ⟨aa,RF⟩:=R.rep
 have hst:=Ii P ops h1 l.length (Nat.le_refl _)
 rw [h1.last] at hst
 have kY:jQ C (lk s.env) (aB s.h) a { w with drawn:=w.drawn+1 } aa:=RF.step (RF.mem.quiet (w':={ w with drawn:=w.drawn+1 }) rfl rfl rfl rfl)
 refine SP H rfl R.vX R.h0 (fun a w aa RF=>hK s' a w h3 ⟨⟨aa,RF⟩,Nat.le_trans R.vX hst,R.h0⟩) ops.size _ (lk s.env) (aB s.h) a _ aa (by simp) ?_ ?_ ?_ kY
 ·rw [hsz];exact DB _ _
 ·intro i o ho hL
  exfalso
  simp only [Lf,Array.getD_eq_getD_getElem?,Array.getElem?_replicate] at hL
  split at hL <;> simp at hL
 ·have hf:∀ i,Lf (Array.replicate ops.size false) i=false:=fun i=>by
   simp only [Lf,Array.getD_eq_getD_getElem?,Array.getElem?_replicate]
   split <;> simp
  refine ⟨fun m=>⟨0,by omega,?_,fun i op hi=>by omega,fun i op _ _ _=>hf i⟩,fun id=>⟨0,by omega,?_,fun i op e hi=>by omega,fun i op e _ _ _ _=>hf i⟩⟩
  ·cases l <;> cases es <;> rfl
  ·cases l <;> cases es <;> rfl
end Go.aJ

namespace Go.aJ
open Go
inductive AC where
 | skip
 | mu (ops:List bE)
 | uk (aV:List Nat) (ops:List bE)
 | seq (a b:AC)
 | cond (x:XO) (a b:AC)
 | block (id:Nat) (a:AC)
 | loop (a:AC)
 | exit (id:Nat)
 | ret
 | pW
 deriving Inhabited
def AC.tE:AC→Bool
 | .seq a b=>a.tE && b.tE
 | .cond _ a b=>a.tE || b.tE
 | .loop _ | .exit _ | .ret=>false
 | _=>true
def xP (P:Program) (ops:Array Oper) (N:Nat):List Oper→Option (List bE)
 | []=>some []
 | o::r=>match ni P ops N o,xP P ops N r with
   | some x,some l=>some (x::l)
   | _,_=>none
theorem Ac {P:Program} {ops:Array Oper} {N:Nat}:∀ {os:List Oper} {l:List bE},xP P ops N os=some l→os.length=l.length∧∀ (j:Nat) (op:bE),l[j]?=some op→∃ o,os[j]?=some o∧ni P ops N o=some op
 | [],l,h=>by cases h;exact ⟨rfl,fun j op hj=>by simp at hj⟩
 | o::r,l,h=>by
   unfold xP at h
   split at h
   ·rename_i x l' hx hl
    cases h
    obtain ⟨g1,g2⟩:=Ac hl
    refine ⟨by simp [g1],fun j op hj=>?_⟩
    cases j with
    | zero=>simp at hj;subst hj;exact ⟨o,rfl,hx⟩
    | succ j=>simp only [List.getElem?_cons_succ] at hj ⊢;exact g2 j op hj
   ·cases h
def comp (P:Program) (N:Nat):Code→Option AC
 | .skip=>some .skip
 | .region _ ops draw=>match draw,xP P ops N ops.toList with
   | false,some l=>some (.mu l)
   | true,some l=>if P.follows .mixedOrders && uM 0 ops.toList then some (.uk (nN ops.toList []) l) else none
   | _,none=>none
 | .seq a b=>match comp P N a,comp P N b with
   | some x,some y=>some (.seq x y)
   | _,_=>none
 | .cond c a b=>match Ae c,comp P N a,comp P N b with
   | some q,some x,some y=>if x.tE && y.tE then some (.seq (.cond q x y) .pW) else some (.cond q x y)
   | _,_,_=>none
 | .block id c=>match comp P N c with
   | some x=>some (.seq (.block id x) .pW)
   | none=>none
 | .loop c=>match comp P N c with
   | some x=>some (.loop x)
   | none=>none
 | .exit id=>some (.exit id)
 | .ret=>some .ret
 | _=>none
inductive Ex where
 | normal
 | exit (id:Nat)
 | ret
def Ex.zA:Ex→Exit
 | .normal=>.normal
 | .exit id=>.exit id
 | .ret=>.ret
def fS (n0:Nat) (s s':St):Prop:=∀ C a w,jv C n0 s a w→jv C n0 s' a w
def mW (n:St→Prop) (K:Ex→St→Prop):Ex→St→Prop
 | .normal,s=>n s
 | .exit id,s=>K (.exit id) s
 | .ret,s=>K .ret s
def xu (id:Nat) (K:Ex→St→Prop):Ex→St→Prop
 | .normal,s=>K .normal s
 | .exit j,s=>if j=id then K .normal s else K (.exit j) s
 | .ret,s=>K .ret s
def xR (T F:Prop):SV→Prop
 | .rv (.bool t)=>if t=true then T else F
 | _=>False
def W (P:Program) (n0:Nat):AC→(Ex→St→Prop)→St→Prop
 | .skip,K,s=>K .normal s
 | .mu ops,K,s=>RW P (K .normal) ops s
 | .uk aV ops,K,s=>RD P aV (K .normal) ops [] s
 | .seq a b,K,s=>W P n0 a (mW (W P n0 b K) K) s
 | .cond x a b,K,s=>xR (W P n0 a K s) (W P n0 b K s) (iY (lk s.env) x)
 | .block id a,K,s=>W P n0 a (xu id K) s
 | .loop a,K,s=>∃ (ι:Type) (σ:ι→St) (pr:ι→Prop) (μ:ι→Nat) (i0:ι),pr i0∧fS n0 s (σ i0)∧∀ i,pr i→W P n0 a (mW (fun s'=>∃ i',pr i'∧μ i'<μ i∧fS n0 s' (σ i')) K) (σ i)
 | .exit id,K,s=>K (.exit id) s
 | .ret,K,s=>K .ret s
 | .pW,K,s=>∃ s',fS n0 s s'∧K .normal s'
theorem zz {n n':St→Prop} {K K':Ex→St→Prop} (hn:∀ s,n s→n' s) (h:∀ e s,K e s→K' e s):∀ e s,mW n K e s→mW n' K' e s
 | .normal,s,hk=>hn s hk
 | .exit id,s,hk=>h _ s hk
 | .ret,s,hk=>h _ s hk
theorem Ka {id:Nat} {K K':Ex→St→Prop} (h:∀ e s,K e s→K' e s):∀ e s,xu id K e s→xu id K' e s
 | .normal,s,hk=>h _ s hk
 | .exit j,s,hk=>by
   have hk':if j=id then K .normal s else K (.exit j) s:=hk
   show if j=id then K' .normal s else K' (.exit j) s
   by_cases hj:j=id
   ·rw [if_pos hj] at hk' ⊢;exact h _ s hk'
   ·rw [if_neg hj] at hk' ⊢;exact h _ s hk'
 | .ret,s,hk=>h _ s hk
theorem RI {P:Program} {ao:AO} {args:List SV} {h:List (Option HB)} {K K':SV→List (Option HB)→Prop} (hk:∀ sv h,K sv h→K' sv h) (hw:sN P ao args h K):sN P ao args h K':=by
 have hc:∀ f args,qv P f args h K→qv P f args h K':=fun f args ⟨pre,us,sv,h1,h2,h3,h4⟩=>⟨pre,us,sv,h1,h2,h3,hk _ _ h4⟩
 unfold sN at hw ⊢
 split at hw
 ·exact hc _ _ hw
 ·unfold xI at hw ⊢
  split at hw
  ·exact hc _ _ hw
  ·exact hc _ _ hw
  ·exact hw.elim
 ·unfold vQ at hw ⊢
  split at hw
  ·split at hw
   ·split at hw
    ·exact hc _ _ hw
    ·split at hw
     ·exact ⟨hw.1,hc _ _ hw.2⟩
     ·exact hw.elim
    ·exact hw.elim
   ·exact hw.elim
  ·exact hw.elim
 ·unfold zg at hw ⊢
  split at hw
  ·exact ⟨hw.1,hk _ _ hw.2⟩
  ·exact hw.elim
theorem zL {P:Program} {K K':St→Prop} (hk:∀ s,K s→K' s):∀ {l:List bE} {s:St},RW P K l s→RW P K' l s
 | [],s,h=>hk s h
 | op::l,s,h=>by
   unfold RW at h ⊢
   split at h
   ·exact RI (fun sv h' hh=>zL hk hh) h
   ·exact zL hk h
   ·exact h.elim
theorem RE {P:Program} {ao:AO} {args:List SV} {h:List (Option HB)} {K K':SV→List (Option HB)→List Nat→List Nat→Prop} (hk:∀ sv h p u,K sv h p u→K' sv h p u) (hw:sL P ao args h K):sL P ao args h K':=by
 have hc:∀ f args,oM P f args h K→oM P f args h K':=fun f args ⟨pre,us,sv,h1,h2,h3,h4⟩=>⟨pre,us,sv,h1,h2,h3,hk _ _ _ _ h4⟩
 have hcd:∀ f args rd,(oM P f args h fun sv h' pre us=>K sv h' (rd++pre) us)→oM P f args h fun sv h' pre us=>K' sv h' (rd++pre) us:=fun f args rd ⟨pre,us,sv,h1,h2,h3,h4⟩=>⟨pre,us,sv,h1,h2,h3,hk _ _ _ _ h4⟩
 unfold sL at hw ⊢
 split at hw
 ·exact hc _ _ hw
 ·unfold xH at hw ⊢
  split at hw
  ·exact hc _ _ hw
  ·exact hc _ _ hw
  ·exact hw.elim
 ·unfold vP at hw ⊢
  split at hw
  ·split at hw
   ·split at hw
    ·exact hc _ _ hw
    ·split at hw
     ·exact ⟨hw.1,hcd _ _ _ hw.2⟩
     ·exact hw.elim
    ·exact hw.elim
   ·exact hw.elim
  ·exact hw.elim
 ·unfold zf at hw ⊢
  split at hw
  ·exact ⟨hw.1,hk _ _ _ _ hw.2⟩
  ·exact hw.elim
theorem zK {P:Program} {aV:List Nat} {K K':St→Prop} (hk:∀ s,K s→K' s):∀ {l:List bE} {acc:List TE} {s:St},RD P aV K l acc s→RD P aV K' l acc s
 | [],acc,s,h=>⟨h.1,hk s h.2⟩
 | op::l,acc,s,h=>by
   unfold RD at h ⊢
   split at h
   ·exact RE (fun sv h' p u hh=>zK hk hh) h
   ·exact zK hk h
   ·exact h.elim
theorem qx {P:Program} {n0:Nat}:∀ {ac:AC} {K K':Ex→St→Prop} {s:St},(∀ e s,K e s→K' e s)→W P n0 ac K s→W P n0 ac K' s
 | .skip,K,K',s,h,hw=>h _ _ hw
 | .mu ops,K,K',s,h,hw=>zL (h _) hw
 | .uk aV ops,K,K',s,h,hw=>zK (h _) hw
 | .seq a b,K,K',s,h,hw=>qx (ac:=a) (zz (fun s hb=>qx (ac:=b) h hb) h) hw
 | .cond x a b,K,K',s,h,hw=>by
   unfold W xR at hw ⊢
   split at hw
   ·split at hw
    ·rename_i ht;rw [if_pos ht];exact qx (ac:=a) h hw
    ·rename_i ht;rw [if_neg ht];exact qx (ac:=b) h hw
   ·exact hw.elim
 | .block id a,K,K',s,h,hw=>qx (ac:=a) (Ka h) hw
 | .loop a,K,K',s,h,hw=>by
   obtain ⟨ι,σ,pr,μ,i0,h0,he,hr⟩:=hw
   exact ⟨ι,σ,pr,μ,i0,h0,he,fun i hi=>qx (ac:=a) (zz (fun s hs=>hs) h) (hr i hi)⟩
 | .exit id,K,K',s,h,hw=>h _ _ hw
 | .ret,K,K',s,h,hw=>h _ _ hw
 | .pW,K,K',s,h,hw=>by obtain ⟨s',h1,h2⟩:=hw;exact ⟨s',h1,h _ _ h2⟩
theorem least {p:Nat→Prop} (h:∃ m,p m):∃ m,p m∧∀ k,p k→m≤k:=by
 obtain ⟨m,hm⟩:=h
 induction m using Nat.strongRecOn with
 | _ m ih=>
   by_cases hl:∃ k,p k∧k<m
   ·obtain ⟨k,hk,hlt⟩:=hl
    exact ih k hlt hk
   ·exact ⟨m,hm,fun k hk=>by
     by_cases hlt:k<m
     ·exact absurd ⟨k,hk,hlt⟩ hl
     ·omega⟩
theorem DT {P:Program} {n0:Nat} {C:Ctx} {K:Ex→St→Prop} {Q:Exit→Act→World→Prop} (hq:∀ e s a w,K e s→jv C n0 s a w→Q e.zA a w) :
 ∀ e s a w,mW (W P n0 .pW K) K e s→jv C n0 s a w→Q e.zA a w
 | .normal,s,a,w,⟨s',h1,h2⟩,R=>hq .normal s' a w h2 (h1 C a w R)
 | .exit id,s,a,w,hk,R=>hq (.exit id) s a w hk R
 | .ret,s,a,w,hk,R=>hq .ret s a w hk R
theorem Vi {P:Program} {n0:Nat} {C:Ctx}:∀ (c:Code) (ac:AC) (K:Ex→St→Prop) (Q:Exit→Act→World→Prop) (s:St) (a:Act) (w:World),comp P C.N c=some ac→W P n0 ac K s→jv C n0 s a w→(∀ e s a w,K e s→jv C n0 s a w→Q e.zA a w)→c.wp P Q a w:=by
 intro c
 induction c with
 | skip=>intro ac K Q s a w hc hw R hq;cases hc;exact wp_skip (hq _ _ _ _ hw R)
 | region id ops draw=>
   intro ac K Q s a w hc hw R hq
   unfold comp at hc
   split at hc
   ·rename_i l hl
    cases hc
    obtain ⟨g1,g2⟩:=Ac hl
    refine wp_region (Hw (C:=C) (n0:=n0) (fun s a w hk R=>hq .normal s a w hk R) l _ s a w (by simpa using g1) (fun j i op hi hj=>?_) hw R)
    obtain ⟨o,ho,mh⟩:=g2 j op hj
    have hlt:j<ops.size:=by
     have:=(List.getElem?_eq_some_iff.1 hj).1
     have e:ops.toList.length=ops.size:=by simp
     omega
    rw [List.getElem?_range hlt] at hi
    cases hi
    exact ⟨o,by simpa using ho,mh⟩
   ·rename_i l hl
    split at hc
    ·rename_i hb
     cases hc
     simp only [Bool.and_eq_true] at hb
     obtain ⟨g1,g2⟩:=Ac hl
     exact Sr hb.1 (by simpa using g1) (fun j op hj=>by
      obtain ⟨o,ho,mh⟩:=g2 j op hj
      exact ⟨o,by simpa using ho,mh⟩) hb.2 hw R (fun s a w hk R=>hq .normal s a w hk R) id
    ·cases hc
   ·cases hc
 | seq x y Bx By=>
   intro ac K Q s a w hc hw R hq
   unfold comp at hc
   split at hc
   ·rename_i x' y' hx hy
    cases hc
    refine wp_seq (Bx x' _ _ s a w hx hw R (fun e s a w hk R=>?_))
    cases e with
    | normal=>exact By y' K Q s a w hy hk R hq
    | exit id=>exact hq (.exit id) s a w hk R
    | ret=>exact hq .ret s a w hk R
   ·cases hc
 | cond c x y Bx By=>
   intro ac K Q s a w hc hw R hq
   unfold comp at hc
   split at hc
   ·rename_i q x' y' AP hx hy
    have base:∀ (K:Ex→St→Prop),W P n0 (.cond q x' y') K s→(∀ e s a w,K e s→jv C n0 s a w→Q e.zA a w)→(Code.cond c x y).wp P Q a w:=by
     intro K hw hq
     unfold W xR at hw
     split at hw
     ·rename_i t ht
      obtain ⟨aa,RF⟩:=R.rep
      have hA:=xp RF (xs:=[c]) (ys:=[q]) (by simp [tq,AP])
      cases hA with
      | cons h1 _=>
        rw [ht] at h1
        have hb:=sQ h1
        refine wp_cond hb ?_
        cases t with
        | true=>exact Bx x' K Q s a w hx (by simpa using hw) R hq
        | false=>exact By y' K Q s a w hy (by simpa using hw) R hq
     ·exact hw.elim
    split at hc
    ·cases hc
     exact base _ hw (DT hq)
    ·cases hc
     exact base K hw hq
   ·cases hc
 | block id c ih=>
   intro ac K Q s a w hc hw R hq
   unfold comp at hc
   split at hc
   ·rename_i x hx
    cases hc
    have fO:=DT (P:=P) hq
    refine wp_block (ih x _ _ s a w hx hw R (fun e s a w hk R=>?_))
    cases e with
    | normal=>exact fO .normal s a w hk R
    | exit j=>
      have hk':if j=id then (∃ s',fS n0 s s'∧K .normal s') else K (.exit j) s:=hk
      show if j=id then Q .normal a w else Q (.exit j) a w
      by_cases hj:j=id
      ·rw [if_pos hj] at hk' ⊢;exact fO .normal s a w hk' R
      ·rw [if_neg hj] at hk' ⊢;exact hq (.exit j) s a w hk' R
    | ret=>exact hq .ret s a w hk R
   ·cases hc
 | loop c ih=>
   intro ac K Q s a w hc hw R hq
   unfold comp at hc
   split at hc
   ·rename_i x hx
    cases hc
    obtain ⟨ι,σ,pr,μ,i0,h0,he,hr⟩:=hw
    have key:∀ n i,μ i=n→pr i→∀ a w,jv C n0 (σ i) a w→(Code.loop c).wp P Q a w:=by
     classical
     intro n i hn hi a w R
     let I:Act→World→Prop:=fun a w=>∃ i,pr i∧jv C n0 (σ i) a w
     have hex:∀ a w,I a w→∃ m,∃ i,pr i∧jv C n0 (σ i) a w∧μ i=m:=fun a w ⟨i,h1,h2⟩=>⟨μ i,i,h1,h2,rfl⟩
     have ED:∀ a w,∃ m,I a w→(∃ i,pr i∧jv C n0 (σ i) a w∧μ i=m)∧∀ i,pr i→jv C n0 (σ i) a w→m≤μ i:=fun a w=>by
      by_cases h:I a w
      ·obtain ⟨m,hm,hl⟩:=least (p:=fun m=>∃ i,pr i∧jv C n0 (σ i) a w∧μ i=m) (hex a w h)
       exact ⟨m,fun _=>⟨hm,fun i hi hR=>hl _ ⟨i,hi,hR,rfl⟩⟩⟩
      ·exact ⟨0,fun h'=>absurd h' h⟩
     let M:Act→World→Nat:=fun a w=>(ED a w).choose
     have hM:∀ a w,I a w→(∃ i,pr i∧jv C n0 (σ i) a w∧μ i=M a w)∧∀ i,pr i→jv C n0 (σ i) a w→M a w≤μ i:=fun a w h=>(ED a w).choose_spec h
     refine wp_loop I M ⟨i,hi,R⟩ (fun a w hI=>?_)
     obtain ⟨⟨j,hj,hR,VI⟩,_⟩:=hM a w hI
     refine ih x _ _ (σ j) a w hx (hr j hj) hR (fun e s' a' w' hk R'=>?_)
     cases e with
     | normal=>
       obtain ⟨j',hj',hlt,MQ⟩:=hk
       have Er:=MQ C a' w' R'
       have Ep:I a' w':=⟨j',hj',Er⟩
       refine ⟨Ep,?_⟩
       have:=(hM a' w' Ep).2 j' hj' Er
       omega
     | exit id=>exact hq (.exit id) s' a' w' hk R'
     | ret=>exact hq .ret s' a' w' hk R'
    exact key _ i0 rfl h0 a w (he C a w R)
   ·cases hc
 | exit id=>intro ac K Q s a w hc hw R hq;cases hc;exact wp_exit (hq _ _ _ _ hw R)
 | ret=>intro ac K Q s a w hc hw R hq;cases hc;exact wp_ret (hq _ _ _ _ hw R)
 | rangeFunc=>intro ac K Q s a w hc;cases hc
 | scope=>intro ac K Q s a w hc;cases hc
 | label=>intro ac K Q s a w hc;cases hc
 | goto=>intro ac K Q s a w hc;cases hc
 | refuse=>intro ac K Q s a w hc;cases hc
end Go.aJ

namespace Go.aJ
open Go
inductive It where
 | c (a:AC)
 | o (l:List bE)
 | d (aV:List Nat) (acc:List TE) (l:List bE)
 | b (id:Nat)
 | l (m:Nat) (a:AC)
def WL (P:Program) (n0 m:Nat) (a:AC) (K:Ex→St→Prop) (s:St):Prop:=
 ∃ (ι:Type) (σ:ι→St) (pr:ι→Prop) (μ:ι→Nat) (i0:ι),(pr i0∧μ i0≤m)∧fS n0 s (σ i0)∧∀ i,pr i→W P n0 a (mW (fun s'=>∃ i',pr i'∧μ i'<μ i∧fS n0 s' (σ i')) K) (σ i)
theorem JA {P:Program} {n0 m:Nat} {a:AC} {K:Ex→St→Prop} {s:St} (h:WL P n0 m a K s):W P n0 (.loop a) K s:=by
 obtain ⟨ι,σ,pr,μ,i0,⟨h1,_⟩,h2,h3⟩:=h
 exact ⟨ι,σ,pr,μ,i0,h1,h2,h3⟩
theorem JB {P:Program} {n0 m:Nat} {a:AC} {K:Ex→St→Prop} {s:St} (h:W P n0 a (mW (WL P n0 m a K) K) s):WL P n0 (m+1) a K s:=by
 let Inv:St→Nat→Prop:=fun s k=>k≤m∧∃ (ι:Type) (σ:ι→St) (pr:ι→Prop) (μ:ι→Nat) (i:ι),pr i∧σ i=s∧μ i=k∧∀ i,pr i→W P n0 a (mW (fun s'=>∃ i',pr i'∧μ i'<μ i∧fS n0 s' (σ i')) K) (σ i)
 refine ⟨Option (St×Nat),fun o=>(o.map (·.1)).getD s,fun o=>∀ q,o=some q→Inv q.1 q.2,fun o=>match o with | some q=>q.2 | none=>m+1,none,⟨fun q hq=>(by cases hq),Nat.le_refl _⟩,fun _ _ _ R=>R,fun o ho=>?_⟩
 cases o with
 | none=>
   refine qx (fun e s' hs=>?_) h
   revert hs
   refine zz (fun s' hs=>?_) (fun _ _ hk=>hk) e s'
   obtain ⟨ι,σ,pr,μ,i0,⟨h1,h2⟩,h3,h4⟩:=hs
   exact ⟨some (σ i0,μ i0),fun q hq=>(by cases hq;exact ⟨h2,ι,σ,pr,μ,i0,h1,rfl,rfl,h4⟩),Nat.lt_succ_of_le h2,h3⟩
 | some q=>
   obtain ⟨hk,ι,σ,pr,μ,i,h1,h2,h3,h4⟩:=ho q rfl
   have:=h4 i h1
   rw [h2] at this
   refine qx (fun e s' hs=>?_) this
   revert hs
   refine zz (fun s' hs=>?_) (fun _ _ hk=>hk) e s'
   obtain ⟨i',g1,g2,g3⟩:=hs
   exact ⟨some (σ i',μ i'),fun q' hq=>(by cases hq;exact ⟨by omega,ι,σ,pr,μ,i',g1,rfl,rfl,h4⟩),(by show μ i'<q.2;omega),g3⟩
def CI (P:Program) (n0:Nat):List It→(Ex→St→Prop)→Ex→St→Prop
 | [],K=>K
 | .c a::k,K=>mW (W P n0 a (CI P n0 k K)) (CI P n0 k K)
 | .o l::k,K=>mW (RW P (CI P n0 k K .normal) l) (CI P n0 k K)
 | .d aV acc l::k,K=>mW (RD P aV (CI P n0 k K .normal) l acc) (CI P n0 k K)
 | .b id::k,K=>xu id (CI P n0 k K)
 | .l m a::k,K=>mW (WL P n0 m a (CI P n0 k K)) (CI P n0 k K)
def G (P:Program) (n0:Nat) (k:List It) (K:Ex→St→Prop) (env:List (Nat×SV)) (h:List (Option HB)):Prop:=CI P n0 k K .normal ⟨env,h⟩
def GX (P:Program) (n0:Nat) (id:Nat) (k:List It) (K:Ex→St→Prop) (env:List (Nat×SV)) (h:List (Option HB)):Prop:=CI P n0 k K (.exit id) ⟨env,h⟩
def xQ (P:Program) (n0:Nat) (a b:AC) (k:List It) (K:Ex→St→Prop) (env:List (Nat×SV)) (h:List (Option HB)):SV→Prop
 | .rv (.bool t)=>if t=true then G P n0 (.c a::k) K env h else G P n0 (.c b::k) K env h
 | _=>False
def rR (P:Program) (n0:Nat) (f:FuncId) (args:List SV) (dst:Option Nat) (r:List bE) (k:List It) (K:Ex→St→Prop) (env:List (Nat×SV)) (h:List (Option HB)):Prop:=
 qv P f args h fun sv h'=>G P n0 (.o r::k) K (fZ dst sv env) h'
def zU (P:Program) (n0:Nat) (dst:Option Nat) (r:List bE) (k:List It) (K:Ex→St→Prop) (env:List (Nat×SV)) (h:List (Option HB)):List SV→Prop
 | .fn f caps::args=>rR P n0 f (args++caps) dst r k K env h
 | .fE f caps::args=>rR P n0 f (caps++args) dst r k K env h
 | _=>False
def yL (P:Program) (n0:Nat) (name:String) (dst:Option Nat) (r:List bE) (k:List It) (K:Ex→St→Prop) (env:List (Nat×SV)) (h:List (Option HB)):List SV→Prop
 | s::args=>match ov s with
   | some (t,x)=>match ox P t name with
     | some (f,none)=>rR P n0 f (x::args) dst r k K env h
     | some (f,some (n,agg))=>match ia n agg (aB h) x with
       | some (p,y,_,_)=>p∧rR P n0 f (y::args) dst r k K env h
       | none=>False
     | none=>False
   | none=>False
 | _=>False
def BZ (P:Program) (n0:Nat) (dst:Option Nat) (r:List bE) (k:List It) (K:Ex→St→Prop) (env:List (Nat×SV)) (h:List (Option HB)):XR→Prop
 | some (p,sv,u,_)=>p∧G P n0 (.o r::k) K (fZ dst sv env) (wN h u)
 | none=>False
def sM (P:Program) (n0:Nat) (ao:AO) (args:List SV) (dst:Option Nat) (r:List bE) (k:List It) (K:Ex→St→Prop) (env:List (Nat×SV)) (h:List (Option HB)):Prop:=
 match ao with
 | .call f=>rR P n0 f args dst r k K env h
 | .nR=>zU P n0 dst r k K env h args
 | .inv name=>yL P n0 name dst r k K env h args
 | ao=>BZ P n0 dst r k K env h (bX ao args (aB h) h.length)
def sj (P:Program) (n0:Nat) (b:Bool) (ao:AO) (xs:List XO) (dst:Option Nat) (r:List bE) (k:List It) (K:Ex→St→Prop) (env:List (Nat×SV)) (h:List (Option HB)):SV→Prop
 | .rv (.bool t)=>if t=b then sM P n0 ao (xs.map (iY (lk env))) dst r k K env h else G P n0 (.o r::k) K (fZ dst (.aP []) env) h
 | .aP []=>G P n0 (.o r::k) K (fZ dst (.aP []) env) h
 | _=>False
def rS (P:Program) (n0:Nat) (aV:List Nat) (acc:List TE) (fB qZ:List Nat) (f:FuncId) (args:List SV) (dst:Option Nat) (r:List bE) (k:List It) (K:Ex→St→Prop) (env:List (Nat×SV)) (h:List (Option HB)):Prop:=
 oM P f args h fun sv h' pre us=>G P n0 (.d aV (acc++[⟨fB,dst,qZ++pre,us⟩]) r::k) K (fZ dst sv env) h'
def zV (P:Program) (n0:Nat) (aV:List Nat) (acc:List TE) (fB:List Nat) (dst:Option Nat) (r:List bE) (k:List It) (K:Ex→St→Prop) (env:List (Nat×SV)) (h:List (Option HB)):List SV→Prop
 | .fn f caps::args=>rS P n0 aV acc fB [] f (args++caps) dst r k K env h
 | .fE f caps::args=>rS P n0 aV acc fB [] f (caps++args) dst r k K env h
 | _=>False
def yM (P:Program) (n0:Nat) (aV:List Nat) (acc:List TE) (fB:List Nat) (name:String) (dst:Option Nat) (r:List bE) (k:List It) (K:Ex→St→Prop) (env:List (Nat×SV)) (h:List (Option HB)):List SV→Prop
 | s::args=>match ov s with
   | some (t,x)=>match ox P t name with
     | some (f,none)=>rS P n0 aV acc fB [] f (x::args) dst r k K env h
     | some (f,some (n,agg))=>match ia n agg (aB h) x with
       | some (p,y,_,rd)=>p∧rS P n0 aV acc fB rd f (y::args) dst r k K env h
       | none=>False
     | none=>False
   | none=>False
 | _=>False
def Ca (P:Program) (n0:Nat) (aV:List Nat) (acc:List TE) (fB:List Nat) (dst:Option Nat) (r:List bE) (k:List It) (K:Ex→St→Prop) (env:List (Nat×SV)) (h:List (Option HB)):XR→Prop
 | some (p,sv,u,rd)=>p∧G P n0 (.d aV (acc++[⟨fB,dst,rd,CF u⟩]) r::k) K (fZ dst sv env) (wN h u)
 | none=>False
def sO (P:Program) (n0:Nat) (aV:List Nat) (acc:List TE) (fB:List Nat) (ao:AO) (args:List SV) (dst:Option Nat) (r:List bE) (k:List It) (K:Ex→St→Prop) (env:List (Nat×SV)) (h:List (Option HB)):Prop:=
 match ao with
 | .call f=>rS P n0 aV acc fB [] f args dst r k K env h
 | .nR=>zV P n0 aV acc fB dst r k K env h args
 | .inv name=>yM P n0 aV acc fB name dst r k K env h args
 | ao=>Ca P n0 aV acc fB dst r k K env h (bX ao args (aB h) h.length)
def sk (P:Program) (n0:Nat) (aV:List Nat) (acc:List TE) (fB:List Nat) (b:Bool) (ao:AO) (xs:List XO) (dst:Option Nat) (r:List bE) (k:List It) (K:Ex→St→Prop) (env:List (Nat×SV)) (h:List (Option HB)):SV→Prop
 | .rv (.bool t)=>if t=b then sO P n0 aV acc fB ao (xs.map (iY (lk env))) dst r k K env h else G P n0 (.d aV (acc++[⟨fB,dst,[],[]⟩]) r::k) K (fZ dst (.aP []) env) h
 | .aP []=>G P n0 (.d aV (acc++[⟨fB,dst,[],[]⟩]) r::k) K (fZ dst (.aP []) env) h
 | _=>False
section
variable {P:Program} {n0:Nat} {k:List It} {K:Ex→St→Prop} {env:List (Nat×SV)} {h:List (Option HB)}
theorem LF:G P n0 [] K env h=K .normal ⟨env,h⟩:=rfl
theorem LP:G P n0 (.c .skip::k) K env h=G P n0 k K env h:=rfl
theorem LL {ops:List bE}:G P n0 (.c (.mu ops)::k) K env h=G P n0 (.o ops::k) K env h:=rfl
theorem LM {aV:List Nat} {ops:List bE}:G P n0 (.c (.uk aV ops)::k) K env h=G P n0 (.d aV [] ops::k) K env h:=rfl
theorem LO {a b:AC}:G P n0 (.c (.seq a b)::k) K env h=G P n0 (.c a :: .c b::k) K env h:=rfl
theorem Ly {id:Nat} {a:AC}:G P n0 (.c (.block id a)::k) K env h=G P n0 (.c a :: .b id::k) K env h:=rfl
theorem LC {id:Nat}:G P n0 (.b id::k) K env h=G P n0 k K env h:=rfl
theorem LD {id:Nat}:G P n0 (.c (.exit id)::k) K env h=GX P n0 id k K env h:=rfl
theorem LA {x:XO} {a b:AC}:G P n0 (.c (.cond x a b)::k) K env h=xQ P n0 a b k K env h (iY (lk env) x):=by
 show xR _ _ _=_
 generalize iY (lk env) x=y
 cases y with
 | rv r=>cases r <;> rfl
 | _=>rfl
theorem rL {P:Program} {n0:Nat} {K:Ex→St→Prop} {s:St}:∀ {k:List It},CI P n0 k K .ret s=K .ret s
 | []=>rfl
 | .c a::k=>rL (k:=k)
 | .o a::k=>rL (k:=k)
 | .d a b c::k=>rL (k:=k)
 | .b a::k=>rL (k:=k)
 | .l a b::k=>rL (k:=k)
theorem LN:G P n0 (.c .ret::k) K env h=K .ret ⟨env,h⟩:=by
 show CI P n0 k K .ret ⟨env,h⟩=_
 exact rL
theorem Mh {id:Nat}:GX P n0 id [] K env h=K (.exit id) ⟨env,h⟩:=rfl
theorem Me {id:Nat} {a:AC}:GX P n0 id (.c a::k) K env h=GX P n0 id k K env h:=rfl
theorem Mi {id:Nat} {a:List bE}:GX P n0 id (.o a::k) K env h=GX P n0 id k K env h:=rfl
theorem Mg {id m:Nat} {a:AC}:GX P n0 id (.l m a::k) K env h=GX P n0 id k K env h:=rfl
theorem jV {a:AC} (m:Nat) (hg:G P n0 (.l m a::k) K env h):G P n0 (.c (.loop a)::k) K env h:=JA (P:=P) (n0:=n0) (m:=m) (a:=a) (K:=CI P n0 k K) (s:=⟨env,h⟩) hg
theorem jU {m:Nat} {a:AC} (hg:G P n0 (.c a :: .l m a::k) K env h):G P n0 (.l (m+1) a::k) K env h:=by
 show WL P n0 (m+1) a (CI P n0 k K) ⟨env,h⟩
 exact JB hg
theorem Md {id j:Nat}:GX P n0 id (.b j::k) K env h=if id=j then G P n0 k K env h else GX P n0 id k K env h:=rfl
theorem LG:G P n0 (.o []::k) K env h=G P n0 k K env h:=rfl
theorem LB {aV:List Nat} {acc:List TE}:G P n0 (.d aV acc []::k) K env h=(oT aV 0 acc=true∧G P n0 k K env h):=rfl
theorem Sl {dst:Option Nat} {r:List bE} (o:XR):zg h (fun sv h'=>RW P (CI P n0 k K .normal) r ⟨fZ dst sv env,h'⟩) o=BZ P n0 dst r k K env h o:=by
 cases o with
 | none=>rfl
 | some q=>obtain ⟨p,sv,u,rd⟩:=q;rfl
theorem GJ {dst:Option Nat} {ao:AO} {args:List SV} {r:List bE}:sN P ao args h (fun sv h'=>RW P (CI P n0 k K .normal) r ⟨fZ dst sv env,h'⟩)=sM P n0 ao args dst r k K env h:=by
 cases ao
 case call f=>rfl
 case nR=>
  show xI _ _ _ _=zU _ _ _ _ _ _ _ _ _
  cases args with
  | nil=>rfl
  | cons x t=>cases x <;> rfl
 case inv name=>
  show vQ _ _ _ _ _=yL _ _ _ _ _ _ _ _ _ _
  cases args with
  | nil=>rfl
  | cons x t=>
    simp only [vQ,yL]
    cases ov x with
    | none=>rfl
    | some q=>
      obtain ⟨t,y⟩:=q
      simp only
      cases ox P t name with
      | none=>rfl
      | some q=>
        obtain ⟨f,ld⟩:=q
        cases ld with
        | none=>rfl
        | some q=>
          obtain ⟨n,agg⟩:=q
          simp only
          cases ia n agg (aB h) y with
          | none=>rfl
          | some q=>obtain ⟨p,z,u,rd⟩:=q;rfl
 all_goals first | exact Sl _ | rfl
theorem LH {dst:Option Nat} {ao:AO} {xs:List XO} {r:List bE}:G P n0 (.o (⟨dst,ao,xs,none⟩::r)::k) K env h=sM P n0 ao (xs.map (iY (lk env))) dst r k K env h:=GJ
theorem LK {dst:Option Nat} {ao:AO} {xs:List XO} {d:Nat} {b:Bool} {r:List bE}:G P n0 (.o (⟨dst,ao,xs,some (d,b)⟩::r)::k) K env h=sj P n0 b ao xs dst r k K env h (lk env d):=by
 show RW P _ _ _=_
 unfold RW
 simp only [kN]
 generalize lk env d=x
 cases x with
 | rv q=>
   cases q with
   | bool t=>cases t <;> cases b <;> first | exact GJ | rfl
   | _=>rfl
 | aP xs=>cases xs <;> rfl
 | _=>rfl
theorem Sj {aV:List Nat} {acc:List TE} {fB:List Nat} {dst:Option Nat} {r:List bE} (o:XR):zf h (fun sv h' pre us=>RD P aV (CI P n0 k K .normal) r (acc++[⟨fB,dst,pre,us⟩]) ⟨fZ dst sv env,h'⟩) o=Ca P n0 aV acc fB dst r k K env h o:=by
 cases o with
 | none=>rfl
 | some q=>obtain ⟨p,sv,u,rd⟩:=q;rfl
theorem GD {aV:List Nat} {acc:List TE} {fB:List Nat} {dst:Option Nat} {ao:AO} {args:List SV} {r:List bE}:sL P ao args h (fun sv h' pre us=>RD P aV (CI P n0 k K .normal) r (acc++[⟨fB,dst,pre,us⟩]) ⟨fZ dst sv env,h'⟩)=sO P n0 aV acc fB ao args dst r k K env h:=by
 cases ao
 case call f=>rfl
 case nR=>
  show xH _ _ _ _=zV _ _ _ _ _ _ _ _ _ _ _ _
  cases args with
  | nil=>rfl
  | cons x t=>cases x <;> rfl
 case inv name=>
  show vP _ _ _ _ _=yM _ _ _ _ _ _ _ _ _ _ _ _ _
  cases args with
  | nil=>rfl
  | cons x t=>
    simp only [vP,yM]
    cases ov x with
    | none=>rfl
    | some q=>
      obtain ⟨t,y⟩:=q
      simp only
      cases ox P t name with
      | none=>rfl
      | some q=>
        obtain ⟨f,ld⟩:=q
        cases ld with
        | none=>rfl
        | some q=>
          obtain ⟨n,agg⟩:=q
          simp only
          cases ia n agg (aB h) y with
          | none=>rfl
          | some q=>obtain ⟨p,z,u,rd⟩:=q;rfl
 all_goals first | exact Sj _ | rfl
theorem LI {aV:List Nat} {acc:List TE} {dst:Option Nat} {ao:AO} {xs:List XO} {r:List bE}:G P n0 (.d aV acc (⟨dst,ao,xs,none⟩::r)::k) K env h=sO P n0 aV acc (nH xs) ao (xs.map (iY (lk env))) dst r k K env h:=GD
theorem LJ {aV:List Nat} {acc:List TE} {dst:Option Nat} {ao:AO} {xs:List XO} {d:Nat} {b:Bool} {r:List bE}:G P n0 (.d aV acc (⟨dst,ao,xs,some (d,b)⟩::r)::k) K env h=sk P n0 aV acc (d::nH xs) b ao xs dst r k K env h (lk env d):=by
 show RD P _ _ _ _ _=_
 unfold RD
 simp only [kN]
 generalize lk env d=x
 cases x with
 | rv q=>
   cases q with
   | bool t=>cases t <;> cases b <;> first | exact GD | rfl
   | _=>rfl
 | aP xs=>cases xs <;> rfl
 | _=>rfl
end
theorem bR {P:Program} {n0:Nat} {f:FuncId} {args:List SV} {dst:Option Nat} {r:List bE} {k:List It} {K:Ex→St→Prop} {env:List (Nat×SV)} {h:List (Option HB)} {pre us:List (Nat×HB)} {sv:SV}
 (hc:aG P f args pre us sv) (hp:aU (aB h) pre) (hu:bh pre h us) (hn:G P n0 (.o r::k) K (fZ dst sv env) (lS h us)):rR P n0 f args dst r k K env h:=⟨pre,us,sv,hc,hp,hu,hn⟩
theorem ag {P:Program} {n0:Nat} {f:FuncId} {args:List SV} {dst:Option Nat} {r:List bE} {k:List It} {K:Ex→St→Prop} {env:List (Nat×SV)} {h:List (Option HB)} {sv:SV}
 (hc:aG P f args [] [] sv) (hn:G P n0 (.o r::k) K (fZ dst sv env) h):rR P n0 f args dst r k K env h:=⟨[],[],sv,hc,fun q hq=>by simp at hq,trivial,hn⟩
theorem cg {P:Program} {n0:Nat} {aV:List Nat} {acc:List TE} {fB qZ:List Nat} {f:FuncId} {args:List SV} {dst:Option Nat} {r:List bE} {k:List It} {K:Ex→St→Prop} {env:List (Nat×SV)} {h:List (Option HB)} {pre us:List (Nat×HB)} {sv:SV}
 (hc:aG P f args pre us sv) (hp:aU (aB h) pre) (hu:bh pre h us) (hn:G P n0 (.d aV (acc++[⟨fB,dst,qZ++pre.map (·.1),us.map (·.1)⟩]) r::k) K (fZ dst sv env) (lS h us)):rS P n0 aV acc fB qZ f args dst r k K env h:=⟨pre,us,sv,hc,hp,hu,hn⟩
theorem ah {P:Program} {n0:Nat} {aV:List Nat} {acc:List TE} {fB qZ:List Nat} {f:FuncId} {args:List SV} {dst:Option Nat} {r:List bE} {k:List It} {K:Ex→St→Prop} {env:List (Nat×SV)} {h:List (Option HB)} {sv:SV}
 (hc:aG P f args [] [] sv) (hn:G P n0 (.d aV (acc++[⟨fB,dst,qZ,[]⟩]) r::k) K (fZ dst sv env) h):rS P n0 aV acc fB qZ f args dst r k K env h:=⟨[],[],sv,hc,fun q hq=>by simp at hq,trivial,by simpa [lS] using hn⟩
theorem fG {P:Program} {n0:Nat} {a:AC} {k:List It} {K:Ex→St→Prop} {env:List (Nat×SV)} {h:List (Option HB)} {ι:Type} (en:ι→List (Nat×SV)) (hh:ι→List (Option HB)) (pr:ι→Prop) (μ:ι→Nat) (i0:ι)
 (h0:pr i0) (he:fS n0 ⟨env,h⟩ ⟨en i0,hh i0⟩)
 (hr:∀ i,pr i→∀ K':Ex→St→Prop,(∀ i' e' h',pr i'→μ i'<μ i→fS n0 ⟨e',h'⟩ ⟨en i',hh i'⟩→K' .normal ⟨e',h'⟩)→(∀ id e' h',GX P n0 id k K e' h'→K' (.exit id) ⟨e',h'⟩)→(∀ e' h',K .ret ⟨e',h'⟩→K' .ret ⟨e',h'⟩)→G P n0 [.c a] K' (en i) (hh i)) :
 G P n0 (.c (.loop a)::k) K env h:=by
 refine ⟨ι,fun i=>⟨en i,hh i⟩,pr,μ,i0,h0,he,fun i hi=>?_⟩
 refine hr i hi (mW (fun s'=>∃ i',pr i'∧μ i'<μ i∧fS n0 s' ⟨en i',hh i'⟩) (CI P n0 k K)) (fun i' e' h' h1 h2 h3=>⟨i',h1,h2,h3⟩) (fun id e' h' hx=>hx) (fun e' h' hx=>?_)
 show CI P n0 k K .ret _
 rw [rL];exact hx
theorem aA {P:Program} {n0:Nat} {k:List It} {K:Ex→St→Prop} {env:List (Nat×SV)} {h:List (Option HB)} (hg:G P n0 k K env h):G P n0 (.c .pW::k) K env h:=⟨⟨env,h⟩,fun _ _ _ R=>R,hg⟩
theorem jk {P:Program} {n0:Nat} {k:List It} {K:Ex→St→Prop} {env:List (Nat×SV)} {h:List (Option HB)} (env':List (Nat×SV)) (h':List (Option HB)) (he:fS n0 ⟨env,h⟩ ⟨env',h'⟩) (hg:G P n0 k K env' h'):G P n0 (.c .pW::k) K env h:=⟨⟨env',h'⟩,he,hg⟩
end Go.aJ

namespace Go.aJ
open Go
inductive Bk (σ:Nat→Option Nat):SV→SV→Prop where
 | dead (y:SV):Bk σ .dead y
 | rv (r:RV):Bk σ (.rv r) (.rv r)
 | ptr (j id off:Nat) (h:σ j=some id):Bk σ (.ptr j off) (.ptr id off)
 | bW (j id aq i off:Nat) (h:σ j=some id):Bk σ (.bW j aq i off) (.bW id aq i off)
 | row (j id aq len:Nat) (h:σ j=some id):Bk σ (.row j aq len) (.row id aq len)
 | win (j id aq off len:Nat) (h:σ j=some id):Bk σ (.win j aq off len) (.win id aq off len)
 | agg (xs ys:List SV) (hl:xs.length=ys.length) (h:∀ (i:Nat) (x y:SV),xs[i]?=some x→ys[i]?=some y→Bk σ x y):Bk σ (.agg xs) (.agg ys)
 | aP (xs ys:List SV) (hl:xs.length=ys.length) (h:∀ (i:Nat) (x y:SV),xs[i]?=some x→ys[i]?=some y→Bk σ x y):Bk σ (.aP xs) (.aP ys)
 | fn (f:FuncId) (xs ys:List SV) (hl:xs.length=ys.length) (h:∀ (i:Nat) (x y:SV),xs[i]?=some x→ys[i]?=some y→Bk σ x y):Bk σ (.fn f xs) (.fn f ys)
 | fE (f:FuncId) (xs ys:List SV) (hl:xs.length=ys.length) (h:∀ (i:Nat) (x y:SV),xs[i]?=some x→ys[i]?=some y→Bk σ x y):Bk σ (.fE f xs) (.fE f ys)
 | bU (t:TypeId) (x y:SV) (h:Bk σ x y):Bk σ (.bU t x) (.bU t y)
def rK (σ:Nat→Option Nat) (xs ys:List SV):Prop:=xs.length=ys.length∧∀ (i:Nat) (x y:SV),xs[i]?=some x→ys[i]?=some y→Bk σ x y
inductive mD (σ:Nat→Option Nat):HB→HB→Prop where
 | var (xs ys:List SV) (h:rK σ xs ys):mD σ (.var xs) (.var ys)
 | row (e aq:Nat) (xs ys:List (List SV)) (hl:xs.length=ys.length) (h:∀ (i:Nat) (x y:List SV),xs[i]?=some x→ys[i]?=some y→rK σ x y):mD σ (.row e aq xs) (.row e aq ys)
section entry
variable {w:World} {ok fM:Nat→Prop} {aa aH:Nat→Option Nat} {hp aD:Hp} {σ:Nat→Option Nat}
theorem Rp.back (hro:∀ b,ok b→fM b) (hs:∀ j id,σ j=some id→aH j=aa id∧((hp id).isSome=true→(aD j).isSome=true)∧(∀ cs,aD j=some (.var cs)→∃ cs',hp id=some (.var cs'))∧∀ e aq xs,aD j=some (.row e aq xs)→∃ xs',hp id=some (.row e aq xs')) {x y:SV} {v:Value} (hr:Rp w ok aa hp y v) (hb:Bk σ x y):Rp w fM aH aD x v:=by
 induction hb generalizing v with
 | dead y=>exact .dead v
 | rv r=>cases hr with | rv _ _ h=>exact .rv r v (h.mono fun b hb _=>⟨hro b hb,rfl⟩)
 | ptr j id off hj=>
   obtain ⟨g1,g2,g3,g4⟩:=hs j id hj
   cases hr with
   | ptr _ _ _ h1 h0 h=>
     refine .ptr j off v h1 (g2 h0) (fun cs hc=>?_)
     obtain ⟨cs',nk⟩:=g3 cs hc
     rw [g1];exact h cs' nk
 | bW j id aq i off hj=>
   obtain ⟨g1,g2,g3,g4⟩:=hs j id hj
   cases hr with
   | bW _ _ _ _ _ h1 h0 hv h=>
     refine .bW j aq i off v h1 (g2 h0) (fun e fW xs hx=>?_) (fun e xs hx=>?_)
     ·obtain ⟨xs',hx'⟩:=g4 e fW xs hx;exact hv e fW xs' hx'
     ·obtain ⟨xs',hx'⟩:=g4 e aq xs hx;rw [g1];exact h e xs' hx'
 | row j id aq len hj=>
   obtain ⟨g1,g2,g3,g4⟩:=hs j id hj
   cases hr with
   | row _ _ _ _ h1 h0 hv h=>
     refine .row j aq len v h1 (g2 h0) (fun e fW xs hx=>?_) (fun e xs hx=>?_)
     ·obtain ⟨xs',hx'⟩:=g4 e fW xs hx;exact hv e fW xs' hx'
     ·obtain ⟨xs',hx'⟩:=g4 e aq xs hx;rw [g1];exact h e xs' hx'
 | win j id aq off len hj=>
   obtain ⟨g1,g2,g3,g4⟩:=hs j id hj
   cases hr with
   | win _ _ _ _ _ h1 h0 hv hr hc=>
     refine .win j aq off len v h1 (g2 h0) (fun e fW xs hx=>?_) (fun e xs hx=>?_) (fun cs hx=>?_)
     ·obtain ⟨xs',hx'⟩:=g4 e fW xs hx;exact hv e fW xs' hx'
     ·obtain ⟨xs',hx'⟩:=g4 e aq xs hx;rw [g1];exact hr e xs' hx'
     ·obtain ⟨cs',hx'⟩:=g3 cs hx;rw [g1];exact hc cs' hx'
 | agg xs ys hl h ih=>
   cases hr with
   | agg _ vs hvl h1 hy=>
     refine .agg xs vs (by omega) h1 (fun j x hx=>?_)
     have hlt:=(List.getElem?_eq_some_iff.1 hx).1
     have fK:=List.getElem?_eq_getElem (l:=ys) (i:=j) (by omega)
     exact ih j x _ hx fK (hy j _ fK)
 | aP xs ys hl h ih=>
   cases hr with
   | aP _ vs hvl hy=>
     refine .aP xs vs (by omega) (fun j x hx=>?_)
     have hlt:=(List.getElem?_eq_some_iff.1 hx).1
     have fK:=List.getElem?_eq_getElem (l:=ys) (i:=j) (by omega)
     exact ih j x _ hx fK (hy j _ fK)
 | fn f xs ys hl h ih=>
   cases hr with
   | fn _ _ vs hvl hy=>
     refine .fn f xs vs (by omega) (fun j x hx=>?_)
     have hlt:=(List.getElem?_eq_some_iff.1 hx).1
     have fK:=List.getElem?_eq_getElem (l:=ys) (i:=j) (by omega)
     exact ih j x _ hx fK (hy j _ fK)
 | fE f xs ys hl h ih=>
   cases hr with
   | fE _ _ vs hvl hy=>
     refine .fE f xs vs (by omega) (fun j x hx=>?_)
     have hlt:=(List.getElem?_eq_some_iff.1 hx).1
     have fK:=List.getElem?_eq_getElem (l:=ys) (i:=j) (by omega)
     exact ih j x _ hx fK (hy j _ fK)
 | bU t x y h ih=>cases hr with | bU _ _ v0 h0=>exact .bU t x v0 (ih h0)
theorem gB.back (hro:∀ b,ok b→fM b) (hs:∀ j id,σ j=some id→aH j=aa id∧((hp id).isSome=true→(aD j).isSome=true)∧(∀ cs,aD j=some (.var cs)→∃ cs',hp id=some (.var cs'))∧∀ e aq xs,aD j=some (.row e aq xs)→∃ xs',hp id=some (.row e aq xs')) {cur:Array Value} {off:Nat} {xs ys:List SV} (h:gB w ok aa hp cur off ys) (hb:rK σ xs ys):gB w fM aH aD cur off xs:=fun j x hx=>by
 obtain ⟨hl,hb⟩:=hb
 have hlt:=(List.getElem?_eq_some_iff.1 hx).1
 have fK:=List.getElem?_eq_getElem (l:=ys) (i:=j) (by omega)
 obtain ⟨v,h1,h2,h3⟩:=h j _ fK
 exact ⟨v,h1,h2,h3.back hro hs (hb j x _ hx fK)⟩
theorem lT.back (hro:∀ b,ok b→fM b) (hs:∀ j id,σ j=some id→aH j=aa id∧((hp id).isSome=true→(aD j).isSome=true)∧(∀ cs,aD j=some (.var cs)→∃ cs',hp id=some (.var cs'))∧∀ e aq xs,aD j=some (.row e aq xs)→∃ xs',hp id=some (.row e aq xs')) {j id:Nat} (hj:σ j=some id) {x y:HB} (h:lT w ok aa hp id y) (hb:mD σ x y):lT w fM aH aD j x:=by
 have g1:=(hs j id hj).1
 rcases h with ⟨h1,e,aq,rfl⟩ | ⟨b,cur,t,h1,h2,h3⟩
 ·cases hb with
  | row _ _ xs _ hl _=>
    have:xs=[]:=List.eq_nil_of_length_eq_zero (by simpa using hl)
    subst this
    exact .inl ⟨g1.trans h1,e,aq,rfl⟩
 ·refine .inr ⟨b,cur,t,g1.trans h1,h2,?_⟩
  cases hb with
  | var xs ys hb=>exact ⟨by rw [h3.1,hb.1],h3.2.back hro hs hb⟩
  | row e aq xs ys hl hb=>
    obtain ⟨a1,a2,a3⟩:=h3
    refine ⟨fun x hx=>?_,by rw [hl];exact a2,fun i x hx=>?_⟩
    ·obtain ⟨i,hi,rfl⟩:=List.mem_iff_getElem.1 hx
     have hy:=List.getElem?_eq_getElem (l:=ys) (i:=i) (by omega)
     rw [(hb i _ _ (List.getElem?_eq_getElem hi) hy).1]
     exact a1 _ (List.getElem_mem _)
    ·have hlt:=(List.getElem?_eq_some_iff.1 hx).1
     have hy:=List.getElem?_eq_getElem (l:=ys) (i:=i) (by omega)
     exact (a3 i _ hy).back hro hs (hb i x _ hx hy)
end entry
inductive Fz (τ:Nat→Option Nat) (h:Hp):SV→RV→Prop where
 | rv (r:RV):Fz τ h (.rv r) r
 | ptr (j:Nat) (cs:List SV) (rs:List RV) (hj:τ j=none) (hh:h j=some (.var cs)) (hl:cs.length=rs.length) (h1:∀ (i:Nat) (r:RV),rs[i]?=some r→r.one=true) (hf:∀ (i:Nat) (x:SV) (r:RV),cs[i]?=some x→rs[i]?=some r→Fz τ h x r):Fz τ h (.ptr j 0) (.rop rs)
 | row (j e aq len:Nat) (xs:List (List SV)) (rs:List (List RV)) (hj:τ j=none) (hh:h j=some (.row e aq xs)) (hl:rs.length=len) (hx:len≤xs.length) (hm:∀ (i:Nat) (x:List SV) (r:List RV),xs[i]?=some x→rs[i]?=some r→x.length=r.length)
    (h1:∀ (i:Nat) (r:List RV) (k:Nat) (q:RV),rs[i]?=some r→r[k]?=some q→q.one=true) (hf:∀ (i:Nat) (x:List SV) (r:List RV) (k:Nat) (y:SV) (q:RV),xs[i]?=some x→rs[i]?=some r→x[k]?=some y→r[k]?=some q→Fz τ h y q):Fz τ h (.row j aq len) (.sl e rs)
 | win (j aq off e len:Nat) (cs:List SV) (rs:List (List RV)) (hj:τ j=none) (hh:h j=some (.var cs)) (hl:rs.length=len) (hx:off+len*e≤cs.length) (hm:∀ r∈rs,r.length=e)
    (h1:∀ (i:Nat) (r:List RV) (k:Nat) (q:RV),rs[i]?=some r→r[k]?=some q→q.one=true) (hf:∀ (i:Nat) (r:List RV) (k:Nat) (y:SV) (q:RV),rs[i]?=some r→cs[off+(i*e+k)]?=some y→r[k]?=some q→Fz τ h y q):Fz τ h (.win j aq off len) (.sl e rs)
 | agg (cs:List SV) (rs:List RV) (hl:cs.length=rs.length) (h1:∀ (i:Nat) (r:RV),rs[i]?=some r→r.one=true) (hf:∀ (i:Nat) (x:SV) (r:RV),cs[i]?=some x→rs[i]?=some r→Fz τ h x r):Fz τ h (.agg cs) (.agg rs)
 | fn (f:FuncId) (cs:List SV) (rs:List RV) (hl:cs.length=rs.length) (hf:∀ (i:Nat) (x:SV) (r:RV),cs[i]?=some x→rs[i]?=some r→Fz τ h x r):Fz τ h (.fn f cs) (.fn f rs)
 | bU (t:TypeId) (x:SV) (r:RV) (hf:Fz τ h x r):Fz τ h (.bU t x) (.bU t r)
inductive Rn (τ:Nat→Option Nat) (h:Hp):SV→SV→Prop where
 | dead (x:SV):Rn τ h x .dead
 | fz (x:SV) (r:RV) (hf:Fz τ h x r):Rn τ h x (.rv r)
 | ptr (j id off:Nat) (hj:τ j=some id):Rn τ h (.ptr j off) (.ptr id off)
 | bW (j id aq i off:Nat) (hj:τ j=some id):Rn τ h (.bW j aq i off) (.bW id aq i off)
 | row (j id aq len:Nat) (hj:τ j=some id):Rn τ h (.row j aq len) (.row id aq len)
 | win (j id aq off len:Nat) (hj:τ j=some id):Rn τ h (.win j aq off len) (.win id aq off len)
 | agg (xs ys:List SV) (hl:xs.length=ys.length) (hf:∀ (i:Nat) (x y:SV),xs[i]?=some x→ys[i]?=some y→Rn τ h x y):Rn τ h (.agg xs) (.agg ys)
 | aP (xs ys:List SV) (hl:xs.length=ys.length) (hf:∀ (i:Nat) (x y:SV),xs[i]?=some x→ys[i]?=some y→Rn τ h x y):Rn τ h (.aP xs) (.aP ys)
 | fn (f:FuncId) (xs ys:List SV) (hl:xs.length=ys.length) (hf:∀ (i:Nat) (x y:SV),xs[i]?=some x→ys[i]?=some y→Rn τ h x y):Rn τ h (.fn f xs) (.fn f ys)
 | fE (f:FuncId) (xs ys:List SV) (hl:xs.length=ys.length) (hf:∀ (i:Nat) (x y:SV),xs[i]?=some x→ys[i]?=some y→Rn τ h x y):Rn τ h (.fE f xs) (.fE f ys)
 | bU (t:TypeId) (x y:SV) (hf:Rn τ h x y):Rn τ h (.bU t x) (.bU t y)
def rP (τ:Nat→Option Nat) (h:Hp) (xs ys:List SV):Prop:=xs.length=ys.length∧∀ (i:Nat) (x y:SV),xs[i]?=some x→ys[i]?=some y→Rn τ h x y
inductive oP (τ:Nat→Option Nat) (h:Hp):HB→HB→Prop where
 | var (xs ys:List SV) (hf:rP τ h xs ys):oP τ h (.var xs) (.var ys)
 | row (e aq:Nat) (xs ys:List (List SV)) (hl:xs.length=ys.length) (hf:∀ (i:Nat) (x y:List SV),xs[i]?=some x→ys[i]?=some y→rP τ h x y):oP τ h (.row e aq xs) (.row e aq ys)
section leave
variable {w:World} {ok fM:Nat→Prop} {aa aH:Nat→Option Nat} {hp aD:Hp} {τ:Nat→Option Nat}
theorem Fz.ro (hro:∀ b,fM b→ok b) (hfz:∀ j b,τ j=none→(aD j).isSome=true→aH j=some b→ok b) (hmem:∀ j hb,aD j=some hb→lT w fM aH aD j hb) {x:SV} {r:RV} {v:Value} (hr:Rp w fM aH aD x v) (hf:Fz τ aD x r):RO w ok r v:=by
 induction hf generalizing v with
 | rv r=>cases hr with | rv _ _ h=>exact h.mono fun b hb _=>⟨hro b hb,rfl⟩
 | ptr j cs rs hj hh hl ho hf ih=>
   cases hr with
   | ptr _ _ _ h1 h0 h=>
     obtain ⟨b,hb,rfl⟩:=h cs hh
     rcases hmem j _ hh with ⟨h1,_⟩ | ⟨b',cur,t,h1,h2,h3⟩
     ·rw [hb] at h1;cases h1
     ·rw [hb] at h1;cases h1
      have hcell:∀ (i:Nat) (r:RV),rs[i]?=some r→∃ u,w.cell? ((⟨b,0,none⟩:Addr).add i)=some u∧RO w ok r u∧r.one=true:=fun i r hi=>by
       have hlt:=(List.getElem?_eq_some_iff.1 hi).1
       have hx:=List.getElem?_eq_getElem (l:=cs) (i:=i) (by omega)
       obtain ⟨u,a1,a2,a3⟩:=h3.2 i _ hx
       refine ⟨u,?_,ih i _ r hx hi a3,ho i r hi⟩
       rw [add_lit,pQ h2];exact a1
      refine .rop rs ⟨b,0,none⟩ (fun i=>(w.cell? ((⟨b,0,none⟩:Addr).add i)).getD undef) (fun i r hi=>?_) (fun i r hi=>?_) (fun i r hi=>?_)
      ·obtain ⟨u,a1,_⟩:=hcell i r hi
       exact ⟨hfz j b hj (by simp [hh]) hb,by rw [a1];rfl⟩
      ·obtain ⟨u,_,_,a3⟩:=hcell i r hi;exact a3
      ·obtain ⟨u,a1,a2,_⟩:=hcell i r hi;rw [a1];exact a2
 | row j e aq len xs rs hj hh hl hx hm ho hf ih=>
   cases hr with
   | row _ _ _ _ h1 h0 hv h=>
     rcases h e xs hh with ⟨g1,rfl,g3⟩ | ⟨b,cap,cur,t,g1,rfl,g3,g4,g5,g6⟩
     ·have:rs=[]:=List.eq_nil_of_length_eq_zero (by omega)
      subst this
      exact .sl e [] none 0 (fun _ _=>undef) (fun _=>⟨rfl,rfl⟩) (by simp) (by simp [maxLen]) (by simp) (fun i x j y hx=>by simp at hx) (fun i x j y hx=>by simp at hx) (fun i x j y hx=>by simp at hx)
     ·rcases hmem j _ hh with ⟨h1,_⟩ | ⟨b',cur',t',k1,k2,k3⟩
      ·rw [g1] at h1;cases h1
      ·rw [g1] at k1;cases k1
       rw [g3] at k2;cases k2
       obtain ⟨a1,a2,a3⟩:=k3
       have hlen:∀ (i:Nat) (r:List RV),rs[i]?=some r→∃ x,xs[i]?=some x∧x.length=e∧x.length=r.length:=fun i r hi=>by
        have hlt:=(List.getElem?_eq_some_iff.1 hi).1
        have jY:=List.getElem?_eq_getElem (l:=xs) (i:=i) (by omega)
        exact ⟨_,jY,a1 _ (List.getElem_mem _),hm i _ r jY hi⟩
       have hcell:∀ (i:Nat) (r:List RV) (k:Nat) (q:RV),rs[i]?=some r→r[k]?=some q→∃ u,w.cell? ((⟨b,0,none⟩:Addr).add (i*e+k))=some u∧RO w ok q u∧q.one=true:=fun i r k q hi hk=>by
        obtain ⟨x,jY,qP,VR⟩:=hlen i r hi
        have hlt:=(List.getElem?_eq_some_iff.1 hk).1
        have hy:=List.getElem?_eq_getElem (l:=x) (i:=k) (by omega)
        obtain ⟨u,b1,b2,b3⟩:=a3 i x jY k _ hy
        refine ⟨u,?_,ih i x r k _ q jY hi hy hk b3,ho i r k q hi hk⟩
        rw [add_lit,pQ g3,Nat.zero_add];exact b1
       rw [← hl]
       refine .sl e rs (some ⟨b,0,none⟩) cap (fun i k=>(w.cell? ((⟨b,0,none⟩:Addr).add (i*e+k))).getD undef) (fun h=>by cases h) (by omega) g5 (fun r hr=>?_) (fun i r k q hi hk=>?_) (fun i r k q hi hk=>?_) (fun i r k q hi hk=>?_)
       ·obtain ⟨i,hi,rfl⟩:=List.mem_iff_getElem.1 hr
        obtain ⟨x,_,b1,b2⟩:=hlen i _ (List.getElem?_eq_getElem hi)
        omega
       ·obtain ⟨u,b1,_⟩:=hcell i r k q hi hk
        exact ⟨_,rfl,hfz j b hj (by simp [hh]) g1,by rw [b1];rfl⟩
       ·obtain ⟨u,_,_,b3⟩:=hcell i r k q hi hk;exact b3
       ·obtain ⟨u,b1,b2,_⟩:=hcell i r k q hi hk;rw [b1];exact b2
 | win j aq off e len cs rs hj hh hl hx hm ho hf ih=>
   cases hr with
   | win _ _ _ _ _ h1 h0 hv hr hc=>
     obtain ⟨ad,cap,rfl,g1,g2,g3,g4⟩:=hc cs hh
     rw [← hl]
     have key:∀ (i:Nat) (r:List RV) (k:Nat) (q:RV),rs[i]?=some r→r[k]?=some q→∃ a u,ad=some a∧ok a.block∧w.cell? (a.add (i*e+k))=some u∧RO w ok q u:=fun i r k q hi hk=>by
      have hlt:=(List.getElem?_eq_some_iff.1 hi).1
      have VK:=hm r (List.mem_of_getElem? hi)
      have gF:=(List.getElem?_eq_some_iff.1 hk).1
      obtain ⟨b,hb,rfl⟩:=g4 (by omega)
      rcases hmem j _ hh with ⟨h1,_,_,h2⟩ | ⟨b',cur,t,a1,a2,a3⟩
      ·cases h2
      ·rw [hb] at a1;cases a1
       have hik:i*e+k<len*e:=by
        have:(i+1)*e≤len*e:=Nat.mul_le_mul_right _ (by omega)
        rw [Nat.add_mul] at this;omega
       have hy:=List.getElem?_eq_getElem (l:=cs) (i:=off+(i*e+k)) (by omega)
       obtain ⟨u,b1,b2,b3⟩:=a3.2 _ _ hy
       refine ⟨⟨b,off,none⟩,u,rfl,hfz j b hj (by simp [hh]) hb,?_,ih i r k _ q hi hy hk b3⟩
       rw [add_lit,pQ a2];simpa using b1
     refine .sl e rs ad cap (fun i k=>match ad with | some a=>(w.cell? (a.add (i*e+k))).getD undef | none=>undef) (fun h=>?_) (by omega) g2 hm (fun i r k q hi hk=>?_) ho (fun i r k q hi hk=>?_)
     ·have:=g3 h;exact ⟨List.eq_nil_of_length_eq_zero (by omega),this⟩
     ·obtain ⟨a,u,rfl,b1,b2,b3⟩:=key i r k q hi hk
      exact ⟨a,rfl,b1,by simp only [b2];rfl⟩
     ·obtain ⟨a,u,rfl,b1,b2,b3⟩:=key i r k q hi hk
      simp only [b2];exact b3
 | agg cs rs hl ho hf ih=>
   cases hr with
   | agg _ vs hvl h1 hy=>
     refine .agg rs vs (by omega) (fun i r hi=>?_) (fun i r hi=>?_)
     ·have hlt:=(List.getElem?_eq_some_iff.1 hi).1
      exact ho i r hi
     ·have hlt:=(List.getElem?_eq_some_iff.1 hi).1
      have hx:=List.getElem?_eq_getElem (l:=cs) (i:=i) (by omega)
      exact ih i _ r hx hi (hy i _ hx)
 | fn f cs rs hl hf ih=>
   cases hr with
   | fn _ _ vs hvl hy=>
     refine .fn f rs vs (by omega) (fun i r hi=>?_)
     have hlt:=(List.getElem?_eq_some_iff.1 hi).1
     have hx:=List.getElem?_eq_getElem (l:=cs) (i:=i) (by omega)
     exact ih i _ r hx hi (hy i _ hx)
 | bU t x r hf ih=>cases hr with | bU _ _ v0 h0=>exact .bU t r v0 (ih h0)
theorem Rp.leave (hro:∀ b,fM b→ok b) (hfz:∀ j b,τ j=none→(aD j).isSome=true→aH j=some b→ok b) (hmem:∀ j hb,aD j=some hb→lT w fM aH aD j hb)
 (hs:∀ j id,τ j=some id→aH j=aa id∧((aD j).isSome=true→(hp id).isSome=true)∧(∀ cs,hp id=some (.var cs)→∃ cs',aD j=some (.var cs'))∧∀ e aq xs,hp id=some (.row e aq xs)→∃ xs',aD j=some (.row e aq xs'))
 {x y:SV} {v:Value} (hr:Rp w fM aH aD x v) (hf:Rn τ aD x y):Rp w ok aa hp y v:=by
 induction hf generalizing v with
 | dead x=>exact .dead v
 | fz x r hf=>exact .rv r v (Fz.ro hro hfz hmem hr hf)
 | ptr j id off hj=>
   obtain ⟨g1,g2,g3,g4⟩:=hs j id hj
   cases hr with
   | ptr _ _ _ h1 h0 h=>
     refine .ptr id off v h1 (g2 h0) (fun cs hc=>?_)
     obtain ⟨cs',nk⟩:=g3 cs hc
     rw [← g1];exact h cs' nk
 | bW j id aq i off hj=>
   obtain ⟨g1,g2,g3,g4⟩:=hs j id hj
   cases hr with
   | bW _ _ _ _ _ h1 h0 hv h=>
     refine .bW id aq i off v h1 (g2 h0) (fun e fW xs hx=>?_) (fun e xs hx=>?_)
     ·obtain ⟨xs',hx'⟩:=g4 e fW xs hx;exact hv e fW xs' hx'
     ·obtain ⟨xs',hx'⟩:=g4 e aq xs hx;rw [← g1];exact h e xs' hx'
 | row j id aq len hj=>
   obtain ⟨g1,g2,g3,g4⟩:=hs j id hj
   cases hr with
   | row _ _ _ _ h1 h0 hv h=>
     refine .row id aq len v h1 (g2 h0) (fun e fW xs hx=>?_) (fun e xs hx=>?_)
     ·obtain ⟨xs',hx'⟩:=g4 e fW xs hx;exact hv e fW xs' hx'
     ·obtain ⟨xs',hx'⟩:=g4 e aq xs hx;rw [← g1];exact h e xs' hx'
 | win j id aq off len hj=>
   obtain ⟨g1,g2,g3,g4⟩:=hs j id hj
   cases hr with
   | win _ _ _ _ _ h1 h0 hv hr hc=>
     refine .win id aq off len v h1 (g2 h0) (fun e fW xs hx=>?_) (fun e xs hx=>?_) (fun cs hx=>?_)
     ·obtain ⟨xs',hx'⟩:=g4 e fW xs hx;exact hv e fW xs' hx'
     ·obtain ⟨xs',hx'⟩:=g4 e aq xs hx;rw [← g1];exact hr e xs' hx'
     ·obtain ⟨cs',hx'⟩:=g3 cs hx;rw [← g1];exact hc cs' hx'
 | agg xs ys hl h ih=>
   cases hr with
   | agg _ vs hvl h1 hy=>
     refine .agg ys vs (by omega) h1 (fun j y fK=>?_)
     have hlt:=(List.getElem?_eq_some_iff.1 fK).1
     have hx:=List.getElem?_eq_getElem (l:=xs) (i:=j) (by omega)
     exact ih j _ y hx fK (hy j _ hx)
 | aP xs ys hl h ih=>
   cases hr with
   | aP _ vs hvl hy=>
     refine .aP ys vs (by omega) (fun j y fK=>?_)
     have hlt:=(List.getElem?_eq_some_iff.1 fK).1
     have hx:=List.getElem?_eq_getElem (l:=xs) (i:=j) (by omega)
     exact ih j _ y hx fK (hy j _ hx)
 | fn f xs ys hl h ih=>
   cases hr with
   | fn _ _ vs hvl hy=>
     refine .fn f ys vs (by omega) (fun j y fK=>?_)
     have hlt:=(List.getElem?_eq_some_iff.1 fK).1
     have hx:=List.getElem?_eq_getElem (l:=xs) (i:=j) (by omega)
     exact ih j _ y hx fK (hy j _ hx)
 | fE f xs ys hl h ih=>
   cases hr with
   | fE _ _ vs hvl hy=>
     refine .fE f ys vs (by omega) (fun j y fK=>?_)
     have hlt:=(List.getElem?_eq_some_iff.1 fK).1
     have hx:=List.getElem?_eq_getElem (l:=xs) (i:=j) (by omega)
     exact ih j _ y hx fK (hy j _ hx)
 | bU t x y h ih=>cases hr with | bU _ _ v0 h0=>exact .bU t y v0 (ih h0)
theorem gB.leave (hro:∀ b,fM b→ok b) (hfz:∀ j b,τ j=none→(aD j).isSome=true→aH j=some b→ok b) (hmem:∀ j hb,aD j=some hb→lT w fM aH aD j hb)
 (hs:∀ j id,τ j=some id→aH j=aa id∧((aD j).isSome=true→(hp id).isSome=true)∧(∀ cs,hp id=some (.var cs)→∃ cs',aD j=some (.var cs'))∧∀ e aq xs,hp id=some (.row e aq xs)→∃ xs',aD j=some (.row e aq xs'))
 {cur:Array Value} {off:Nat} {xs ys:List SV} (h:gB w fM aH aD cur off xs) (hb:rP τ aD xs ys):gB w ok aa hp cur off ys:=fun j y fK=>by
 obtain ⟨hl,hb⟩:=hb
 have hlt:=(List.getElem?_eq_some_iff.1 fK).1
 have hx:=List.getElem?_eq_getElem (l:=xs) (i:=j) (by omega)
 obtain ⟨v,h1,h2,h3⟩:=h j _ hx
 exact ⟨v,h1,h2,h3.leave hro hfz hmem hs (hb j _ y hx fK)⟩
theorem lT.leave (hro:∀ b,fM b→ok b) (hfz:∀ j b,τ j=none→(aD j).isSome=true→aH j=some b→ok b) (hmem:∀ j hb,aD j=some hb→lT w fM aH aD j hb)
 (hs:∀ j id,τ j=some id→aH j=aa id∧((aD j).isSome=true→(hp id).isSome=true)∧(∀ cs,hp id=some (.var cs)→∃ cs',aD j=some (.var cs'))∧∀ e aq xs,hp id=some (.row e aq xs)→∃ xs',aD j=some (.row e aq xs'))
 {j id:Nat} (hj:τ j=some id) {x y:HB} (h:lT w fM aH aD j x) (hb:oP τ aD x y):lT w ok aa hp id y:=by
 have g1:=(hs j id hj).1
 rcases h with ⟨h1,e,aq,rfl⟩ | ⟨b,cur,t,h1,h2,h3⟩
 ·cases hb with
  | row _ _ _ ys hl _=>
    have:ys=[]:=List.eq_nil_of_length_eq_zero (by simpa using hl.symm)
    subst this
    exact .inl ⟨g1.symm.trans h1,e,aq,rfl⟩
 ·refine .inr ⟨b,cur,t,g1.symm.trans h1,h2,?_⟩
  cases hb with
  | var xs ys hb=>exact ⟨h3.1.trans hb.1,h3.2.leave hro hfz hmem hs hb⟩
  | row e aq xs ys hl hb=>
    obtain ⟨a1,a2,a3⟩:=h3
    refine ⟨fun y hy=>?_,by rw [← hl];exact a2,fun i y hy=>?_⟩
    ·obtain ⟨i,hi,rfl⟩:=List.mem_iff_getElem.1 hy
     have hx:=List.getElem?_eq_getElem (l:=xs) (i:=i) (by omega)
     rw [← (hb i _ _ hx (List.getElem?_eq_getElem hi)).1]
     exact a1 _ (List.getElem_mem _)
    ·have hlt:=(List.getElem?_eq_some_iff.1 hy).1
     have hx:=List.getElem?_eq_getElem (l:=xs) (i:=i) (by omega)
     exact (a3 i _ hx).leave hro hfz hmem hs (hb i _ y hx hy)
end leave
end Go.aJ

namespace Go.aJ
open Go
inductive RR where
 | t (n:Nat)
 | c (a n:Nat) (agg:Bool)
 deriving DecidableEq
def qF (P:Program):List ResultVar→Option (List RR)
 | []=>some []
 | .tmp t::r=>match qF P r with
   | some l=>some (.t t::l)
   | none=>none
 | .cell a t::r=>match bY P t,fA P t,qF P r with
   | some n,some agg,some l=>some (.c a n agg::l)
   | _,_,_=>none
def aX (en:Nat→SV) (hp:Hp):List RR→Option (Prop×List SV)
 | []=>some (True,[])
 | .t n::r=>match aX en hp r with
   | some (p,xs)=>some (p,en n::xs)
   | none=>none
 | .c a n agg::r=>match ia n agg hp (en a),aX en hp r with
   | some (q,x,_,_),some (p,xs)=>some (q∧p,x::xs)
   | _,_=>none
def bp:List SV→SV
 | [x]=>x
 | xs=>.aP xs
def nB:Nat→List SV→List (Nat×SV)
 | _,[]=>[]
 | n,x::r=>(n,x)::nB (n+1) r
theorem Gb:∀ (xs:List SV) (n m:Nat),lk (nB n xs) m=if n≤m then (xs[m - n]?).getD .dead else .dead
 | [],n,m=>by simp [nB,lk]
 | x::r,n,m=>by
   unfold nB lk
   by_cases h:n=m
   ·subst h;simp
   ·rw [if_neg h,Gb r (n+1) m]
    by_cases h1:n+1≤m
    ·rw [if_pos h1,if_pos (by omega)]
     rw [show m - n=(m - (n+1))+1 by omega,List.getElem?_cons_succ]
    ·rw [if_neg h1,if_neg (by omega)]
structure Fin (σ:List Nat) (pre us:List (Nat×HB)) (rs:List RR) (sv:SV) (env:List (Nat×SV)) (h:List (Option HB)) (τ:Nat→Option Nat):Prop where
 inj:∀ i j id,τ i=some id→τ j=some id→i=j
 old:∀ (j id:Nat),σ[j]?=some id→τ j=some id
 new:∀ j id,τ j=some id→σ.length≤j→id∈us.map (·.1)∧∀ q∈pre,q.1≠id
 has:∀ j id,τ j=some id→∃ hb hb',aB h j=some hb∧oP τ (aB h) hb hb'∧∀ hp,aU hp pre→bM hp us id=some hb'
 all:∀ q∈us,∃ j,τ j=some q.1
 res:∃ p xs,aX (lk env) (aB h) rs=some (p,xs)∧p∧Rn τ (aB h) (bp xs) sv
theorem zF {hp:Hp}:∀ {us:List (Nat×HB)} {id:Nat},id∉us.map (·.1)→bM hp us id=hp id
 | us,id,h=>sU (fun q hq he=>h (List.mem_map.2 ⟨q,hq,he⟩))
def Cg (vs:List Value):Value:=match vs with
 | [v]=>v
 | vs=>.tuple vs.toArray
theorem Sy {w:World} {ok:Nat→Prop} {aa:Nat→Option Nat} {hp:Hp} {xs:List SV} {vs:List Value} (hl:vs.length=xs.length) (h:∀ (j:Nat) (x:SV),xs[j]?=some x→Rp w ok aa hp x (vs.getD j undef)):Rp w ok aa hp (bp xs) (Cg vs):=by
 match xs,vs with
 | [],[]=>exact .aP [] [] rfl h
 | [x],[v]=>exact h 0 x rfl
 | x::y::r,u::v::s=>exact .aP _ _ hl h
theorem Re {P:Program} {t:TypeId} {v x:Value} {w w':World} (h:(Instr.loadAt t v).run P w = .ok x w'):(do loadVar t (← asAddr v):Sem Value).run P w = .ok x w':=by
 cases v with
 | pointer a=>
   cases a with
   | some a=>exact h
   | none=>simp [Instr.loadAt,Instr.sureAddr,stuck,Result.andThen] at h
 | _=>simp [Instr.loadAt,Instr.sureAddr,stuck,Result.andThen] at h
theorem SI {P:Program} {C:Ctx} {hp:Hp} {w:World} {aa:Nat→Option Nat} (R:cl C hp w aa) {en:Nat→SV} {tmps:Array Value} (he:∀ n,Rp w (aF C aa hp) aa hp (en n) (tmps.getD n undef)) {fn:Func} {rs:List RR} (h:qF P fn.results.toList=some rs) {p:Prop} {xs:List SV} (hr:aX en hp rs=some (p,xs)) (aD:p) :
 ∃ vs,(results fn tmps).run P w = .ok (Cg vs) w∧Rp w (aF C aa hp) aa hp (bp xs) (Cg vs):=by
 have key:∀ (l:List ResultVar) (rs:List RR) (p:Prop) (xs:List SV),qF P l=some rs→aX en hp rs=some (p,xs)→p→∃ vs,vs.length=xs.length∧(∀ (j:Nat) (x:SV),xs[j]?=some x→Rp w (aF C aa hp) aa hp x (vs.getD j undef))∧(l.mapM fun r=>(match r with
  | .tmp t=>pure (tmps.getD t undef)
  | .cell a t=>do loadVar t (← asAddr (tmps.getD a undef)):Sem Value)).run P w = .ok vs w:=by
  intro l
  induction l with
  | nil=>intro rs p xs h hr hp;cases h;cases hr;exact ⟨[],rfl,fun j x hx=>by simp at hx,rfl⟩
  | cons x r ih=>
    intro rs p xs h hr hp
    cases x with
    | tmp t=>
      unfold qF at h
      split at h
      ·rename_i l hl
       cases h
       unfold aX at hr
       split at hr
       ·rename_i p0 gz yF
        cases hr
        obtain ⟨vs,h1,h2,h3⟩:=ih l p gz hl yF hp
        refine ⟨tmps.getD t undef::vs,by simp [h1],fun j x hx=>?_,?_⟩
        ·cases j with
         | zero=>simp at hx;subst hx;exact he t
         | succ j=>exact h2 j x (by simpa using hx)
        ·simp only [List.mapM_cons,Sem.run_bind,Sem.run_pure,h3,Result.andThen]
       ·cases hr
      ·cases h
    | cell a t=>
      unfold qF at h
      split at h
      ·rename_i n agg l hs ha hl
       cases h
       unfold aX at hr
       split at hr
       ·rename_i q x u rd p0 gz hE yF
        cases hr
        obtain ⟨vs,h1,h2,h3⟩:=ih l p0 gz hl yF hp.2
        obtain ⟨_,y,hy1,yG⟩:=BN R hs ha (he a) hE hp.1
        refine ⟨y::vs,by simp [h1],fun j x hx=>?_,?_⟩
        ·cases j with
         | zero=>simp at hx;subst hx;exact yG
         | succ j=>exact h2 j x (by simpa using hx)
        ·have:=Re hy1
         rw [List.mapM_cons,Sem.run_bind]
         refine (congrArg (fun r=>Result.andThen r _) this).trans ?_
         simp only [Result.andThen,Sem.run_bind,h3,Sem.run_pure]
       ·cases hr
      ·cases h
 obtain ⟨vs,h1,h2,h3⟩:=key _ _ _ _ h hr aD
 have hm:(fn.results.mapM fun r=>(match r with
  | .tmp t=>pure (tmps.getD t undef)
  | .cell a t=>do loadVar t (← asAddr (tmps.getD a undef)):Sem Value)).run P w = .ok vs.toArray w:=by
  rw [Array.mapM_eq_mapM_toList,Sem.run_map,h3]
  rfl
 refine ⟨vs,?_,Sy h1 h2⟩
 unfold results
 rw [Sem.run_bind]
 refine (congrArg (fun r=>Result.andThen r _) hm).trans ?_
 show (pure _:Sem Value).run P w=_
 rw [Sem.run_pure]
 match vs with
 | []=>rfl
 | [t]=>rfl
 | t::u::r=>rfl
section
variable {P:Program} {C:Ctx} {hp:Hp} {w:World} {aa:Nat→Option Nat}
def inner (C:Ctx) (aa:Nat→Option Nat) (hp:Hp) (w:World) (N:Nat) (σ:List Nat) (hs0:List (Option HB)):Ctx:=
 ⟨w,aF C aa hp,fun b=>∃ (j:Nat) (id:Nat),σ[j]?=some id∧aa id=some b,N,fun j=>(σ[j]?).bind aa,aB hs0⟩
theorem oZ {hs:List (Option HB)} {j:Nat} {hb:HB}:aB hs j=some hb↔hs[j]?=some (some hb):=by
 unfold aB
 cases h:hs[j]? with
 | none=>simp
 | some x=>simp
theorem KU (R:cl C hp w aa) {N:Nat} {σ:List Nat} {hs0:List (Option HB)} {pre:List (Nat×HB)} (hpre:aU hp pre) (hl:hs0.length=σ.length) (hinj:∀ (i j id:Nat),σ[i]?=some id→σ[j]?=some id→i=j)
 (oq:∀ (j id:Nat),σ[j]?=some id→∃ hb hb',hs0[j]?=some (some hb)∧(id,hb')∈pre∧mD (fun j=>σ[j]?) hb hb') :
 cl (inner C aa hp w N σ hs0) (aB hs0) w (fun j=>(σ[j]?).bind aa)∧(∀ b,aF C aa hp b→aF (inner C aa hp w N σ hs0) (fun j=>(σ[j]?).bind aa) (aB hs0) b)∧
 (∀ {x y:SV} {v:Value},Rp w (aF C aa hp) aa hp y v→Bk (fun j=>σ[j]?) x y→Rp w (aF (inner C aa hp w N σ hs0) (fun j=>(σ[j]?).bind aa) (aB hs0)) (fun j=>(σ[j]?).bind aa) (aB hs0) x v):=by
 have at_:∀ j hb,aB hs0 j=some hb→∃ id hb',σ[j]?=some id∧hp id=some hb'∧mD (fun j=>σ[j]?) hb hb':=fun j hb h=>by
  rw [oZ] at h
  have hlt:=(List.getElem?_eq_some_iff.1 h).1
  have hid:=List.getElem?_eq_getElem (l:=σ) (i:=j) (by omega)
  obtain ⟨hb0,hb',h1,h2,h3⟩:=oq j _ hid
  rw [h] at h1;cases h1
  exact ⟨_,hb',hid,hpre _ h2,h3⟩
 have hro:∀ b,aF C aa hp b→aF (inner C aa hp w N σ hs0) (fun j=>(σ[j]?).bind aa) (aB hs0) b:=fun b hb=>by
  refine ⟨.inl hb,fun j hj=>?_⟩
  obtain ⟨x,hx⟩:=Option.isSome_iff_exists.1 hj
  obtain ⟨id,hb',h1,h2,h3⟩:=at_ j x hx
  simp only [h1,Option.bind_some]
  exact hb.2 id (by simp [h2])
 have hs:∀ (j id:Nat),σ[j]?=some id→(σ[j]?).bind aa=aa id∧((hp id).isSome=true→(aB hs0 j).isSome=true)∧(∀ cs,aB hs0 j=some (.var cs)→∃ cs',hp id=some (.var cs'))∧∀ e aq xs,aB hs0 j=some (.row e aq xs)→∃ xs',hp id=some (.row e aq xs'):=fun j id h=>by
  obtain ⟨hb0,hb',h1,h2,h3⟩:=oq j id h
  refine ⟨by rw [h];rfl,fun _=>by rw [oZ.2 h1];rfl,fun cs hc=>?_,fun e aq xs hc=>?_⟩
  ·rw [oZ.2 h1] at hc;cases hc
   cases h3 with
   | var _ ys _=>exact ⟨ys,hpre _ h2⟩
  ·rw [oZ.2 h1] at hc;cases hc
   cases h3 with
   | row _ _ _ ys _ _=>exact ⟨ys,hpre _ h2⟩
 refine ⟨⟨fun j hb h=>?_,fun i j b h1 h2 h3 h4=>?_,fun j b h1 h2=>?_,⟨rfl,rfl,rfl,Nat.le_refl _,fun b _ _=>rfl⟩,fun j hb hb0 h1 h2=>?_⟩,hro,fun hr hb=>hr.back hro hs hb⟩
 ·obtain ⟨id,hb',h1,h2,h3⟩:=at_ j hb h
  exact (R.heap id hb' h2).back hro hs h1 h3
 ·obtain ⟨x,hx⟩:=Option.isSome_iff_exists.1 h1
  obtain ⟨y,hy⟩:=Option.isSome_iff_exists.1 h2
  obtain ⟨id,_,a1,a2,_⟩:=at_ i x hx
  obtain ⟨id',_,b1,b2,_⟩:=at_ j y hy
  simp only [a1,b1,Option.bind_some] at h3 h4
  obtain rfl:=R.inj id id' b (by simp [a2]) (by simp [b2]) h3 h4
  exact hinj i j id a1 b1
 ·obtain ⟨x,hx⟩:=Option.isSome_iff_exists.1 h1
  obtain ⟨id,_,a1,a2,_⟩:=at_ j x hx
  simp only [a1,Option.bind_some] at h2
  exact ⟨.inl ⟨h1,by simp only [inner,a1,Option.bind_some];exact h2,j,id,a1,h2⟩,(R.own id b (by simp [a2]) h2).2⟩
 ·have qa:aB hs0 j=some hb0:=h2
  rw [h1] at qa;cases qa
  exact jt.refl _ _ _
theorem QM (R:cl C hp w aa) {N:Nat} {σ:List Nat} {hs0:List (Option HB)} {pre us:List (Nat×HB)} (hpre:aU hp pre) (hnew:rO C hp pre us)
 (oq:∀ (j id:Nat),σ[j]?=some id→∃ hb hb',hs0[j]?=some (some hb)∧(id,hb')∈pre∧mD (fun j=>σ[j]?) hb hb')
 {w':World} {aH:Nat→Option Nat} {h:List (Option HB)} (R':cl (inner C aa hp w N σ hs0) (aB h) w' aH) {rs:List RR} {sv:SV} {env:List (Nat×SV)} {τ:Nat→Option Nat} (F:Fin σ pre us rs sv env h τ) :
 ∃ gp,Step C hp (bM hp us) w w' aa gp∧∀ (x y:SV) (v:Value),Rp w' (aF (inner C aa hp w N σ hs0) aH (aB h)) aH (aB h) x v→Rn τ (aB h) x y→Rp w' (aF C gp (bM hp us)) gp (bM hp us) y v:=by
 classical
 let gp:Nat→Option Nat:=fun id=>if h:∃ j,τ j=some id then aH h.choose else aa id
 have rT:∀ j id,τ j=some id→gp id=aH j:=fun j id hj=>by
  have hex:∃ j,τ j=some id:=⟨j,hj⟩
  show (if h:∃ j,τ j=some id then aH h.choose else aa id)=_
  rw [dif_pos hex,F.inj _ _ _ hex.choose_spec hj]
 have rN:∀ id,(¬ ∃ j,τ j=some id)→gp id=aa id:=fun id hj=>by
  show (if h:∃ j,τ j=some id then aH h.choose else aa id)=_
  rw [dif_neg hj]
 have hT:∀ j id,τ j=some id→∃ hb hb',aB h j=some hb∧oP τ (aB h) hb hb'∧bM hp us id=some hb':=fun j id hj=>by
  obtain ⟨hb,hb',h1,h2,h3⟩:=F.has j id hj
  exact ⟨hb,hb',h1,h2,h3 hp hpre⟩
 have hN:∀ id,(¬ ∃ j,τ j=some id)→bM hp us id=hp id:=fun id hj=>sU (fun q hq he=>hj (by rw [← he];exact F.all q hq))
 have hold:∀ j id,τ j=some id→(hp id).isSome=true→σ[j]?=some id:=fun j id hj hs=>by
  by_cases hlt:j<σ.length
  ·have hid:=List.getElem?_eq_getElem hlt
   have:=F.old j _ hid
   rw [hj] at this;cases this
   exact hid
  ·obtain ⟨hu,hq⟩:=F.new j id hj (by omega)
   obtain ⟨q,Bl,mP⟩:=List.mem_map.1 hu
   rcases hnew q Bl with ⟨hb,hm⟩ | ⟨hn,_⟩
   ·exact absurd mP (hq (q.1,hb) hm)
   ·rw [mP] at hn;rw [hn] at hs;cases hs
 have hnone:∀ j id,τ j=some id→hp id=none→C.h0 id=none:=fun j id hj hn=>by
  by_cases hlt:j<σ.length
  ·have hid:=List.getElem?_eq_getElem hlt
   have:=F.old j _ hid
   rw [hj] at this;cases this
   obtain ⟨hb,hb',_,h2,_⟩:=oq j _ hid
   rw [hpre _ h2] at hn;cases hn
  ·obtain ⟨hu,hq⟩:=F.new j id hj (by omega)
   obtain ⟨q,Bl,mP⟩:=List.mem_map.1 hu
   rcases hnew q Bl with ⟨hb,hm⟩ | ⟨_,hn⟩
   ·exact absurd mP (hq (q.1,hb) hm)
   ·rw [← mP];exact hn
 have hsz:w.heap.size≤w'.heap.size:=R'.fr.size
 have iD:∀ b,b<w.heap.size→(∀ j id,σ[j]?=some id→aa id≠some b)→w'.heap[b]?=w.heap[b]?:=fun b hb hn=>R'.fr.block b hb (fun ⟨j,id,h1,h2⟩=>hn j id h1 h2)
 have hin:∀ (j id:Nat),σ[j]?=some id→(hp id).isSome=true:=fun j id hj=>by
  obtain ⟨hb,hb',_,h2,_⟩:=oq j id hj
  rw [hpre _ h2];rfl
 have vp:∀ j id,τ j=some id→(aB h j).isSome=true:=fun j id hj=>by
  obtain ⟨hb,_,h1,_⟩:=hT j id hj
  rw [h1];rfl
 have zc:∀ j id b,τ j=some id→aH j=some b→((σ[j]?=some id∧aa id=some b)∨w.heap.size≤b)∧b<w'.heap.size:=fun j id b hj hb=>by
  obtain ⟨h1,h2⟩:=R'.own j b (vp j id hj) hb
  refine ⟨?_,h2⟩
  rcases h1 with ⟨a1,a2,_⟩ | a
  ·left
   have rQ:(σ[j]?).bind aa=some b:=a2
   cases hid:σ[j]? with
   | none=>rw [hid] at rQ;cases rQ
   | some id'=>
     rw [hid] at rQ
     have:=F.old j id' hid
     rw [hj] at this;cases this
     exact ⟨rfl,rQ⟩
  ·exact .inr a
 have wq:∀ b,aF (inner C aa hp w N σ hs0) aH (aB h) b→aF C gp (bM hp us) b:=fun b hb=>by
  obtain ⟨h1,h2⟩:=hb
  have hb0:C.wo b∨C.w0.heap.size≤b:=by
   rcases h1 with a | a
   ·exact a.1
   ·exact .inr (Nat.le_trans R.fr.size a)
  refine ⟨hb0,fun id hid he=>?_⟩
  by_cases hr:∃ j,τ j=some id
  ·obtain ⟨j,hj⟩:=hr
   rw [rT j id hj] at he
   exact h2 j (vp j id hj) he
  ·rw [hN id hr] at hid
   rw [rN id hr] at he
   rcases h1 with a | a
   ·exact a.2 id hid he
   ·have:=(R.own id b hid he).2
    have a':w.heap.size≤b:=a
    omega
 have wz:∀ j b,τ j=none→(aB h j).isSome=true→aH j=some b→aF C gp (bM hp us) b:=fun j b hj hs hb=>by
  have hbw:w.heap.size≤b:=by
   rcases (R'.own j b hs hb).1 with ⟨a1,a2,_⟩ | a
   ·have rQ:(σ[j]?).bind aa=some b:=a2
    cases hid:σ[j]? with
    | none=>rw [hid] at rQ;cases rQ
    | some id'=>rw [F.old j id' hid] at hj;cases hj
   ·exact a
  refine ⟨.inr (Nat.le_trans R.fr.size hbw),fun id hid he=>?_⟩
  by_cases hr:∃ j,τ j=some id
  ·obtain ⟨i,hi⟩:=hr
   rw [rT i id hi] at he
   have:=R'.inj i j b (vp i id hi) hs he hb
   subst this
   rw [hi] at hj;cases hj
  ·rw [hN id hr] at hid
   rw [rN id hr] at he
   have:=(R.own id b hid he).2
   omega
 have hs:∀ j id,τ j=some id→aH j=gp id∧((aB h j).isSome=true→(bM hp us id).isSome=true)∧(∀ cs,bM hp us id=some (.var cs)→∃ cs',aB h j=some (.var cs'))∧∀ e aq xs,bM hp us id=some (.row e aq xs)→∃ xs',aB h j=some (.row e aq xs'):=fun j id hj=>by
  obtain ⟨hb,hb',h1,h2,h3⟩:=hT j id hj
  refine ⟨(rT j id hj).symm,fun _=>by rw [h3];rfl,fun cs hc=>?_,fun e aq xs hc=>?_⟩
  ·rw [h3] at hc;cases hc
   cases h2 with
   | var xs _ _=>exact ⟨xs,h1⟩
  ·rw [h3] at hc;cases hc
   cases h2 with
   | row _ _ xs _ _ _=>exact ⟨xs,h1⟩
 have sK:∀ b,aF C aa hp b→b<w.heap.size→aF C gp (bM hp us) b∧w'.heap[b]?=w.heap[b]?:=fun b hb hlt=>by
  refine ⟨⟨hb.1,fun id hid he=>?_⟩,iD b hlt (fun j id hj he=>hb.2 id (hin j id hj) he)⟩
  by_cases hr:∃ j,τ j=some id
  ·obtain ⟨j,hj⟩:=hr
   rw [rT j id hj] at he
   rcases (zc j id b hj he).1 with ⟨a1,a2⟩ | a
   ·exact hb.2 id (hin j id a1) a2
   ·omega
  ·rw [hN id hr] at hid
   rw [rN id hr] at he
   exact hb.2 id hid he
 have DV:∀ id hb,hp id=some hb→∃ hb',bM hp us id=some hb'∧jt w w' (aa id) (gp id) hb hb':=fun id hb hq=>by
  by_cases hr:∃ j,τ j=some id
  ·obtain ⟨j,hj⟩:=hr
   obtain ⟨yo,hb',h1,h2,h3⟩:=hT j id hj
   refine ⟨hb',h3,?_⟩
   have hid:=hold j id hj (by rw [hq];rfl)
   obtain ⟨hb0,VE,g1,g2,g3⟩:=oq j id hid
   have:=hpre _ g2
   rw [hq] at this;cases this
   have ev:=R'.jF j yo hb0 h1 (oZ.2 g1)
   have ev':jt w w' (aa id) (aH j) hb0 yo:=by
    have e:(inner C aa hp w N σ hs0).Cj j=aa id:=by show (σ[j]?).bind aa=_;rw [hid];rfl
    rw [e] at ev;exact ev
   rw [rT j id hj]
   cases g3 with
   | var xs ys hb=>
     cases h2 with
     | var uG Vl hf=>exact ev'
     | row=>exact ev'.elim
   | row e aq xs ys hl hb=>
     cases h2 with
     | var=>exact ev'.elim
     | row e2 zG uG Vl vq hf=>exact ev'
  ·refine ⟨hb,by rw [hN id hr];exact hq,?_⟩
   rw [rN id hr]
   cases hb with
   | var cs=>rfl
   | row e aq xs=>
     refine ⟨Nat.le_refl _,fun _=>⟨rfl,rfl,fun b hb cur t hc=>⟨cur,t,?_,rfl⟩⟩⟩
     rw [iD b ((R.own id b (by rw [hq];rfl) hb).2) (fun j id' hj he=>?_)];exact hc
     obtain rfl:=R.inj id id' b (by rw [hq];rfl) (hin j id' hj) hb he
     exact hr ⟨j,F.old j id hj⟩
 have E:iW w w' (aF C aa hp) (aF C gp (bM hp us)) aa gp hp (bM hp us):=iW.of sK DV
 refine ⟨gp,⟨⟨fun id hb hq=>?_,fun i j b h1 h2 h3 h4=>?_,fun id b h1 h2=>?_,⟨R'.fr.os.trans R.fr.os,R'.fr.tape.trans R.fr.tape,R'.fr.output.trans R.fr.output,Nat.le_trans R.fr.size hsz,fun b h1 h2=>?_⟩,fun id hb hb0 h1 h2=>?_⟩,E⟩,fun x y v hr hf=>hr.leave wq wz (fun j hb hj=>R'.heap j hb hj) hs hf⟩
 ·by_cases hr:∃ j,τ j=some id
  ·obtain ⟨j,hj⟩:=hr
   obtain ⟨yo,hb',h1,h2,h3⟩:=hT j id hj
   rw [hq] at h3;cases h3
   exact (R'.heap j yo h1).leave wq wz (fun j hb hj=>R'.heap j hb hj) hs hj h2
  ·rw [hN id hr] at hq
   rcases R.heap id hb hq with ⟨a1,a2⟩ | ⟨b,cur,t,a1,a2,a3⟩
   ·exact .inl ⟨(rN id hr).trans a1,a2⟩
   ·refine .inr ⟨b,cur,t,(rN id hr).trans a1,?_,a3.mono E⟩
    rw [iD b ((R.own id b (by rw [hq];rfl) a1).2) (fun j id' hj he=>?_)];exact a2
    obtain rfl:=R.inj id id' b (by rw [hq];rfl) (hin j id' hj) a1 he
    exact hr ⟨j,F.old j id hj⟩
 ·by_cases hi:∃ k,τ k=some i <;> by_cases hj:∃ k,τ k=some j
  ·obtain ⟨k,hk⟩:=hi
   obtain ⟨l,hl⟩:=hj
   rw [rT k i hk] at h3
   rw [rT l j hl] at h4
   have:=R'.inj k l b (vp k i hk) (vp l j hl) h3 h4
   subst this
   rw [hk] at hl;cases hl;rfl
  ·obtain ⟨k,hk⟩:=hi
   rw [rT k i hk] at h3
   rw [rN j hj] at h4
   rw [hN j hj] at h2
   rcases (zc k i b hk h3).1 with ⟨a1,a2⟩ | a
   ·exact R.inj i j b (hin k i a1) h2 a2 h4
   ·have:=(R.own j b h2 h4).2;omega
  ·obtain ⟨k,hk⟩:=hj
   rw [rT k j hk] at h4
   rw [rN i hi] at h3
   rw [hN i hi] at h1
   rcases (zc k j b hk h4).1 with ⟨a1,a2⟩ | a
   ·exact R.inj i j b h1 (hin k j a1) h3 a2
   ·have:=(R.own i b h1 h3).2;omega
  ·rw [rN i hi] at h3;rw [hN i hi] at h1
   rw [rN j hj] at h4;rw [hN j hj] at h2
   exact R.inj i j b h1 h2 h3 h4
 ·by_cases hr:∃ j,τ j=some id
  ·obtain ⟨j,hj⟩:=hr
   rw [rT j id hj] at h2
   obtain ⟨a,a'⟩:=zc j id b hj h2
   refine ⟨?_,a'⟩
   rcases a with ⟨a1,a2⟩ | a
   ·exact (R.own id b (hin j id a1) a2).1
   ·exact .inr (Nat.le_trans R.fr.size a)
  ·rw [hN id hr] at h1
   rw [rN id hr] at h2
   obtain ⟨a,a'⟩:=R.own id b h1 h2
   exact ⟨a,by omega⟩
 ·rw [iD b (by have:=R.fr.size;omega) (fun j id hj he=>?_)]
  ·exact R.fr.block b h1 h2
  ·rcases (R.own id b (hin j id hj) he).1 with a | a
   ·exact h2 a.2.2
   ·omega
 ·by_cases hq:∃ kD,hp id=some kD
  ·obtain ⟨kD,hq⟩:=hq
   obtain ⟨hb',a1,a2⟩:=DV id kD hq
   rw [h1] at a1;cases a1
   exact (R.jF id kD hb0 hq h2).trans a2
  ·have hn:hp id=none:=by cases mP:hp id with
    | none=>rfl
    | some x=>exact absurd ⟨x,mP⟩ hq
   by_cases hr:∃ j,τ j=some id
   ·obtain ⟨j,hj⟩:=hr
    rw [hnone j id hj hn] at h2;cases h2
   ·rw [hN id hr,hn] at h1;cases h1
end
structure aT (P:Program) (f:FuncId) (N:Nat) (ac:AC) (rs:List RR):Prop where
 call:td P f=true
 ex:∃ fn c,P.funcs[f]?=some fn∧fn.body=some c∧fn.ntmps=N∧comp P N c=some ac∧qF P fn.results.toList=some rs
def ye (P:Program) (f:FuncId) (N:Nat) (rs:List RR):Option AC:=match P.funcs[f]? with
 | some fn=>if td P f && fn.ntmps == N then match fn.body,qF P fn.results.toList with
   | some c,some rs'=>if rs'=rs then comp P N c else none
   | _,_=>none
   else none
 | none=>none
theorem AB {P:Program} {f:FuncId} {N:Nat} {ac:AC} {rs:List RR} (h:ye P f N rs=some ac):aT P f N ac rs:=by
 unfold ye at h
 split at h
 ·rename_i fn hf
  split at h
  ·rename_i hc
   simp only [Bool.and_eq_true,beq_iff_eq] at hc
   split at h
   ·rename_i c rs' hb hr
    split at h
    ·rename_i he;subst he
     exact ⟨hc.1,fn,c,hf,hb,hc.2,h,hr⟩
    ·cases h
   ·cases h
  ·cases h
 ·cases h
theorem xG {P:Program} {f:FuncId} {N:Nat} {ac:AC} {rs:List RR} (H:aT P f N ac rs) {args:List SV} {pre us:List (Nat×HB)} {sv:SV} (σ:List Nat) (hs0:List (Option HB)) (iO:List SV)
 (hargs:args.length≤N) (hA:rK (fun j=>σ[j]?) iO args) (hl:hs0.length=σ.length) (hinj:∀ (i j id:Nat),σ[i]?=some id→σ[j]?=some id→i=j)
 (oq:∀ (j id:Nat),σ[j]?=some id→∃ hb hb',hs0[j]?=some (some hb)∧(id,hb')∈pre∧mD (fun j=>σ[j]?) hb hb')
 (hrun:∀ K:Ex→St→Prop,(∀ env h env' h' τ,fS σ.length ⟨env,h⟩ ⟨env',h'⟩→Fin σ pre us rs sv env' h' τ→K .normal ⟨env,h⟩∧K .ret ⟨env,h⟩)→G P σ.length [.c ac] K (nB 0 iO) hs0):aG P f args pre us sv:=by
 obtain ⟨MI,fn,c,hf,hb,hN,hc,hr⟩:=H
 subst hN
 refine ⟨MI,fun C hp w aa vs hpre hnew R hvl hvs=>?_⟩
 obtain ⟨R0,hro,MG⟩:=KU R (N:=fn.ntmps) hpre hl hinj oq
 refine calls_of_wp hf hb ?_
 have hG:=hrun (fun e s=>(∀ id,e≠.exit id)∧∃ s' τ,fS σ.length s s'∧Fin σ pre us rs sv s'.env s'.h τ) (fun env h env' h' τ hE hF=>⟨⟨by simp,⟨env',h'⟩,τ,hE,hF⟩,⟨by simp,⟨env',h'⟩,τ,hE,hF⟩⟩)
 have R1:jv (inner C aa hp w fn.ntmps σ hs0) σ.length ⟨nB 0 iO,hs0⟩ { tmps:=vs.toArray++Array.replicate (fn.ntmps - vs.toArray.size) undef,defers:=[] } w:=by
  refine ⟨⟨_,R0,fun n=>?_,?_,rfl⟩,by rw [← hl];exact Nat.le_refl _,fun id hid=>?_⟩
  ·show Rp _ _ _ _ (lk (nB 0 iO) n) _
   rw [Gb,if_pos (Nat.zero_le _),Nat.sub_zero]
   cases hx:iO[n]? with
   | none=>exact .dead _
   | some x=>
     have hlt:=(List.getElem?_eq_some_iff.1 hx).1
     have hy:=List.getElem?_eq_getElem (l:=args) (i:=n) (by have:=hA.1;omega)
     have hv:=MG (hvs n _ hy) (hA.2 n x _ hx hy)
     have:(vs.toArray++Array.replicate (fn.ntmps - vs.toArray.size) undef).getD n undef=vs.getD n undef:=by
      have hn:n<vs.length:=by have:=hA.1;omega
      simp [Array.getD_eq_getD_getElem?,List.getD_eq_getElem?_getD,Array.getElem?_append,hn]
     rw [this];exact hv
  ·show (vs.toArray++Array.replicate (fn.ntmps - vs.toArray.size) undef).size=fn.ntmps
   simp;omega
  ·show aB hs0 id=none
   unfold aB
   rw [List.getElem?_eq_none (by omega)]
 refine Vi c ac _ _ _ _ _ hc hG R1 (fun e s a w' hk RS=>?_)
 obtain ⟨hne,s',τ,hE,F⟩:=hk
 obtain ⟨⟨aH,RF⟩,_,_⟩:=hE _ _ _ RS
 obtain ⟨gp,hS,hL⟩:=QM R hpre hnew oq RF.mem F
 obtain ⟨p,xs,r1,r2,r3⟩:=F.res
 obtain ⟨vs,v1,v2⟩:=SI RF.mem RF.env hr r1 r2
 have hres:=hL _ _ _ v2 r3
 cases e with
 | normal=>exact ⟨RF.defers,_,v1,_,gp,rfl,hS,hres⟩
 | exit id=>exact absurd rfl (hne id)
 | ret=>exact ⟨RF.defers,_,v1,_,gp,rfl,hS,hres⟩
end Go.aJ

namespace Go.aJ
open Go
theorem Ar {n0:Nat} {env env':List (Nat×SV)} {h h':List (Option HB)} (τ:Nat→Option Nat) (hn:n0≤h'.length)
 (hid:∀ j i,τ j=some i→i=j) (hkeep:∀ j,τ j=none→n0≤j)
 (hh:∀ j,(∃ hb hb',τ j=some j∧aB h j=some hb∧aB h' j=some hb'∧oP τ (aB h) hb hb')∨(aB h' j=none∧(τ j=none∨aB h j=none)))
 (he:∀ n,Rn τ (aB h) (lk env n) (lk env' n)):fS n0 ⟨env,h⟩ ⟨env',h'⟩:=by
 intro C a w R
 obtain ⟨⟨aa,RF⟩,_,h0⟩:=R
 have hsub:∀ j hb',aB h' j=some hb'→τ j=some j∧∃ hb,aB h j=some hb∧oP τ (aB h) hb hb':=fun j hb' hj=>by
  rcases hh j with ⟨hb,hb2,a1,a2,a3,a4⟩ | ⟨a1,_⟩
  ·rw [hj] at a3;cases a3;exact ⟨a1,hb,a2,a4⟩
  ·rw [hj] at a1;cases a1
 have hsome:∀ j,(aB h' j).isSome=true→(aB h j).isSome=true:=fun j hj=>by
  obtain ⟨hb',hb2⟩:=Option.isSome_iff_exists.1 hj
  obtain ⟨_,hb,h1,_⟩:=hsub j hb' hb2
  rw [h1];rfl
 have M:=RF.mem
 have wq:∀ b,aF C aa (aB h) b→aF C aa (aB h') b:=fun b hb=>⟨hb.1,fun id hid=>hb.2 id (hsome id hid)⟩
 have wz:∀ j b,τ j=none→(aB h j).isSome=true→aa j=some b→aF C aa (aB h') b:=fun j b hj hs hb=>by
  refine ⟨?_,fun id hid he=>?_⟩
  ·rcases (M.own j b hs hb).1 with ⟨a1,_⟩ | a
   ·rw [h0 j (hkeep j hj)] at a1;cases a1
   ·exact .inr a
  ·have:=M.inj id j b (hsome id hid) hs he hb
   subst this
   obtain ⟨hb',hb2⟩:=Option.isSome_iff_exists.1 hid
   obtain ⟨h1,_⟩:=hsub id hb' hb2
   rw [h1] at hj;cases hj
 have hs:∀ j i,τ j=some i→aa j=aa i∧((aB h j).isSome=true→(aB h' i).isSome=true)∧(∀ cs,aB h' i=some (.var cs)→∃ cs',aB h j=some (.var cs'))∧∀ e aq xs,aB h' i=some (.row e aq xs)→∃ xs',aB h j=some (.row e aq xs'):=fun j i hj=>by
  obtain rfl:=hid j i hj
  refine ⟨rfl,fun hi=>?_,fun cs hc=>?_,fun e aq xs hc=>?_⟩
  ·rcases hh i with ⟨hb,hb2,a1,a2,a3,a4⟩ | ⟨_,a1 | a1⟩
   ·rw [a3];rfl
   ·rw [a1] at hj;cases hj
   ·rw [a1] at hi;cases hi
  ·obtain ⟨_,hb,h1,h2⟩:=hsub i _ hc
   cases h2 with
   | var xs _ _=>exact ⟨xs,h1⟩
  ·obtain ⟨_,hb,h1,h2⟩:=hsub i _ hc
   cases h2 with
   | row _ _ xs _ _ _=>exact ⟨xs,h1⟩
 refine ⟨⟨aa,⟨⟨fun j hb' hj=>?_,fun i j b h1 h2=>M.inj i j b (hsome i h1) (hsome j h2),fun j b h1 h2=>M.own j b (hsome j h1) h2,M.fr,fun j hb' hb0 h1 h2=>?_⟩,fun n=>(RF.env n).leave wq wz (fun j hb hj=>M.heap j hb hj) hs (he n),RF.size,RF.defers⟩⟩,hn,h0⟩
 ·obtain ⟨a1,hb,a2,a3⟩:=hsub j hb' hj
  exact (M.heap j hb a2).leave wq wz (fun j hb hj=>M.heap j hb hj) hs a1 a3
 ·obtain ⟨a1,hb,a2,a3⟩:=hsub j hb' h1
  have ev:=M.jF j hb hb0 a2 h2
  cases a3 with
  | var xs ys _=>cases hb0 <;> exact ev
  | row e aq xs ys _ _=>cases hb0 <;> exact ev
theorem we {P:SV→SV→Prop} (hd:∀ x,P x .dead) {env:List (Nat×SV)}:∀ {env':List (Nat×SV)},(∀ p∈env',P (lk env p.1) p.2)→∀ n,P (lk env n) (lk env' n)
 | [],_,n=>hd _
 | (m,v)::r,h,n=>by
   show P (lk env n) (if m=n then v else lk r n)
   by_cases he:m=n
   ·rw [if_pos he,← he];exact h (m,v) (by simp)
   ·rw [if_neg he];exact we hd (fun p hp=>h p (List.mem_cons_of_mem _ hp)) n
theorem gL (n0:Nat) (s:St):fS n0 s s:=fun _ _ _ R=>R
theorem fS.trans {n0:Nat} {s s1 s2:St} (h:fS n0 s s1) (k:fS n0 s1 s2):fS n0 s s2:=fun C a w R=>k C a w (h C a w R)
theorem aZ {n0:Nat} {env env':List (Nat×SV)} {h:List (Option HB)} (he:∀ p∈env',p.2 = .dead∨lk env p.1=p.2):fS n0 ⟨env,h⟩ ⟨env',h⟩:=by
 intro C a w R
 obtain ⟨⟨aa,RF⟩,h1,h0⟩:=R
 refine ⟨⟨aa,RF.mem,fun n=>?_,RF.size,RF.defers⟩,h1,h0⟩
 have:=we (P:=fun x y=>y = .dead∨x=y) (fun x=>.inl rfl) he n
 rcases this with h | h
 ·show Rp _ _ _ _ (lk env' n) _
  rw [h];exact .dead _
 ·show Rp _ _ _ _ (lk env' n) _
  rw [← h];exact RF.env n
inductive ju:RV→Prop where
 | int (k:IntKind) (n:Int):ju (.int k n)
 | bool (b:Bool):ju (.bool b)
 | str (s:ByteArray):ju (.str s)
 | lB:ju .lB
 | cm:ju .cm
 | nC:ju .nC
 | oD:ju .oD
 | bU (t:TypeId) (r:RV) (h:ju r):ju (.bU t r)
 | agg (rs:List RV) (h:∀ (j:Nat) (r:RV),rs[j]?=some r→ju r):ju (.agg rs)
 | fn (f:FuncId) (rs:List RV) (h:∀ (j:Nat) (r:RV),rs[j]?=some r→ju r):ju (.fn f rs)
theorem RO.flat {w w':World} {ok fM:Nat→Prop} {r:RV} {v:Value} (hr:RO w ok r v) (hf:ju r):RO w' fM r v:=by
 induction hf generalizing v with
 | int k n=>cases hr;exact .int k n
 | bool b=>cases hr;exact .bool b
 | str s=>cases hr;exact .str s
 | lB=>cases hr;exact .lB
 | cm=>cases hr;exact .cm
 | nC=>cases hr;exact .nC
 | oD=>cases hr;exact .oD
 | bU t r h ih=>cases hr with | bU _ _ v h=>exact .bU t r v (ih h)
 | agg rs h ih=>cases hr with | agg _ vs hl h1 hy=>exact .agg rs vs hl h1 (fun j y hj=>ih j y hj (hy j y hj))
 | fn f rs h ih=>cases hr with | fn _ _ vs hl hy=>exact .fn f rs vs hl (fun j y hj=>ih j y hj (hy j y hj))
inductive iH:SV→Prop where
 | dead:iH .dead
 | rv (r:RV) (h:ju r):iH (.rv r)
 | ptr (id off:Nat):iH (.ptr id off)
 | bW (id aq i off:Nat):iH (.bW id aq i off)
 | row (id aq len:Nat):iH (.row id aq len)
 | win (id aq off len:Nat):iH (.win id aq off len)
 | agg (cs:List SV) (h:∀ (j:Nat) (y:SV),cs[j]?=some y→iH y):iH (.agg cs)
 | aP (cs:List SV) (h:∀ (j:Nat) (y:SV),cs[j]?=some y→iH y):iH (.aP cs)
 | fn (f:FuncId) (cs:List SV) (h:∀ (j:Nat) (y:SV),cs[j]?=some y→iH y):iH (.fn f cs)
 | bU (t:TypeId) (x:SV) (h:iH x):iH (.bU t x)
inductive oN:HB→Prop where
 | var (cs:List SV) (h:∀ (j:Nat) (y:SV),cs[j]?=some y→iH y):oN (.var cs)
 | row (e aq:Nat) (xs:List (List SV)) (h:∀ (i:Nat) (x:List SV) (j:Nat) (y:SV),xs[i]?=some x→x[j]?=some y→iH y):oN (.row e aq xs)
section
variable {w:World} {ok fM:Nat→Prop} {aa aH:Nat→Option Nat} {hp aD:Hp}
theorem Rp.flat (hs:∀ j,(hp j).isSome=true→aD j=hp j∧aH j=aa j) {s:SV} {v:Value} (hr:Rp w ok aa hp s v) (hf:iH s):Rp w fM aH aD s v:=by
 induction hf generalizing v with
 | dead=>exact .dead v
 | rv r h=>cases hr with | rv _ _ hr=>exact .rv r v (hr.flat h)
 | ptr id off=>cases hr with | ptr _ _ _ h1 h0 h=>obtain ⟨a,b⟩:=hs id h0;exact .ptr id off v h1 (by rw [a];exact h0) (by rw [a,b];exact h)
 | bW id aq i off=>cases hr with | bW _ _ _ _ _ h1 h0 hv h=>obtain ⟨a,b⟩:=hs id h0;exact .bW id aq i off v h1 (by rw [a];exact h0) (by rw [a];exact hv) (by rw [a,b];exact h)
 | row id aq len=>cases hr with | row _ _ _ _ h1 h0 hv h=>obtain ⟨a,b⟩:=hs id h0;exact .row id aq len v h1 (by rw [a];exact h0) (by rw [a];exact hv) (by rw [a,b];exact h)
 | win id aq off len=>cases hr with | win _ _ _ _ _ h1 h0 hv hr hc=>obtain ⟨a,b⟩:=hs id h0;exact .win id aq off len v h1 (by rw [a];exact h0) (by rw [a];exact hv) (by rw [a,b];exact hr) (by rw [a,b];exact hc)
 | agg cs h ih=>cases hr with | agg _ vs hl h1 hy=>exact .agg cs vs hl h1 (fun j y hj=>ih j y hj (hy j y hj))
 | aP cs h ih=>cases hr with | aP _ vs hl hy=>exact .aP cs vs hl (fun j y hj=>ih j y hj (hy j y hj))
 | fn f cs h ih=>cases hr with | fn _ _ vs hl hy=>exact .fn f cs vs hl (fun j y hj=>ih j y hj (hy j y hj))
 | bU t x h ih=>cases hr with | bU _ _ v0 h0=>exact .bU t x v0 (ih h0)
theorem gB.flat (hs:∀ j,(hp j).isSome=true→aD j=hp j∧aH j=aa j) {cur:Array Value} {off:Nat} {cs:List SV} (h:gB w ok aa hp cur off cs) (hf:∀ (j:Nat) (y:SV),cs[j]?=some y→iH y):gB w fM aH aD cur off cs:=fun j y hy=>by
 obtain ⟨v,h1,h2,h3⟩:=h j y hy
 exact ⟨v,h1,h2,h3.flat hs (hf j y hy)⟩
theorem lT.flat (hs:∀ j,(hp j).isSome=true→aD j=hp j∧aH j=aa j) {id:Nat} {hb:HB} (hid:(hp id).isSome=true) (h:lT w ok aa hp id hb) (hf:oN hb):lT w fM aH aD id hb:=by
 have hr:=(hs id hid).2
 rcases h with ⟨h1,h2⟩ | ⟨b,cur,t,h1,h2,h3⟩
 ·exact .inl ⟨hr.trans h1,h2⟩
 ·refine .inr ⟨b,cur,t,hr.trans h1,h2,?_⟩
  cases hf with
  | var cs hf=>exact ⟨h3.1,h3.2.flat hs hf⟩
  | row e aq xs hf=>exact ⟨h3.1,h3.2.1,fun i x hx=>(h3.2.2 i x hx).flat hs (fun j y hy=>hf i x j y hx hy)⟩
end
theorem nK {us:List (Nat×HB)} {id:Nat}:(bM (fun _=>none) us id).isSome=true↔id∈us.map (·.1):=by
 have gen:∀ (us:List (Nat×HB)) (hp:Hp),(bM hp us id).isSome=true↔(hp id).isSome=true∨id∈us.map (·.1):=by
  intro us
  induction us with
  | nil=>intro hp;simp [bM]
  | cons q r ih=>
    intro hp
    obtain ⟨i,hb⟩:=q
    rw [bM,ih]
    by_cases h:id=i
    ·subst h;simp
    ·rw [gd _ _ h];simp [h]
 rw [gen];simp
theorem Iy {us:List (Nat×HB)} {id:Nat} {hb:HB}:∀ {hp:Hp},bM hp us id=some hb→hp id=some hb∨(id,hb)∈us:=by
 induction us with
 | nil=>intro hp h;exact .inl h
 | cons q r ih=>
   intro hp h
   obtain ⟨i,hb0⟩:=q
   rcases ih h with h | h
   ·by_cases he:id=i
    ·subst he;rw [cn] at h;cases h;exact .inr (by simp)
    ·rw [gd _ _ he] at h;exact .inl h
   ·exact .inr (by simp [h])
theorem Kj {P:Program} {f:FuncId} {rs:List RV} {args:List SV} {pre us:List (Nat×HB)} {sv:SV} (H:aG P f (rs.map .rv) [] us sv) (hl:args.length=rs.length)
 (hz:∀ hp,aU hp pre→∀ (j:Nat) (y:SV) (r:RV),args[j]?=some y→rs[j]?=some r→Fz (fun _=>none) hp y r) (hfl:iH sv) (jX:∀ q∈us,oN q.2∧∀ p∈pre,p.1≠q.1):aG P f args pre us sv:=by
 refine ⟨H.1,fun C hp w aa vs hpre hnew R hvl hvs=>?_⟩
 let C2:Ctx:=⟨w,fun b=>aF C aa hp b∨∃ id,(hp id).isSome=true∧aa id=some b,fun _=>False,C.N,fun _=>none,fun _=>none⟩
 have sD:∀ b,C2.wo b→aF C2 (fun _=>none) (fun _=>none) b:=fun b hb=>⟨.inl hb,fun id hid=>by simp at hid⟩
 have R2:cl C2 (fun _=>none) w (fun _=>none):=⟨fun id hb h=>(by cases h),fun i j b h=>(by simp at h),fun i b h=>(by simp at h),⟨rfl,rfl,rfl,Nat.le_refl _,fun b _ _=>rfl⟩,fun id hb hb0 h=>(by cases h)⟩
 have qe:∀ id,id∈us.map (·.1)→hp id=none∧C.h0 id=none:=fun id hid=>by
  obtain ⟨q,hq,rfl⟩:=List.mem_map.1 hid
  rcases hnew q hq with ⟨hb,hm⟩ | h
  ·exact absurd rfl ((jX q hq).2 (q.1,hb) hm)
  ·exact h
 refine (H.2 C2 (fun _=>none) w (fun _=>none) vs (fun q hq=>by simp at hq) (fun q hq=>.inr ⟨rfl,rfl⟩) R2 (by simp [hvl,hl]) (fun j s hj=>?_)).mono ?_
 ·rw [List.getElem?_map] at hj
  cases hr:rs[j]? with
  | none=>simp [hr] at hj
  | some r=>
    simp [hr] at hj
    subst hj
    have hlt:=(List.getElem?_eq_some_iff.1 hr).1
    have hy:=List.getElem?_eq_getElem (l:=args) (i:=j) (by omega)
    refine .rv _ _ (Fz.ro (τ:=fun _=>none) (fun b hb=>sD b (.inl hb)) (fun i b _ hi hb=>sD b (.inr ⟨i,hi,hb⟩)) (fun i hb hi=>R.heap i hb hi) (hvs j _ hy) (hz hp hpre j _ r hy hr))
 ·rintro e w' ⟨v,aH,rfl,S,hR⟩
  have R':=S.mem
  have iD:∀ b,b<w.heap.size→w'.heap[b]?=w.heap[b]?:=fun b hb=>R'.fr.block b hb (fun h=>h)
  have hsz:w.heap.size≤w'.heap.size:=R'.fr.size
  have qf:∀ id b,id∈us.map (·.1)→aH id=some b→w.heap.size≤b∧b<w'.heap.size:=fun id b hid hb=>by
   obtain ⟨h1,h2⟩:=R'.own id b (nK.2 hid) hb
   rcases h1 with ⟨a,_⟩ | a
   ·cases a
   ·exact ⟨a,h2⟩
  let gp:Nat→Option Nat:=fun id=>if id∈us.map (·.1) then aH id else aa id
  have rT:∀ id,id∈us.map (·.1)→gp id=aH id:=fun id h=>if_pos h
  have rN:∀ id,id∉us.map (·.1)→gp id=aa id:=fun id h=>if_neg h
  have hN:∀ id,id∉us.map (·.1)→bM hp us id=hp id:=fun id h=>zF h
  have hT:∀ id,id∈us.map (·.1)→bM hp us id=bM (fun _=>none) us id:=fun id h=>wO h
  have hs:∀ j,(bM (fun _=>none) us j).isSome=true→bM hp us j=bM (fun _=>none) us j∧gp j=aH j:=fun j hj=>⟨hT j (nK.1 hj),rT j (nK.1 hj)⟩
  have sK:∀ b,aF C aa hp b→b<w.heap.size→aF C gp (bM hp us) b∧w'.heap[b]?=w.heap[b]?:=fun b hb hlt=>by
   refine ⟨⟨hb.1,fun id hid he=>?_⟩,iD b hlt⟩
   by_cases hm:id∈us.map (·.1)
   ·rw [rT id hm] at he
    have:=(qf id b hm he).1;omega
   ·rw [hN id hm] at hid
    rw [rN id hm] at he
    exact hb.2 id hid he
  have E:iW w w' (aF C aa hp) (aF C gp (bM hp us)) aa gp hp (bM hp us):=iW.of sK (fun id hb hq=>by
   have hm:id∉us.map (·.1):=fun hm=>by rw [(qe id hm).1] at hq;cases hq
   refine ⟨hb,by rw [hN id hm];exact hq,?_⟩
   rw [rN id hm]
   cases hb with
   | var cs=>rfl
   | row e aq xs=>exact ⟨Nat.le_refl _,fun _=>⟨rfl,rfl,fun b hb cur t hc=>⟨cur,t,by rw [iD b (R.own id b (by rw [hq];rfl) hb).2];exact hc,rfl⟩⟩⟩)
  refine ⟨v,gp,rfl,⟨⟨fun id hb hq=>?_,fun i j b h1 h2 h3 h4=>?_,fun id b h1 h2=>?_,⟨R'.fr.os.trans R.fr.os,R'.fr.tape.trans R.fr.tape,R'.fr.output.trans R.fr.output,Nat.le_trans R.fr.size hsz,fun b h1 h2=>?_⟩,fun id hb hb0 h1 h2=>?_⟩,E⟩,hR.flat hs hfl⟩
  ·by_cases hm:id∈us.map (·.1)
   ·rw [hT id hm] at hq
    have AY:oN hb:=by
     rcases Iy hq with h | h
     ·cases h
     ·exact (jX _ h).1
    exact (R'.heap id hb hq).flat hs (nK.2 hm) AY
   ·rw [hN id hm] at hq
    rcases R.heap id hb hq with ⟨a1,a2⟩ | ⟨b,cur,t,a1,a2,a3⟩
    ·exact .inl ⟨(rN id hm).trans a1,a2⟩
    ·refine .inr ⟨b,cur,t,(rN id hm).trans a1,?_,a3.mono E⟩
     rw [iD b (R.own id b (by rw [hq];rfl) a1).2];exact a2
  ·by_cases hi:i∈us.map (·.1) <;> by_cases hj:j∈us.map (·.1)
   ·rw [rT i hi] at h3;rw [rT j hj] at h4
    exact R'.inj i j b (nK.2 hi) (nK.2 hj) h3 h4
   ·rw [rT i hi] at h3;rw [rN j hj] at h4;rw [hN j hj] at h2
    have h5:=qf i b hi h3;have h6:=R.own j b h2 h4;omega
   ·rw [rN i hi] at h3;rw [rT j hj] at h4;rw [hN i hi] at h1
    have h5:=qf j b hj h4;have h6:=R.own i b h1 h3;omega
   ·rw [rN i hi] at h3;rw [rN j hj] at h4;rw [hN i hi] at h1;rw [hN j hj] at h2
    exact R.inj i j b h1 h2 h3 h4
  ·by_cases hm:id∈us.map (·.1)
   ·rw [rT id hm] at h2
    obtain ⟨a1,a2⟩:=qf id b hm h2
    exact ⟨.inr (Nat.le_trans R.fr.size a1),a2⟩
   ·rw [hN id hm] at h1;rw [rN id hm] at h2
    obtain ⟨a1,a2⟩:=R.own id b h1 h2
    exact ⟨a1,by omega⟩
  ·rw [iD b (by have:=R.fr.size;omega)];exact R.fr.block b h1 h2
  ·by_cases hm:id∈us.map (·.1)
   ·rw [(qe id hm).2] at h2;cases h2
   ·rw [hN id hm] at h1
    have ev:=R.jF id hb hb0 h1 h2
    obtain ⟨hb',g1,g2⟩:∃ hb',bM hp us id=some hb'∧jt w w' (aa id) (gp id) hb hb':=by
     refine ⟨hb,by rw [hN id hm];exact h1,?_⟩
     rw [rN id hm]
     cases hb with
     | var cs=>rfl
     | row e aq xs=>exact ⟨Nat.le_refl _,fun _=>⟨rfl,rfl,fun b hb cur t hc=>⟨cur,t,by rw [iD b (R.own id b (by rw [h1];rfl) hb).2];exact hc,rfl⟩⟩⟩
    rw [hN id hm,h1] at g1;cases g1
    exact ev.trans g2
end Go.aJ

namespace Go.aJ
open Go
def aI (τ:Nat→Option Nat) (h:Hp):List SV→List SV→Prop
 | [],[]=>True
 | x::xs,y::ys=>Rn τ h x y∧aI τ h xs ys
 | _,_=>False
theorem um {τ:Nat→Option Nat} {h:Hp}:∀ {xs ys:List SV},aI τ h xs ys↔rP τ h xs ys
 | [],[]=>⟨fun _=>⟨rfl,fun i x y hx=>by simp at hx⟩,fun _=>trivial⟩
 | [],_::_=>⟨fun h=>h.elim,fun h=>by simp [rP] at h⟩
 | _::_,[]=>⟨fun h=>h.elim,fun h=>by simp [rP] at h⟩
 | x::xs,y::ys=>by
   unfold aI
   rw [um (xs:=xs) (ys:=ys)]
   constructor
   ·rintro ⟨h1,h2,h3⟩
    refine ⟨by simp [h2],fun i a b ha hb=>?_⟩
    cases i with
    | zero=>simp at ha hb;subst ha;subst hb;exact h1
    | succ i=>exact h3 i a b (by simpa using ha) (by simpa using hb)
   ·rintro ⟨h2,h3⟩
    exact ⟨h3 0 x y rfl rfl,by simpa using h2,fun i a b ha hb=>h3 (i+1) a b (by simpa using ha) (by simpa using hb)⟩
section
variable {τ:Nat→Option Nat} {h:Hp}
theorem aK {r r':RV}:Rn τ h (.rv r) (.rv r')↔r=r':=⟨fun hr=>by cases hr with | fz _ _ hf=>cases hf;rfl,fun e=>by subst e;exact .fz _ _ (.rv _)⟩
theorem iF {x:SV}:Rn τ h x .dead↔True:=⟨fun _=>trivial,fun _=>.dead _⟩
theorem gU {i j o o':Nat}:Rn τ h (.ptr i o) (.ptr j o')↔τ i=some j∧o=o':=⟨fun hr=>by cases hr with | ptr _ _ _ hj=>exact ⟨hj,rfl⟩,fun ⟨e,e'⟩=>by subst e';exact .ptr _ _ _ e⟩
theorem gq {i j v v' l l':Nat}:Rn τ h (.row i v l) (.row j v' l')↔τ i=some j∧v=v'∧l=l':=⟨fun hr=>by cases hr with | row _ _ _ _ hj=>exact ⟨hj,rfl,rfl⟩,fun ⟨e,e',e2⟩=>by subst e';subst e2;exact .row _ _ _ _ e⟩
theorem aM {xs ys:List SV}:Rn τ h (.agg xs) (.agg ys)↔aI τ h xs ys:=by rw [um];exact ⟨fun hr=>by cases hr with | agg _ _ hl hf=>exact ⟨hl,hf⟩,fun ⟨e,e'⟩=>.agg _ _ e e'⟩
theorem bq {xs ys:List SV}:Rn τ h (.aP xs) (.aP ys)↔aI τ h xs ys:=by rw [um];exact ⟨fun hr=>by cases hr with | aP _ _ hl hf=>exact ⟨hl,hf⟩,fun ⟨e,e'⟩=>.aP _ _ e e'⟩
theorem Sw {f f':FuncId} {xs ys:List SV}:Rn τ h (.fE f xs) (.fE f' ys)↔f=f'∧aI τ h xs ys:=by rw [um];exact ⟨fun hr=>by cases hr with | fE _ _ _ hl hf=>exact ⟨rfl,hl,hf⟩,fun ⟨e,e',e2⟩=>by subst e;exact .fE _ _ _ e' e2⟩
theorem iG {t t':TypeId} {x y:SV}:Rn τ h (.bU t x) (.bU t' y)↔t=t'∧Rn τ h x y:=⟨fun hr=>by cases hr with | bU _ _ _ hf=>exact ⟨rfl,hf⟩,fun ⟨e,e'⟩=>by subst e;exact .bU _ _ _ e'⟩
end
def bg (τ:Nat→Option Nat) (h:Hp) (sv:SV):Option (Prop×List SV)→Prop
 | some (p,xs)=>p∧Rn τ h (bp xs) sv
 | none=>False
theorem Ki {P:Program} {f:FuncId} {N:Nat} {ac:AC} {rs:List RR} (H:aT P f N ac rs) (kZ:List RV) (sv:SV) (hN:kZ.length≤N)
 (hrun:∀ K:Ex→St→Prop,(∀ env h,bg (fun _=>none) (aB h) sv (aX (lk env) (aB h) rs)→K .normal ⟨env,h⟩∧K .ret ⟨env,h⟩)→G P 0 [.c ac] K (nB 0 (kZ.map .rv)) []):aG P f (kZ.map .rv) [] [] sv:=by
 refine xG H [] [] (kZ.map .rv) (by simpa using hN) ⟨rfl,fun i x y hx hy=>?_⟩ rfl (by simp) (by simp) (fun K hK=>hrun K (fun env h hr=>?_))
 ·rw [hx] at hy;cases hy
  rw [List.getElem?_map] at hx
  cases hr:kZ[i]? with
  | none=>simp [hr] at hx
  | some r=>simp [hr] at hx;subst hx;exact .rv r
 ·unfold bg at hr
  split at hr
  ·rename_i p xs hres
   exact hK env h env h (fun _=>none) (gL _ _) ⟨by simp,by simp,by simp,by simp,by simp,p,xs,hres,hr.1,hr.2⟩
  ·exact hr.elim
theorem wrap_i64 {n:Int} (h1 : -9223372036854775808≤n) (h2:n<9223372036854775808):IntKind.i64.wrap n=n:=by
 unfold IntKind.wrap
 simp only [IntKind.signed,IntKind.bits]
 by_cases h:(9223372036854775808:Int)≤n % 18446744073709551616 <;> simp [h] <;> omega
end Go.aJ

namespace Go.aJ
open Go
def va (P:Program) (rec:TypeId→Bool):Nat→List Field→Option Nat
 | off,[]=>some off
 | off,f::r=>if f.offset=off && rec f.type then va P rec (off+P.cellsOf f.type) r else none
def nV (P:Program):Nat→TypeId→Bool
 | 0,_=>false
 | n+1,t=>match P.underlying t with
   | some .bool | some (.int _) | some .string=>P.cellsOf t == 1
   | some (.slice e)=>P.cellsOf t == 1 && nV P n e
   | some (.struct fs)=>va P (nV P n) 0 fs.toList == some (P.cellsOf t)
   | some (.array m e)=>nV P n e && P.cellsOf t == m*P.cellsOf e
   | _=>false
def uC (P:Program) (rec:TypeId→List RV→Prop):List Field→List RV→Prop
 | [],rs=>rs=[]
 | f::r,rs=>∃ a b,rs=a++b∧rec f.type a∧uC P rec r b
def kI (P:Program):Nat→TypeId→List RV→Prop
 | 0,_,_=>False
 | n+1,t,rs=>match P.underlying t with
   | some .bool=>∃ b,rs=[.bool b]
   | some (.int k)=>∃ i,rs=[.int k i]∧(Lit.int k i).wf=true
   | some .string=>∃ s,rs=[.str s]∧s.size≤maxLen
   | some (.slice e)=>∃ xs,rs=[.sl (P.cellsOf e) xs]∧xs.length≤maxLen∧∀ x∈xs,kI P n e x
   | some (.struct fs)=>uC P (kI P n) fs.toList rs
   | some (.array m e)=>∃ xs:List (List RV),rs=xs.flatten∧xs.length=m∧∀ x∈xs,kI P n e x
   | _=>False
def lU (w:World) (ok:Nat→Prop) (vs:List Value) (rs:List RV):Prop:=vs.length=rs.length∧∀ (j:Nat) (r:RV),rs[j]?=some r→r.one=true∧RO w ok r (vs.getD j undef)
theorem lU.append {w:World} {ok:Nat→Prop} {vs us:List Value} {rs qs:List RV} (h:lU w ok vs rs) (k:lU w ok us qs):lU w ok (vs++us) (rs++qs):=by
 refine ⟨by simp [h.1,k.1],fun j r hj=>?_⟩
 by_cases hlt:j<rs.length
 ·rw [List.getElem?_append_left hlt] at hj
  have:=h.2 j r hj
  rw [List.getD_eq_getElem?_getD,List.getElem?_append_left (by rw [h.1];exact hlt),← List.getD_eq_getElem?_getD]
  exact this
 ·rw [List.getElem?_append_right (by omega)] at hj
  have:=k.2 _ r hj
  rw [List.getD_eq_getElem?_getD,List.getElem?_append_right (by rw [h.1];omega),h.1,← List.getD_eq_getElem?_getD]
  exact this
theorem lU.one {w:World} {ok:Nat→Prop} {v:Value} {r:RV} (h:RO w ok r v) (h1:r.one=true):lU w ok [v] [r]:=
 ⟨rfl,fun j q hj=>by
  cases j with
  | zero=>simp at hj;subst hj;exact ⟨h1,h⟩
  | succ j=>simp at hj⟩
section
variable {P:Program} {H:Type} {enc:TypeId×Value→H} {w:World} {base:Nat} {spare:Nat→Bool} {held:Bool}
theorem Iw (ok:Nat→Prop) {n m:Nat} (IH:∀ t,nV P n t=true→∀ cs x,DataW.trod enc P w base spare held m t cs=some x→∃ rs,kI P n t rs∧lU w ok cs rs∧cs.length=P.cellsOf t) :
 ∀ (fs:List Field) (off tot:Nat) (cs:List Value),va P (nV P n) off fs=some tot→cs.length=tot→(∀ f∈fs,∃ x,DataW.trod enc P w base spare held m f.type ((cs.drop f.offset).take (P.cellsOf f.type))=some x)→
 ∃ rs,uC P (kI P n) fs rs∧lU w ok (cs.drop off) rs
 | [],off,tot,cs,h,hl,_=>by
   simp only [va,Option.some.injEq] at h
   subst h
   refine ⟨[],rfl,?_⟩
   rw [List.drop_of_length_le (by omega)]
   exact ⟨rfl,fun j r hj=>by simp at hj⟩
 | f::fs,off,tot,cs,h,hl,hx=>by
   unfold va at h
   split at h
   ·rename_i hf
    simp only [Bool.and_eq_true,decide_eq_true_eq] at hf
    obtain ⟨x,hx0⟩:=hx f (by simp)
    obtain ⟨a,AI,yj,MB⟩:=IH f.type hf.2 _ _ hx0
    obtain ⟨b,hb1,hb2⟩:=Iw ok IH fs (off+P.cellsOf f.type) tot cs h hl (fun g hg=>hx g (by simp [hg]))
    refine ⟨a++b,⟨a,b,rfl,AI,hb1⟩,?_⟩
    rw [hf.1] at yj
    have:cs.drop off=(cs.drop off).take (P.cellsOf f.type)++cs.drop (off+P.cellsOf f.type):=by
     rw [← List.drop_drop,List.take_append_drop]
    rw [this]
    exact yj.append hb2
   ·cases h
theorem Iv (ok:Nat→Prop) {n m:Nat} {e:TypeId} (IH:∀ cs x,DataW.trod enc P w base spare held m e cs=some x→∃ rs,kI P n e rs∧lU w ok cs rs∧cs.length=P.cellsOf e) :
 ∀ (k i:Nat) (cs:List Value),cs.length=(i+k)*P.cellsOf e→(∀ j,i≤j→j<i+k→∃ x,DataW.trod enc P w base spare held m e ((cs.drop (j*P.cellsOf e)).take (P.cellsOf e))=some x)→
 ∃ xs:List (List RV),xs.length=k∧(∀ x∈xs,kI P n e x)∧lU w ok (cs.drop (i*P.cellsOf e)) xs.flatten
 | 0,i,cs,hl,_=>by
   refine ⟨[],rfl,by simp,?_⟩
   rw [List.drop_of_length_le (by simp at hl;omega)]
   exact ⟨rfl,fun j r hj=>by simp at hj⟩
 | k+1,i,cs,hl,hx=>by
   obtain ⟨x,hx0⟩:=hx i (Nat.le_refl _) (by omega)
   obtain ⟨a,AI,yj,MB⟩:=IH _ _ hx0
   obtain ⟨xs,h1,h2,h3⟩:=Iv ok IH k (i+1) cs (by rw [hl];congr 1;omega) (fun j h1 h2=>hx j (by omega) (by omega))
   refine ⟨a::xs,by simp [h1],fun x hx=>?_,?_⟩
   ·rcases List.mem_cons.1 hx with rfl | hx
    ·exact AI
    ·exact h2 x hx
   ·have:cs.drop (i*P.cellsOf e)=(cs.drop (i*P.cellsOf e)).take (P.cellsOf e)++cs.drop ((i+1)*P.cellsOf e):=by
     rw [Nat.add_mul,Nat.one_mul,← List.drop_drop,List.take_append_drop]
    rw [this,List.flatten_cons]
    exact yj.append h3
theorem Kt {a:Addr} {n:Nat} {cs:List Value} (h:w.cells? base a n=some cs):cs.length=n∧∀ j,j<n→w.cell? (a.add j)=some (cs.getD j undef):=by
 unfold World.cells? at h
 split at h
 ·obtain ⟨h1,h2⟩:=mapM_some_get _ _ _ h
  refine ⟨by simpa using h1,fun j hj=>?_⟩
  have hr:(List.range n)[j]?=some j:=List.getElem?_range hj
  obtain ⟨h3,h4⟩:=h2 j j hr
  have hlt:j<cs.length:=by rw [h1];simpa using hj
  rw [List.getD_eq_getElem?_getD,List.getElem?_eq_getElem hlt,Option.getD_some,← h3,List.getElem?_eq_getElem hlt]
 ·cases h
theorem typed (ok:Nat→Prop) (hok:∀ b,b<w.heap.size→ok b):∀ (n:Nat) (t:TypeId),nV P n t=true→∀ (fuel:Nat) (cs:List Value) (x:DataW H×List MemPlace),DataW.trod enc P w base spare held fuel t cs=some x→∃ rs,kI P n t rs∧lU w ok cs rs∧cs.length=P.cellsOf t
 | 0,t,h,_,_,_,_=>by cases h
 | n+1,t,h,fuel,cs,x,hx=>by
   unfold nV at h
   unfold kI
   split at h
   ·rename_i hu
    obtain ⟨b,rfl,_⟩:=DataW.trod_bool hu hx
    try simp only [hu]
    exact ⟨[.bool b],⟨b,rfl⟩,.one (.bool b) rfl,by simp at h;simp [h]⟩
   ·rename_i k hu
    obtain ⟨i,rfl,_,hw⟩:=DataW.trod_int hu hx
    try simp only [hu]
    exact ⟨[.int k i],⟨i,rfl,hw⟩,.one (.int k i) rfl,by simp at h;simp [h]⟩
   ·rename_i hu
    obtain ⟨s,rfl,_,hs⟩:=DataW.trod_string hu hx
    try simp only [hu]
    exact ⟨[.str s],⟨s,rfl,hs⟩,.one (.str s) rfl,by simp at h;simp [h]⟩
   ·rename_i e hu
    simp only [Bool.and_eq_true,beq_iff_eq] at h
    try simp only [hu]
    rcases DataW.trod_slice hu hx with ⟨rfl,_⟩ | ⟨a,len,cap,elems,rest,m,rfl,rfl,_,hb,hl,hm,hel,hcell,_,_⟩
    ·refine ⟨[.sl (P.cellsOf e) []],⟨[],rfl,by simp,by simp⟩,.one ?_ rfl,by simpa using h.1.symm⟩
     exact .sl _ [] none 0 (fun _ _=>undef) (fun _=>⟨rfl,rfl⟩) (by simp) (by simp [maxLen]) (by simp) (fun i x j y hx=>by simp at hx) (fun i x j y hx=>by simp at hx) (fun i x j y hx=>by simp at hx)
    ·have key:∀ i,i<len→∃ (ci:List Value) (r:List RV),kI P n e r∧lU w ok ci r∧ci.length=P.cellsOf e∧∀ j,j<P.cellsOf e→w.cell? ((a.add (i*P.cellsOf e)).add j)=some (ci.getD j undef):=fun i hi=>by
      have h1:=hcell i hi
      rw [List.getElem?_eq_getElem (by omega)] at h1
      simp only [Option.bind_eq_some_iff] at h1
      obtain ⟨ci,h2,h3⟩:=h1
      obtain ⟨r,g1,g2,g3⟩:=typed ok hok n e h.2 m ci _ h3
      exact ⟨ci,r,g1,g2,g3,(Kt h2).2⟩
     classical
     let cf:Nat→List Value:=fun i=>if h:i<len then (key i h).choose else []
     let rf:Nat→List RV:=fun i=>if h:i<len then (key i h).choose_spec.choose else []
     have hf:∀ i,i<len→kI P n e (rf i)∧lU w ok (cf i) (rf i)∧(cf i).length=P.cellsOf e∧∀ j,j<P.cellsOf e→w.cell? ((a.add (i*P.cellsOf e)).add j)=some ((cf i).getD j undef):=fun i hi=>by
      have h1:cf i=(key i hi).choose:=dif_pos hi
      have h2:rf i=(key i hi).choose_spec.choose:=dif_pos hi
      rw [h1,h2]
      exact (key i hi).choose_spec.choose_spec
     have hlen:((List.range len).map rf).length=len:=by simp
     have aB:∀ (i:Nat) (x:List RV),((List.range len).map rf)[i]?=some x→i<len∧x=rf i:=fun i x hi=>by
      rw [List.getElem?_map] at hi
      cases hr:(List.range len)[i]? with
      | none=>simp [hr] at hi
      | some j=>
        have hlt:=(List.getElem?_eq_some_iff.1 hr).1
        simp at hlt
        rw [List.getElem?_range hlt] at hr
        cases hr
        rw [List.getElem?_range hlt] at hi
        simp at hi
        exact ⟨hlt,hi.symm⟩
     refine ⟨[.sl (P.cellsOf e) ((List.range len).map rf)],⟨_,rfl,by rw [hlen];omega,fun x hx=>?_⟩,.one ?_ rfl,by simpa using h.1.symm⟩
     ·obtain ⟨i,hi,rfl⟩:=List.mem_map.1 hx
      exact (hf i (by simpa using hi)).1
     ·have hcs:∀ (i:Nat) (x:List RV) (j:Nat) (y:RV),((List.range len).map rf)[i]?=some x→x[j]?=some y→i<len∧(rf i)[j]?=some y∧w.cell? (a.add (i*P.cellsOf e+j))=some ((cf i).getD j undef):=fun i x j y hi hj=>by
       obtain ⟨h1,rfl⟩:=aB i x hi
       obtain ⟨_,g2,g3,g4⟩:=hf i h1
       have hlt:=(List.getElem?_eq_some_iff.1 hj).1
       have:=g4 j (by rw [← g3,g2.1];exact hlt)
       rw [xg] at this
       exact ⟨h1,hj,this⟩
      have:=RO.sl (w:=w) (ok:=ok) (P.cellsOf e) ((List.range len).map rf) (some a) cap (fun i j=>(cf i).getD j undef) (fun h=>by cases h) (by rw [hlen];exact hl) hm (fun x hx=>by
       obtain ⟨i,hi,rfl⟩:=List.mem_map.1 hx
       obtain ⟨_,g2,g3,_⟩:=hf i (by simpa using hi)
       rw [← g2.1,g3]) (fun i x j y hi hj=>by
       obtain ⟨_,_,h3⟩:=hcs i x j y hi hj
       exact ⟨a,rfl,hok _ (by have:=World.block_lt_of_cell? w _ h3;rwa [xh] at this),h3⟩) (fun i x j y hi hj=>by
       obtain ⟨h1,h2,_⟩:=hcs i x j y hi hj
       exact ((hf i h1).2.1.2 j y h2).1) (fun i x j y hi hj=>by
       obtain ⟨h1,h2,_⟩:=hcs i x j y hi hj
       exact ((hf i h1).2.1.2 j y h2).2)
      rw [hlen] at this
      exact this
   ·rename_i fs hu
    simp only [beq_iff_eq] at h
    try simp only [hu]
    obtain ⟨xs,m,rfl,_,hl,Bu,hf⟩:=DataW.trod_struct hu hx
    obtain ⟨rs,g1,g2⟩:=Iw (enc:=enc) (m:=m) ok (fun t ht cs x hx=>typed ok hok n t ht m cs x hx) fs.toList 0 (P.cellsOf t) cs h hl (fun f MS=>by
     obtain ⟨i,hi,he⟩:=List.mem_iff_getElem.1 MS
     have hi':i<fs.size:=by simpa using hi
     have oY:fs[i]?=some f:=by rw [Array.getElem?_eq_getElem hi'];simp at he;rw [he]
     have:=hf i f oY
     rw [List.getElem?_eq_getElem (by omega)] at this
     exact ⟨_,this⟩)
    exact ⟨rs,g1,by simpa using g2,hl⟩
   ·rename_i k e hu
    simp only [Bool.and_eq_true,beq_iff_eq] at h
    try simp only [hu]
    obtain ⟨xs,m,rfl,_,hl,Bu,hf⟩:=DataW.trod_array hu hx
    obtain ⟨ys,g1,g2,g3⟩:=Iv (enc:=enc) (m:=m) ok (fun cs x hx=>typed ok hok n e h.1 m cs x hx) k 0 cs (by rw [hl,h.2];congr 1;omega) (fun j _ hj=>by
     have:=hf j (by omega)
     rw [List.getElem?_eq_getElem (by omega)] at this
     exact ⟨_,this⟩)
    exact ⟨ys.flatten,⟨ys,rfl,g1,g2⟩,by simpa using g3,hl⟩
   ·cases h
end
def mZ (P:Program) (t:TypeId) (rs:List RV):SV:=match fA P t with
 | some true=>.agg (rs.map .rv)
 | _=>.rv (rs.headD .lB)
theorem RU {P:Program} {H:Type} {enc:TypeId×Value→H} {w:World} {r:Reach} {b0 n:Nat} {t:TypeId} {v:Value} {d:DataW H} {ps:List MemPlace} (hf:nV P n t=true) (hval:Value.okWide P w r b0 t v) (hd:DataW.Trod enc P w 0 (fun _=>true) true t v d ps) (C:Ctx) (aa:Nat→Option Nat) :
 ∃ rs,kI P n t rs∧∀ (ok:Nat→Prop) (aa:Nat→Option Nat) (hp:Hp),(∀ b,b<w.heap.size→ok b)→Rp w ok aa hp (mZ P t rs) v:=by
 obtain ⟨fuel,hx⟩:=hd
 obtain ⟨rs,h1,h2,h3⟩:=typed (enc:=enc) (fun b=>b<w.heap.size) (fun b hb=>hb) n t hf fuel _ _ hx
 refine ⟨rs,h1,fun ok aa hp hok=>?_⟩
 have qa:lU w ok v.cells.toList rs:=⟨h2.1,fun j q hj=>⟨(h2.2 j q hj).1,(h2.2 j q hj).2.mono fun b hb _=>⟨hok b hb,rfl⟩⟩⟩
 unfold mZ
 cases hu:P.underlying t with
 | none=>cases n <;> simp [nV,hu] at hf
 | some kd=>
   have scalar:(fA P t=some false)→v.cells = #[v]→Rp w ok aa hp (.rv (rs.headD .lB)) v:=fun _ hc=>by
    have hl:=qa.1
    rw [hc] at hl qa
    obtain ⟨q,rfl⟩:=List.length_eq_one_iff.1 hl.symm
    exact .rv _ _ (qa.2 0 q rfl).2
   have JJ:(∃ cs,v = .agg cs)→Rp w ok aa hp (.agg (rs.map .rv)) v:=fun ⟨cs,hv⟩=>by
    subst hv
    have hl:=qa.1
    have:Rp w ok aa hp (.agg (rs.map .rv)) (.agg cs.toList.toArray):=by
     refine .agg _ _ (by simpa [Value.cells] using hl) (fun j u hj=>?_) (fun j y hj=>?_)
     ·have hlt:=(List.getElem?_eq_some_iff.1 hj).1
      have hr:=List.getElem?_eq_getElem (l:=rs) (i:=j) (by simp [Value.cells] at hl;simp at hlt;omega)
      have:=qa.2 j _ hr
      have hu:(Value.cells (.agg cs)).toList.getD j undef=u:=by rw [List.getD_eq_getElem?_getD];show (cs.toList[j]?).getD undef=u;rw [hj];rfl
      rw [hu] at this
      exact this.2.wA this.1
     ·rw [List.getElem?_map] at hj
      cases hr:rs[j]? with
      | none=>simp [hr] at hj
      | some q=>simp [hr] at hj;subst hj;exact .rv _ _ (qa.2 j q hr).2
    simpa using this
   have MK:(∀ cs,v≠.agg cs)→v.cells = #[v]:=fun h=>by cases v <;> first | rfl | exact absurd rfl (h _)
   cases n with
   | zero=>cases hf
   | succ n=>
     unfold nV at hf
     unfold Value.okWide at hval
     cases kd <;> simp only [hu] at hf hval <;> first
      | (cases hf;done)
      | (have ha:fA P t=some true:=by simp [fA,hu]
         simp only [ha]
         obtain ⟨cs,hv,_⟩:=hval
         exact JJ ⟨cs,hv⟩)
      | (have ha:fA P t=some false:=by simp [fA,hu]
         simp only [ha]
         refine scalar ha (MK (fun cs hv=>?_))
         subst hv
         simp [Cell.okWide,hu,Cell.ok] at hval)
theorem QJ {P:Program} {f:FuncId} {ss:List SV} (h:aG P f ss [] [] (.rv (.bool true))) {w:World} {vs:List Value} (hl:vs.length=ss.length)
 (ha:∀ (j:Nat) (s:SV),ss[j]?=some s→∀ (ok:Nat→Prop) (aa:Nat→Option Nat) (hp:Hp),(∀ b,b<w.heap.size→ok b)→Rp w ok aa hp s (vs.getD j undef)) :
 Calls P f vs.toArray w fun e w'=>e = .returned (.bool true)∧RowKit.Below w.heap.size w w':=by
 let C:Ctx:=⟨w,fun _=>True,fun _=>False,0,fun _=>none,fun _=>none⟩
 have R:cl C (fun _=>none) w (fun _=>none):=⟨fun id hb h=>(by cases h),fun i j b h=>(by simp at h),fun i b h=>(by simp at h),⟨rfl,rfl,rfl,Nat.le_refl _,fun b _ _=>rfl⟩,fun id hb hb0 h=>(by cases h)⟩
 refine (h.2 C (fun _=>none) w (fun _=>none) vs (fun q hq=>by simp at hq) (fun q hq=>by simp at hq) R hl (fun j s hj=>ha j s hj _ _ _ (fun b hb=>⟨.inl trivial,fun id hid=>by simp at hid⟩))).mono ?_
 rintro e w' ⟨v,aH,rfl,S,hR⟩
 refine ⟨by rw [sQ hR],S.mem.fr.os,S.mem.fr.tape,S.mem.fr.output,S.mem.fr.size,fun k hk=>S.mem.fr.block k hk (fun h=>h)⟩
end Go.aJ

namespace Go.aJ
open Go
def aN (xs:List (List RV)):List (List SV):=xs.map (List.map SV.rv)
section
variable {xs ys:List (List RV)}
theorem Cn:xs.map (List.map SV.rv)=aN xs:=rfl
theorem av:(aN xs).length=xs.length:=by simp [aN]
theorem SN {i:Nat}:((aN xs)[i]?).getD []=((xs[i]?).getD []).map SV.rv:=by
 unfold aN
 rw [List.getElem?_map]
 cases xs[i]? <;> rfl
theorem SO {n:Nat}:(aN xs).take n=aN (xs.take n):=by simp [aN]
theorem Hu:aN xs++aN ys=aN (xs++ys):=by simp [aN]
theorem map_inj {α β:Type} {f:α→β} (hf:∀ x y,f x=f y→x=y):∀ {a b:List α},a.map f=b.map f→a=b
 | [],[],_=>rfl
 | [],_::_,h=>by simp at h
 | _::_,[],h=>by simp at h
 | x::a,y::b,h=>by
   simp only [List.map_cons,List.cons.injEq] at h
   rw [hf x y h.1,map_inj hf h.2]
theorem nI:aN xs=aN ys↔xs=ys:=by
 constructor
 ·intro h
  exact map_inj (fun a b h=>map_inj (fun x y h=>by cases h;rfl) h) h
 ·rintro rfl;rfl
end
def zM (τ:Nat→Option Nat) (h:Hp) (xs ys:List (List SV)):Prop:=xs.length=ys.length∧∀ (i:Nat) (x y:List SV),xs[i]?=some x→ys[i]?=some y→rP τ h x y
theorem gT {τ:Nat→Option Nat} {h:Hp} {xs ys:List (List RV)}:zM τ h (aN xs) (aN ys)↔xs=ys:=by
 constructor
 ·rintro ⟨hl,hr⟩
  refine List.ext_getElem? (fun i=>?_)
  rw [av,av] at hl
  by_cases hi:i<xs.length
  ·have h1:=List.getElem?_eq_getElem hi
   have h2:=List.getElem?_eq_getElem (l:=ys) (i:=i) (by omega)
   have:=hr i (xs[i].map SV.rv) ((ys[i]'(by omega)).map SV.rv) (by simp [aN,h1]) (by simp [aN,h2])
   rw [h1,h2]
   obtain ⟨k1,k2⟩:=this
   simp at k1
   congr 1
   refine List.ext_getElem? (fun j=>?_)
   by_cases hj:j<(xs[i]).length
   ·have g1:=List.getElem?_eq_getElem hj
    have g2:=List.getElem?_eq_getElem (l:=ys[i]'(by omega)) (i:=j) (by omega)
    have:=k2 j _ _ (by rw [List.getElem?_map,g1];rfl) (by rw [List.getElem?_map,g2];rfl)
    rw [g1,g2,aK.1 this]
   ·rw [List.getElem?_eq_none (by omega),List.getElem?_eq_none (by omega)]
  ·rw [List.getElem?_eq_none (by omega),List.getElem?_eq_none (by omega)]
 ·rintro rfl
  refine ⟨rfl,fun i x y hx hy=>?_⟩
  rw [hx] at hy;cases hy
  refine ⟨rfl,fun j a b ha hb=>?_⟩
  rw [ha] at hb;cases hb
  unfold aN at hx
  rw [List.getElem?_map] at hx
  cases hq:xs[i]? with
  | none=>simp [hq] at hx
  | some q=>
    simp [hq] at hx
    subst hx
    rw [List.getElem?_map] at ha
    cases hr:q[j]? with
    | none=>simp [hr] at ha
    | some r=>simp [hr] at ha;subst ha;exact aK.2 rfl
def fV (τ:Nat→Option Nat) (h:Hp):Option HB→Option HB→Prop
 | some (.var xs),some (.var ys)=>aI τ h xs ys
 | some (.row e v xs),some (.row e' v' ys)=>e=e'∧v=v'∧zM τ h xs ys
 | _,_=>False
theorem fV.get {τ:Nat→Option Nat} {h:Hp} {x y:Option HB} (hr:fV τ h x y):∃ a b,x=some a∧y=some b∧oP τ h a b:=by
 unfold fV at hr
 split at hr
 ·exact ⟨_,_,rfl,rfl,.var _ _ (um.1 hr)⟩
 ·obtain ⟨rfl,rfl,h1,h2⟩:=hr
  exact ⟨_,_,rfl,rfl,.row _ _ _ _ h1 h2⟩
 ·exact hr.elim
def gi:List (Nat×HB)→Nat→Option HB
 | [],_=>none
 | (i,hb)::r,id=>if id=i then some hb else gi r id
def fX:Option HB→List (Nat×HB)→Nat→Option HB
 | b,[],_=>b
 | b,(i,hb)::r,id=>fX (if id=i then some hb else b) r id
theorem Ix {id:Nat}:∀ {us:List (Nat×HB)} {hp:Hp},bM hp us id=fX (hp id) us id
 | [],hp=>rfl
 | (i,hb)::r,hp=>by
   rw [bM,Ix,fX]
   unfold up
   rfl
theorem Ea {id:Nat} {hb:HB}:∀ {us:List (Nat×HB)} {a:Option HB},fX none us id=some hb→fX a us id=some hb
 | [],a,h=>by cases h
 | (i,hb0)::r,a,h=>by
   unfold fX at h ⊢
   by_cases hi:id=i
   ·rw [if_pos hi] at h ⊢;exact h
   ·rw [if_neg hi] at h ⊢;exact Ea h
theorem Gc {id:Nat} {hb:HB}:∀ {pre:List (Nat×HB)},gi pre id=some hb→(id,hb)∈pre
 | [],h=>by cases h
 | (i,hb0)::r,h=>by
   unfold gi at h
   split at h
   ·rename_i hi;cases h;subst hi;simp
   ·exact List.mem_cons_of_mem _ (Gc h)
theorem KZ {pre us:List (Nat×HB)} {id:Nat} {hb:HB} (h:fX (gi pre id) us id=some hb) (hp:Hp) (hpre:aU hp pre):bM hp us id=some hb:=by
 rw [Ix]
 cases hl:gi pre id with
 | none=>rw [hl] at h;exact Ea h
 | some b=>
   rw [hl] at h
   rw [hpre (id,b) (Gc hl)];exact h
def gM (τ:Nat→Option Nat) (h:Hp) (pre us:List (Nat×HB)):Nat→List (Option Nat)→Prop
 | _,[]=>True
 | j,none::r=>gM τ h pre us (j+1) r
 | j,some id::r=>fV τ h (h j) (fX (gi pre id) us id)∧gM τ h pre us (j+1) r
theorem FP {τ:Nat→Option Nat} {h:Hp} {pre us:List (Nat×HB)}:∀ {l:List (Option Nat)} {j:Nat},gM τ h pre us j l→∀ (i id:Nat),l[i]?=some (some id)→fV τ h (h (j+i)) (fX (gi pre id) us id)
 | [],j,_,i,id,hi=>by simp at hi
 | x::r,j,hk,i,id,hi=>by
   cases i with
   | zero=>
     simp at hi
     subst hi
     exact hk.1
   | succ i=>
     have hk':gM τ h pre us (j+1) r:=by cases x with | none=>exact hk | some q=>exact hk.2
     have:=FP hk' i id (by simpa using hi)
     rwa [show j+1+i=j+(i+1) by omega] at this
def gx (sV:List (Option Nat)) (j:Nat):Option Nat:=(sV[j]?).getD none
def bV:List (Option Nat)→Prop
 | []=>True
 | none::r=>bV r
 | some x::r=>some x∉r∧bV r
theorem yY:∀ {l:List (Option Nat)},bV l→∀ (i j id:Nat),l[i]?=some (some id)→l[j]?=some (some id)→i=j
 | [],_,i,j,id,h,_=>by simp at h
 | x::r,hn,i,j,id,h1,h2=>by
   have hn':bV r:=by cases x with | none=>exact hn | some q=>exact hn.2
   cases i with
   | zero=>
     simp at h1
     subst h1
     cases j with
     | zero=>rfl
     | succ j=>exact absurd (List.mem_of_getElem? (by simpa using h2)) hn.1
   | succ i=>
     cases j with
     | zero=>
       simp at h2
       subst h2
       exact absurd (List.mem_of_getElem? (by simpa using h1)) hn.1
     | succ j=>rw [yY hn' i j id (by simpa using h1) (by simpa using h2)]
def newL (pre us:List (Nat×HB)):List (Option Nat)→Prop
 | []=>True
 | none::r=>newL pre us r
 | some id::r=>id∈us.map (·.1)∧id∉pre.map (·.1)∧newL pre us r
theorem Gu {pre us:List (Nat×HB)}:∀ {l:List (Option Nat)},newL pre us l→∀ (i id:Nat),l[i]?=some (some id)→id∈us.map (·.1)∧id∉pre.map (·.1)
 | [],_,i,id,h=>by simp at h
 | x::r,hn,i,id,h=>by
   have hn':newL pre us r:=by cases x with | none=>exact hn | some q=>exact hn.2.2
   cases i with
   | zero=>simp at h;subst h;exact ⟨hn.1,hn.2.1⟩
   | succ i=>exact Gu hn' i id (by simpa using h)
def gV (sV:List (Option Nat)):List (Nat×HB)→Prop
 | []=>True
 | (i,_)::r=>some i∈sV∧gV sV r
theorem CQ {sV:List (Option Nat)}:∀ {us:List (Nat×HB)},gV sV us→∀ q∈us,some q.1∈sV
 | [],_,q,h=>by simp at h
 | (i,hb)::r,hu,q,h=>by
   rcases List.mem_cons.1 h with rfl | h
   ·exact hu.1
   ·exact CQ hu.2 q h
def gS (σ:List Nat) (pre us:List (Nat×HB)) (rs:List RR) (sv:SV) (env:List (Nat×SV)) (h:List (Option HB)) (kJ:List (Option Nat)):Prop:=
 bV (σ.map some++kJ)∧newL pre us kJ∧gV (σ.map some++kJ) us∧gM (gx (σ.map some++kJ)) (aB h) pre us 0 (σ.map some++kJ)∧bg (gx (σ.map some++kJ)) (aB h) sv (aX (lk env) (aB h) rs)
theorem Eb {σ:List Nat} {pre us:List (Nat×HB)} {rs:List RR} {sv:SV} {env:List (Nat×SV)} {h:List (Option HB)} {kJ:List (Option Nat)} (hr:gS σ pre us rs sv env h kJ):Fin σ pre us rs sv env h (gx (σ.map some++kJ)):=by
 obtain ⟨h1,h2,h3,h4,h5⟩:=hr
 have yC:∀ j id,gx (σ.map some++kJ) j=some id→(σ.map some++kJ)[j]?=some (some id):=fun j id hj=>by
  unfold gx at hj
  cases hq:(σ.map some++kJ)[j]? with
  | none=>rw [hq] at hj;cases hj
  | some x=>rw [hq] at hj;simp at hj;rw [hj]
 refine ⟨fun i j id hi hj=>yY h1 i j id (yC i id hi) (yC j id hj),fun j id hj=>?_,fun j id hj hl=>?_,fun j id hj=>?_,fun q hq=>?_,?_⟩
 ·unfold gx
  rw [List.getElem?_append_left (by have:=(List.getElem?_eq_some_iff.1 hj).1;simpa using this),List.getElem?_map,hj];rfl
 ·have:=yC j id hj
  rw [List.getElem?_append_right (by simpa using hl)] at this
  obtain ⟨g1,g2⟩:=Gu h2 _ id this
  exact ⟨g1,fun q hq he=>g2 (List.mem_map.2 ⟨q,hq,he⟩)⟩
 ·have:=FP h4 j id (yC j id hj)
  rw [Nat.zero_add] at this
  obtain ⟨a,b,g1,g2,g3⟩:=this.get
  exact ⟨a,b,g1,g3,fun hp hpre=>KZ g2 hp hpre⟩
 ·obtain ⟨j,hj,he⟩:=List.mem_iff_getElem.1 (CQ h3 q hq)
  refine ⟨j,?_⟩
  unfold gx
  rw [List.getElem?_eq_getElem hj,he];rfl
 ·unfold bg at h5
  split at h5
  ·rename_i p xs hres;exact ⟨p,xs,hres,h5.1,h5.2⟩
  ·exact h5.elim
def aO (σ:Nat→Option Nat):List SV→List SV→Prop
 | [],[]=>True
 | x::xs,y::ys=>Bk σ x y∧aO σ xs ys
 | _,_=>False
theorem lF {σ:Nat→Option Nat}:∀ {xs ys:List SV},aO σ xs ys↔rK σ xs ys
 | [],[]=>⟨fun _=>⟨rfl,fun i x y hx=>by simp at hx⟩,fun _=>trivial⟩
 | [],_::_=>⟨fun h=>h.elim,fun h=>by simp [rK] at h⟩
 | _::_,[]=>⟨fun h=>h.elim,fun h=>by simp [rK] at h⟩
 | x::xs,y::ys=>by
   unfold aO
   rw [lF (xs:=xs) (ys:=ys)]
   constructor
   ·rintro ⟨h1,h2,h3⟩
    refine ⟨by simp [h2],fun i a b ha hb=>?_⟩
    cases i with
    | zero=>simp at ha hb;subst ha;subst hb;exact h1
    | succ i=>exact h3 i a b (by simpa using ha) (by simpa using hb)
   ·rintro ⟨h2,h3⟩
    exact ⟨h3 0 x y rfl rfl,by simpa using h2,fun i a b ha hb=>h3 (i+1) a b (by simpa using ha) (by simpa using hb)⟩
section
variable {σ:Nat→Option Nat}
theorem aQ {r r':RV}:Bk σ (.rv r) (.rv r')↔r=r':=⟨fun hr=>by cases hr;rfl,fun e=>by subst e;exact .rv _⟩
theorem nO {x:SV}:Bk σ .dead x↔True:=⟨fun _=>trivial,fun _=>.dead _⟩
theorem lG {i j o o':Nat}:Bk σ (.ptr i o) (.ptr j o')↔σ i=some j∧o=o':=⟨fun hr=>by cases hr with | ptr _ _ _ hj=>exact ⟨hj,rfl⟩,fun ⟨e,e'⟩=>by subst e';exact .ptr _ _ _ e⟩
theorem lg {i j v v' l l':Nat}:Bk σ (.row i v l) (.row j v' l')↔σ i=some j∧v=v'∧l=l':=⟨fun hr=>by cases hr with | row _ _ _ _ hj=>exact ⟨hj,rfl,rfl⟩,fun ⟨e,e',e2⟩=>by subst e';subst e2;exact .row _ _ _ _ e⟩
theorem aW {xs ys:List SV}:Bk σ (.agg xs) (.agg ys)↔aO σ xs ys:=by rw [lF];exact ⟨fun hr=>by cases hr with | agg _ _ hl hf=>exact ⟨hl,hf⟩,fun ⟨e,e'⟩=>.agg _ _ e e'⟩
theorem nQ {xs ys:List SV}:Bk σ (.aP xs) (.aP ys)↔aO σ xs ys:=by rw [lF];exact ⟨fun hr=>by cases hr with | aP _ _ hl hf=>exact ⟨hl,hf⟩,fun ⟨e,e'⟩=>.aP _ _ e e'⟩
theorem aY {f f':FuncId} {xs ys:List SV}:Bk σ (.fn f xs) (.fn f' ys)↔f=f'∧aO σ xs ys:=by rw [lF];exact ⟨fun hr=>by cases hr with | fn _ _ _ hl hf=>exact ⟨rfl,hl,hf⟩,fun ⟨e,e',e2⟩=>by subst e;exact .fn _ _ _ e' e2⟩
theorem Dd {f f':FuncId} {xs ys:List SV}:Bk σ (.fE f xs) (.fE f' ys)↔f=f'∧aO σ xs ys:=by rw [lF];exact ⟨fun hr=>by cases hr with | fE _ _ _ hl hf=>exact ⟨rfl,hl,hf⟩,fun ⟨e,e',e2⟩=>by subst e;exact .fE _ _ _ e' e2⟩
theorem nP {t t':TypeId} {x y:SV}:Bk σ (.bU t x) (.bU t' y)↔t=t'∧Bk σ x y:=⟨fun hr=>by cases hr with | bU _ _ _ hf=>exact ⟨rfl,hf⟩,fun ⟨e,e'⟩=>by subst e;exact .bU _ _ _ e'⟩
theorem bl {rs:List RV}:aO σ (rs.map .rv) (rs.map .rv)↔True:=⟨fun _=>trivial,fun _=>lF.2 ⟨rfl,fun i x y hx hy=>by
 rw [hx] at hy;cases hy
 rw [List.getElem?_map] at hx
 cases hr:rs[i]? with
 | none=>simp [hr] at hx
 | some r=>simp [hr] at hx;subst hx;exact .rv r⟩⟩
end
theorem ga {τ:Nat→Option Nat} {h:Hp} {rs qs:List RV}:aI τ h (rs.map .rv) (qs.map .rv)↔rs=qs:=by
 induction rs generalizing qs with
 | nil=>cases qs <;> simp [aI]
 | cons r rs ih=>cases qs with
   | nil=>simp [aI]
   | cons q qs=>simp [aI,aK,ih]
def gZ (σ:Nat→Option Nat):List HB→List HB→Prop
 | [],[]=>True
 | .var xs::r,.var ys::q=>aO σ xs ys∧gZ σ r q
 | .row e v xs::r,.row e' v' ys::q=>e=e'∧v=v'∧(xs=ys∧∃ zs,xs=aN zs)∧gZ σ r q
 | _,_=>False
theorem gZ.get {σ:Nat→Option Nat}:∀ {a b:List HB},gZ σ a b→a.length=b.length∧∀ (j:Nat) (x y:HB),a[j]?=some x→b[j]?=some y→mD σ x y
 | [],[],_=>⟨rfl,fun j x y hx=>by simp at hx⟩
 | .var xs::r,.var ys::q,h=>by
   obtain ⟨g1,g2⟩:=gZ.get h.2
   refine ⟨by simp [g1],fun j x y hx hy=>?_⟩
   cases j with
   | zero=>simp at hx hy;subst hx;subst hy;exact .var _ _ (lF.1 h.1)
   | succ j=>exact g2 j x y (by simpa using hx) (by simpa using hy)
 | .row e v xs::r,.row e' v' ys::q,h=>by
   obtain ⟨rfl,rfl,⟨rfl,zs,rfl⟩,h4⟩:=h
   obtain ⟨g1,g2⟩:=gZ.get h4
   refine ⟨by simp [g1],fun j x y hx hy=>?_⟩
   cases j with
   | zero=>
     simp at hx hy;subst hx;subst hy
     refine .row _ _ _ _ rfl (fun i x y hx hy=>?_)
     rw [hx] at hy;cases hy
     unfold aN at hx
     rw [List.getElem?_map] at hx
     cases hq:zs[i]? with
     | none=>simp [hq] at hx
     | some z=>simp [hq] at hx;subst hx;exact lF.1 (bl.2 trivial)
   | succ j=>exact g2 j x y (by simpa using hx) (by simpa using hy)
 | [],_::_,h=>h.elim
 | .var _::_,[],h=>h.elim
 | .row .. :: _,[],h=>h.elim
 | .var _::_,.row .. :: _,h=>h.elim
 | .row .. :: _,.var _::_,h=>h.elim
theorem mJ {P:Program} {f:FuncId} {N:Nat} {ac:AC} {rs:List RR} (H:aT P f N ac rs) (σ:List Nat) (mc me:List HB) (iO args:List SV) (us:List (Nat×HB)) (sv:SV) (hN:args.length≤N) (hA:aO (fun j=>σ[j]?) iO args) (hl:mc.length=σ.length) (yA:bV (σ.map some)) (hB:gZ (fun j=>σ[j]?) mc me)
 (hrun:∀ K:Ex→St→Prop,(∀ env h env' h' kJ,fS σ.length ⟨env,h⟩ ⟨env',h'⟩→gS σ (σ.zip me) us rs sv env' h' kJ→K .normal ⟨env,h⟩∧K .ret ⟨env,h⟩)→G P σ.length [.c ac] K (nB 0 iO) (mc.map some)):aG P f args (σ.zip me) us sv:=by
 obtain ⟨g1,g2⟩:=hB.get
 refine xG H σ (mc.map some) iO hN (lF.1 hA) (by simpa using hl) (fun i j id h1 h2=>yY yA i j id (by simp [h1]) (by simp [h2])) (fun j id hj=>?_) (fun K hK=>hrun K (fun env h env' h' kJ hE hr=>hK env h env' h' _ hE (Eb hr)))
 have hlt:=(List.getElem?_eq_some_iff.1 hj).1
 have h1:=List.getElem?_eq_getElem (l:=mc) (i:=j) (by omega)
 have h2:=List.getElem?_eq_getElem (l:=me) (i:=j) (by omega)
 refine ⟨_,_,by rw [List.getElem?_map,h1];rfl,?_,g2 j _ _ h1 h2⟩
 have hz:(σ.zip me)[j]?=some (id,me[j]'(by omega)):=by
  rw [List.getElem?_zip_eq_some];exact ⟨hj,h2⟩
 exact List.mem_of_getElem? hz
theorem iz {x:Option HB} {r:List (Option HB)}:aB (x::r) 0=x:=rfl
theorem iy {x:Option HB} {r:List (Option HB)} {n:Nat}:aB (x::r) (n+1)=aB r n:=rfl
theorem Mf {P:Program} {n0:Nat} {k:List It} {K:Ex→St→Prop} {env:List (Nat×SV)} {h:List (Option HB)} {id:Nat} {a:List Nat} {b:List TE} {c:List bE}:GX P n0 id (.d a b c::k) K env h=GX P n0 id k K env h:=rfl
theorem UI {α:Type} {o:Nat} {x l:List α}:splice l o x=l.take o++x++l.drop (o+x.length):=rfl
def sW (τ:Nat→Option Nat) (h:Hp):List SV→List RV→Prop
 | [],[]=>True
 | x::xs,r::rs=>Fz τ h x r∧sW τ h xs rs
 | _,_=>False
theorem sW.get {τ:Nat→Option Nat} {h:Hp}:∀ {xs:List SV} {rs:List RV},sW τ h xs rs→xs.length=rs.length∧∀ (j:Nat) (x:SV) (r:RV),xs[j]?=some x→rs[j]?=some r→Fz τ h x r
 | [],[],_=>⟨rfl,fun j x r hx=>by simp at hx⟩
 | x::xs,r::rs,hf=>by
   obtain ⟨g1,g2⟩:=sW.get hf.2
   refine ⟨by simp [g1],fun j y q hy hq=>?_⟩
   cases j with
   | zero=>simp at hy hq;subst hy;subst hq;exact hf.1
   | succ j=>exact g2 j y q (by simpa using hy) (by simpa using hq)
 | [],_::_,h=>h.elim
 | _::_,[],h=>h.elim
theorem nX {τ:Nat→Option Nat} {h:Hp} {j e aq len:Nat} {xs:List (List RV)} (hj:h j=some (.row e aq (aN xs))) (lJ:τ j=none) (hl:len≤xs.length) (h1:∀ x∈xs,∀ r∈x,r.one=true):Fz τ h (.row j aq len) (.sl e (xs.take len)):=by
 have at_:∀ (i:Nat) (x:List SV) (r:List RV),(aN xs)[i]?=some x→(xs.take len)[i]?=some r→x=r.map .rv∧r∈xs:=fun i x r hx hr=>by
  have h1:=List.mem_of_mem_take (List.mem_of_getElem? hr)
  have hlt:=(List.getElem?_eq_some_iff.1 hr).1
  rw [List.getElem?_take,if_pos (by simp at hlt;omega)] at hr
  unfold aN at hx
  rw [List.getElem?_map,hr] at hx
  simp at hx
  exact ⟨hx.symm,h1⟩
 refine .row j e aq len (aN xs) (xs.take len) lJ hj (by simp;omega) (by rw [av];exact hl) (fun i x r hx hr=>?_) (fun i r k q hr hq=>?_) (fun i x r k y q hx hr hy hq=>?_)
 ·rw [(at_ i x r hx hr).1];simp
 ·exact h1 r (List.mem_of_mem_take (List.mem_of_getElem? hr)) q (List.mem_of_getElem? hq)
 ·rw [(at_ i x r hx hr).1,List.getElem?_map,hq] at hy
  simp at hy
  subst hy
  exact .rv q
theorem xF {P:Program} {f:FuncId} {rs:List RV} {args:List SV} {pre us:List (Nat×HB)} {sv:SV} (H:aG P f (rs.map .rv) [] us sv)
 (hz:∀ hp,aU hp pre→sW (fun _=>none) hp args rs) (hl:args.length=rs.length) (hfl:iH sv) (jX:∀ q∈us,oN q.2∧∀ p∈pre,p.1≠q.1):aG P f args pre us sv:=
 Kj H hl (fun hp hpre j y r hy hr=>(hz hp hpre).get.2 j y r hy hr) hfl jX
theorem cl.Em {C:Ctx} {hp:Hp} {w:World} {aa:Nat→Option Nat} (R:cl C hp w aa) {i0 m o:Nat} {cs:List SV} (e:Nat) (hi:hp i0=some (.var cs)) (ho:cs[o]?=some (.rv .cm)) (hm:hp m=none) (hm0:C.h0 m=none) :
 ∃ aH,Step C hp (up (up hp m (some (.row e 0 []))) i0 (some (.var (cs.set o (.row m 0 0))))) w w aa aH:=by
 have S:=R.ghost m e 0 (.inl ⟨hm,hm0⟩)
 have hne:i0≠m:=fun h=>by subst h;rw [hm] at hi;cases hi
 have hi':(up hp m (some (.row e 0 []))) i0=some (.var cs):=by rw [gd _ _ hne];exact hi
 rcases S.mem.heap i0 _ hi' with ⟨_,e',aq,hc⟩ | ⟨b,cur,t,h1,h2,h3⟩
 ·cases hc
 ·have S2:=S.mem.replace i0 (.var (cs.set o (.row m 0 0))) b cur t rfl rfl rfl (Nat.le_refl _) h2 (fun k _ _=>rfl) (.inl ⟨by rw [hi'];rfl,h1⟩) (fun hb hq=>by rw [hi'] at hq;cases hq;exact h1.symm) (fun hq=>by rw [hi'] at hq;cases hq) ⟨by rw [List.length_set];exact h3.1,fun j y hy=>by
   rw [List.getElem?_set] at hy
   split at hy
   ·rename_i hj
    subst hj
    split at hy
    ·cases hy
     obtain ⟨v,v1,v2,v3⟩:=h3.2 _ _ ho
     refine ⟨v,v1,v2,?_⟩
     cases v3 with
     | rv _ _ hr=>
       cases hr
       exact .row _ _ _ _ rfl (by rw [cn];rfl) (fun e fW xs hx=>by rw [cn] at hx;cases hx;exact Nat.le_refl _) (fun e xs hx=>.inl ⟨cn _ _ _,rfl,rfl⟩)
    ·cases hy
   ·exact h3.2 j y hy⟩
  exact ⟨_,S.trans S2 (Nat.le_refl _)⟩
theorem Kk {P:Program} {f:FuncId} {args:List SV} {pre us:List (Nat×HB)} {sv:SV} {i0 m e o:Nat} {cs:List SV} (ho:cs[o]?=some (.rv .cm)) (hm:∀ q∈pre,q.1≠m∧q.1≠i0) (hne:m≠i0) (h1:i0∈us.map (·.1)) (h2:m∈us.map (·.1))
 (H:aG P f args ((i0,.var (cs.set o (.row m 0 0)))::(m,.row e 0 [])::pre) us sv):aG P f args ((i0,.var cs)::pre) us sv:=by
 refine ⟨H.1,fun C hp w aa vs hpre hnew R hvl hvs=>?_⟩
 have hi:hp i0=some (.var cs):=hpre (i0,.var cs) (by simp)
 obtain ⟨hmn,hm0⟩:hp m=none∧C.h0 m=none:=by
  obtain ⟨q,hq,rfl⟩:=List.mem_map.1 h2
  rcases hnew q hq with ⟨hb,hmem⟩ | h
  ·rcases List.mem_cons.1 hmem with he | hmem
   ·cases he;exact absurd rfl hne
   ·exact absurd rfl (hm _ hmem).1
  ·exact h
 obtain ⟨zk,S⟩:=R.Em e hi ho hmn hm0
 have hE:∀ id,id≠m→id≠i0→(up (up hp m (some (.row e 0 []))) i0 (some (.var (cs.set o (.row m 0 0))))) id=hp id:=fun id a b=>by rw [gd _ _ b,gd _ _ a]
 have Ns:bM (up (up hp m (some (.row e 0 []))) i0 (some (.var (cs.set o (.row m 0 0))))) us=bM hp us:=by
  funext id
  by_cases hid:id∈us.map (·.1)
  ·exact wO hid
  ·rw [zF hid,zF hid,hE id (fun h=>hid (h▸h2)) (fun h=>hid (h▸h1))]
 refine (H.2 C _ w zk vs (fun q hq=>?_) (fun q hq=>?_) S.mem hvl (fun j s hj=>(hvs j s hj).mono S.jF)).mono ?_
 ·rcases List.mem_cons.1 hq with rfl | hq
  ·exact cn _ _ _
  ·rcases List.mem_cons.1 hq with rfl | hq
   ·show (up (up hp m _) i0 _) m=_
    rw [gd _ _ hne,cn]
   ·rw [hE _ (hm q hq).1 (hm q hq).2];exact hpre q (by simp [hq])
 ·rcases hnew q hq with ⟨hb,hmem⟩ | ⟨a,b⟩
  ·rcases List.mem_cons.1 hmem with he | hmem
   ·exact .inl ⟨_,by rw [(Prod.mk.inj he).1];exact .head _⟩
   ·exact .inl ⟨hb,by simp [hmem]⟩
  ·by_cases EW:q.1=m
   ·exact .inl ⟨.row e 0 [],by rw [EW];simp⟩
   ·refine .inr ⟨?_,b⟩
    rw [hE _ EW (fun h=>by rw [h,hi] at a;cases a)];exact a
 ·rintro e' w' ⟨v,aH,rfl,S2,hR⟩
  rw [Ns] at S2 hR
  exact ⟨v,aH,rfl,S.trans S2 (Nat.le_refl _),hR⟩
theorem Ke:(true != true)=false:=rfl
theorem Kd:(true != false)=true:=rfl
theorem Kc:(false != true)=true:=rfl
theorem Kb:(false != false)=false:=rfl
end Go.aJ

namespace Go.aJ
open Go
def gA (k j:Nat):Option Nat:=if j<k then some j else none
def qk (τ:Nat→Option Nat) (h:Hp):Nat→List (Option HB)→Prop
 | _,[]=>True
 | _,none::_=>False
 | j,some hb::r=>fV τ h (h j) (some hb)∧qk τ h (j+1) r
theorem FO {τ:Nat→Option Nat} {h:Hp}:∀ {l:List (Option HB)} {j:Nat},qk τ h j l→∀ i,i<l.length→∃ hb hb',l[i]?=some (some hb')∧h (j+i)=some hb∧oP τ h hb hb'
 | [],j,_,i,hi=>by simp at hi
 | none::_,j,hk,i,hi=>hk.elim
 | some x::r,j,hk,i,hi=>by
   cases i with
   | zero=>
     obtain ⟨a,b,g1,g2,g3⟩:=hk.1.get
     cases g2
     exact ⟨a,x,rfl,g1,g3⟩
   | succ i=>
     obtain ⟨a,b,g1,g2,g3⟩:=FO hk.2 i (by simpa using hi)
     exact ⟨a,b,by simpa using g1,by rwa [show j+(i+1)=j+1+i by omega],g3⟩
theorem tC {n0:Nat} {env env':List (Nat×SV)} {h:List (Option HB)} (h':List (Option HB)) (hn:n0≤h'.length) (hk:qk (gA h'.length) (aB h) 0 h')
 (he:∀ p∈env',Rn (gA h'.length) (aB h) (lk env p.1) p.2):fS n0 ⟨env,h⟩ ⟨env',h'⟩:=by
 refine Ar (gA h'.length) hn (fun j i hj=>?_) (fun j hj=>?_) (fun j=>?_) (we (fun x=>.dead x) he)
 ·unfold gA at hj;split at hj <;> cases hj;rfl
 ·unfold gA at hj;split at hj
  ·cases hj
  ·omega
 ·by_cases hj:j<h'.length
  ·obtain ⟨hb,hb',g1,g2,g3⟩:=FO hk j hj
   rw [Nat.zero_add] at g2
   exact .inl ⟨hb,hb',by simp [gA,hj],g2,oZ.2 g1,g3⟩
  ·refine .inr ⟨?_,.inl (by simp [gA,hj])⟩
   unfold aB
   rw [List.getElem?_eq_none (by omega)]
theorem pK {τ:Nat→Option Nat} {h:Hp} {j e aq len:Nat} {xs:List (List RV)} (hj:h j=some (.row e aq (aN xs))) (lJ:τ j=none) (hl:len=xs.length) (h1:∀ x∈xs,∀ r∈x,r.one=true):Rn τ h (.row j aq len) (.rv (.sl e xs)):=by
 have:=nX (τ:=τ) hj lJ (len:=len) (by omega) h1
 rw [hl,List.take_length] at this
 rw [hl];exact .fz _ _ this
theorem RO.SR {w:World} {ok:Nat→Prop} {e:Nat} {v:Value} (h:RO w ok (.sl e []) v):RO w ok .cm v∨RO w ok .mA v:=by
 cases h with
 | sl _ _ a cap c h0 hc hm he hr h1 hy=>
   cases a with
   | none=>have:=(h0 rfl).2;subst this;exact .inl .cm
   | some a=>exact .inr (.mA a cap hm)
theorem Dm {P:Program} {f:FuncId} {e:Nat} {kZ bs:List SV} {pre us:List (Nat×HB)} {sv:SV} (h1:aG P f (kZ ++ .rv .cm::bs) pre us sv) (h2:aG P f (kZ ++ .rv .mA::bs) pre us sv):aG P f (kZ ++ .rv (.sl e [])::bs) pre us sv:=by
 refine ⟨h1.1,fun C hp w aa vs hpre hnew R hvl hvs=>?_⟩
 have hj:=hvs kZ.length (.rv (.sl e [])) (by simp)
 have key:∀ r:RV,RO w (aF C aa hp) r (vs.getD kZ.length undef)→∀ (j:Nat) (s:SV),(kZ ++ .rv r::bs)[j]?=some s→Rp w (aF C aa hp) aa hp s (vs.getD j undef):=fun r hr j s hs=>by
  by_cases he:j=kZ.length
  ·subst he
   simp at hs
   subst hs
   exact .rv _ _ hr
  ·refine hvs j s ?_
   by_cases hlt:j<kZ.length
   ·rw [List.getElem?_append_left hlt] at hs ⊢;exact hs
   ·rw [List.getElem?_append_right (by omega)] at hs ⊢
    obtain ⟨k,hk⟩:∃ k,j - kZ.length=k+1:=⟨j - kZ.length - 1,by omega⟩
    rw [hk,List.getElem?_cons_succ] at hs ⊢
    exact hs
 cases hj with
 | rv _ _ hr=>
   rcases RO.SR hr with hr | hr
   ·exact h1.2 C hp w aa vs hpre hnew R (by simpa using hvl) (key _ hr)
   ·exact h2.2 C hp w aa vs hpre hnew R (by simpa using hvl) (key _ hr)
end Go.aJ

namespace Go.aJ
open Go
section
variable {P:Program} {n0:Nat} {k:List It} {K:Ex→St→Prop} {env:List (Nat×SV)} {h:List (Option HB)}
theorem Kq {a b:AC}:xQ P n0 a b k K env h (.rv (.bool true))=G P n0 (.c a::k) K env h:=rfl
theorem Kp {a b:AC}:xQ P n0 a b k K env h (.rv (.bool false))=G P n0 (.c b::k) K env h:=rfl
theorem ai {a b:AC} {t:Bool} (h1:t=true→G P n0 (.c a::k) K env h) (h2:t=false→G P n0 (.c b::k) K env h):xQ P n0 a b k K env h (.rv (.bool t)):=by
 cases t
 ·exact h2 rfl
 ·exact h1 rfl
section
variable {ao:AO} {xs:List XO} {dst:Option Nat} {r:List bE} {aV:List Nat} {acc:List TE} {fB:List Nat}
theorem LU:sj P n0 true ao xs dst r k K env h (.rv (.bool true))=sM P n0 ao (xs.map (iY (lk env))) dst r k K env h:=rfl
theorem LS:sj P n0 true ao xs dst r k K env h (.rv (.bool false))=G P n0 (.o r::k) K (fZ dst (.aP []) env) h:=rfl
theorem LR:sj P n0 false ao xs dst r k K env h (.rv (.bool true))=G P n0 (.o r::k) K (fZ dst (.aP []) env) h:=rfl
theorem LQ:sj P n0 false ao xs dst r k K env h (.rv (.bool false))=sM P n0 ao (xs.map (iY (lk env))) dst r k K env h:=rfl
theorem LV {b:Bool}:sj P n0 b ao xs dst r k K env h (.aP [])=G P n0 (.o r::k) K (fZ dst (.aP []) env) h:=rfl
theorem Mb {b:Bool}:sk P n0 aV acc fB b ao xs dst r k K env h (.aP [])=G P n0 (.d aV (acc++[⟨fB,dst,[],[]⟩]) r::k) K (fZ dst (.aP []) env) h:=rfl
theorem ay {b t:Bool} (h1:t=b→sM P n0 ao (xs.map (iY (lk env))) dst r k K env h) (h2:t = !b→G P n0 (.o r::k) K (fZ dst (.aP []) env) h):sj P n0 b ao xs dst r k K env h (.rv (.bool t)):=by
 cases t <;> cases b <;> first | exact h1 rfl | exact h2 rfl
theorem Ma:sk P n0 aV acc fB true ao xs dst r k K env h (.rv (.bool true))=sO P n0 aV acc fB ao (xs.map (iY (lk env))) dst r k K env h:=rfl
theorem LZ:sk P n0 aV acc fB true ao xs dst r k K env h (.rv (.bool false))=G P n0 (.d aV (acc++[⟨fB,dst,[],[]⟩]) r::k) K (fZ dst (.aP []) env) h:=rfl
theorem LY:sk P n0 aV acc fB false ao xs dst r k K env h (.rv (.bool true))=G P n0 (.d aV (acc++[⟨fB,dst,[],[]⟩]) r::k) K (fZ dst (.aP []) env) h:=rfl
theorem LX:sk P n0 aV acc fB false ao xs dst r k K env h (.rv (.bool false))=sO P n0 aV acc fB ao (xs.map (iY (lk env))) dst r k K env h:=rfl
theorem az {b t:Bool} (h1:t=b→sO P n0 aV acc fB ao (xs.map (iY (lk env))) dst r k K env h) (h2:t = !b→G P n0 (.d aV (acc++[⟨fB,dst,[],[]⟩]) r::k) K (fZ dst (.aP []) env) h):sk P n0 aV acc fB b ao xs dst r k K env h (.rv (.bool t)):=by
 cases t <;> cases b <;> first | exact h1 rfl | exact h2 rfl
end
end
theorem Sh {x y:SV}:wC [.rv (.bool true),x,y]=some (True,x,none,[]):=rfl
theorem Sg {x y:SV}:wC [.rv (.bool false),x,y]=some (True,y,none,[]):=rfl
theorem bG {x y:Int}:(x == y)=decide (x=y):=rfl
theorem IG {m:Int} (h1:0≤m) (h2:m≤4611686018427387904):IntKind.i64.wrap (0 - m) = -m:=by rw [wrap_i64 (by omega) (by omega)];omega
theorem xE {P:Program} {f:FuncId} {N:Nat} {ac:AC} {rs:List RR} (H:aT P f N ac rs) (σ:List Nat) (mc me:List HB) (iO args:List SV) (us:List (Nat×HB)) (sv:SV) (hN:args.length≤N) (hA:aO (fun j=>σ[j]?) iO args) (hl:mc.length=σ.length) (yA:bV (σ.map some)) (g1:mc.length=me.length)
 (g2:∀ (j:Nat) (x y:HB),mc[j]?=some x→me[j]?=some y→mD (fun j=>σ[j]?) x y)
 (hrun:∀ K:Ex→St→Prop,(∀ env h env' h' kJ,fS σ.length ⟨env,h⟩ ⟨env',h'⟩→gS σ (σ.zip me) us rs sv env' h' kJ→K .normal ⟨env,h⟩∧K .ret ⟨env,h⟩)→G P σ.length [.c ac] K (nB 0 iO) (mc.map some)):aG P f args (σ.zip me) us sv:=by
 refine xG H σ (mc.map some) iO hN (lF.1 hA) (by simpa using hl) (fun i j id h1 h2=>yY yA i j id (by simp [h1]) (by simp [h2])) (fun j id hj=>?_) (fun K hK=>hrun K (fun env h env' h' kJ hE hr=>hK env h env' h' _ hE (Eb hr)))
 have hlt:=(List.getElem?_eq_some_iff.1 hj).1
 have h1:=List.getElem?_eq_getElem (l:=mc) (i:=j) (by omega)
 have h2:=List.getElem?_eq_getElem (l:=me) (i:=j) (by omega)
 refine ⟨_,_,by rw [List.getElem?_map,h1];rfl,?_,g2 j _ _ h1 h2⟩
 have hz:(σ.zip me)[j]?=some (id,me[j]'(by omega)):=by
  rw [List.getElem?_zip_eq_some];exact ⟨hj,h2⟩
 exact List.mem_of_getElem? hz
theorem Ko {P:Program} {f:FuncId} {args:List SV} {pre pre' us:List (Nat×HB)} {sv:SV} (h:aG P f args pre us sv) (hp:∀ q,q∈pre↔q∈pre'):aG P f args pre' us sv:=
 ⟨h.1,fun C jW w aa vs a b c d e=>h.2 C jW w aa vs (fun q hq=>a q ((hp q).1 hq)) (fun q hq=>(b q hq).imp (fun ⟨hb,hm⟩=>⟨hb,(hp _).2 hm⟩) id) c d e⟩
def gR (i:Nat) (os:List Nat):List (List SV):=os.map fun o=>[.ptr i o]
theorem GV {i:Nat} {os:List Nat}:(gR i os).length=os.length:=by simp [gR]
theorem zl {τ:Nat→Option Nat} {h:Hp} {i j:Nat} {os:List Nat} (lJ:τ i=some j):zM τ h (gR i os) (gR j os):=by
 refine ⟨by simp [gR],fun k x y hx hy=>?_⟩
 unfold gR at hx hy
 rw [List.getElem?_map] at hx hy
 cases hk:os[k]? with
 | none=>simp [hk] at hx
 | some o=>
   simp [hk] at hx hy
   subst hx;subst hy
   exact um.1 ⟨.ptr _ _ _ lJ,trivial⟩
theorem JZ {σ:Nat→Option Nat} {i j e v:Nat} {os:List Nat} (oq:σ i=some j):mD σ (.row e v (gR i os)) (.row e v (gR j os)):=by
 refine .row _ _ _ _ (by simp [gR]) (fun k x y hx hy=>?_)
 unfold gR at hx hy
 rw [List.getElem?_map] at hx hy
 cases hk:os[k]? with
 | none=>simp [hk] at hx
 | some o=>
   simp [hk] at hx hy
   subst hx;subst hy
   exact lF.1 ⟨.ptr _ _ _ oq,trivial⟩
theorem Df {σ:Nat→Option Nat} {rs:List RV}:mD σ (.var (rs.map .rv)) (.var (rs.map .rv)):=.var _ _ (lF.1 (bl.2 trivial))
theorem zQ {σ:Nat→Option Nat} {xs ys:List SV} (h:aO σ xs ys):mD σ (.var xs) (.var ys):=.var _ _ (lF.1 h)
theorem De {σ:Nat→Option Nat} {e v:Nat} {xs:List (List RV)}:mD σ (.row e v (aN xs)) (.row e v (aN xs)):=by
 refine .row _ _ _ _ rfl (fun i x y hx hy=>?_)
 rw [hx] at hy;cases hy
 unfold aN at hx
 rw [List.getElem?_map] at hx
 cases hq:xs[i]? with
 | none=>simp [hq] at hx
 | some z=>simp [hq] at hx;subst hx;exact lF.1 (bl.2 trivial)
theorem JK {p:Nat→HB→HB→Prop} {a a' b b' c c':HB} (h0:p 0 a a') (h1:p 1 b b') (h2:p 2 c c'):∀ (j:Nat) (x y:HB),[a,b,c][j]?=some x→[a',b',c'][j]?=some y→p j x y:=by
 intro j x y hx hy
 match j with
 | 0=>simp at hx hy;subst hx;subst hy;exact h0
 | 1=>simp at hx hy;subst hx;subst hy;exact h1
 | 2=>simp at hx hy;subst hx;subst hy;exact h2
 | j+3=>simp at hx
theorem CO {p:Nat→HB→HB→Prop} {a a' b b':HB} (h0:p 0 a a') (h1:p 1 b b'):∀ (j:Nat) (x y:HB),[a,b][j]?=some x→[a',b'][j]?=some y→p j x y:=by
 intro j x y hx hy
 match j with
 | 0=>simp at hx hy;subst hx;subst hy;exact h0
 | 1=>simp at hx hy;subst hx;subst hy;exact h1
 | j+2=>simp at hx
theorem bt {P:Program} {f:FuncId} {N:Nat} {ac:AC} {rs:List RR} (H:aT P f N ac rs) (args:List SV) (sv:SV) (hN:args.length≤N) (hA:aO (fun j=>([]:List Nat)[j]?) args args)
 (hrun:∀ K:Ex→St→Prop,(∀ env h,bg (fun _=>none) (aB h) sv (aX (lk env) (aB h) rs)→K .normal ⟨env,h⟩∧K .ret ⟨env,h⟩)→G P 0 [.c ac] K (nB 0 args) []):aG P f args [] [] sv:=by
 refine xG H [] [] args hN (lF.1 hA) rfl (by simp) (by simp) (fun K hK=>hrun K (fun env h hr=>?_))
 unfold bg at hr
 split at hr
 ·rename_i p xs hres
  exact hK env h env h (fun _=>none) (gL _ _) ⟨by simp,by simp,by simp,by simp,by simp,p,xs,hres,hr.1,hr.2⟩
 ·exact hr.elim
theorem bO {τ:Nat→Option Nat} {h:Hp} {env:List (Nat×SV)} {n:Nat} {r:RV} (hl:lk env n = .rv r):bg τ h (.rv r) (aX (lk env) h [.t n]):=by
 simp [aX,bg,bp,hl,aK]
theorem gI {τ:Nat→Option Nat} {h:Hp} {env:List (Nat×SV)} {n m:Nat} {r q:RV} (hl:lk env n = .rv r) (hm:lk env m = .rv q):bg τ h (.aP [.rv r,.rv q]) (aX (lk env) h [.t n,.t m]):=by
 simp [aX,bg,bp,hl,hm,aK,bq,aI]
theorem AE {τ:Nat→Option Nat} {h:Hp}:∀ (bs:List RV),sW τ h (bs.map .rv) bs
 | []=>trivial
 | b::bs=>⟨.rv b,AE bs⟩
theorem FX {P:Program} {f:FuncId} {e id v n:Nat} {xs:List (List RV)} {bs:List RV} {r:RV} (H:aG P f (.rv (.sl e xs)::bs.map .rv) [] [] (.rv r)) (hf:ju r) (hn:n=xs.length) (h1:∀ x∈xs,∀ r∈x,r.one=true) :
 aG P f (.row id v n::bs.map .rv) [(id,.row e v (aN xs))] [] (.rv r):=by
 refine xF (rs:=.sl e xs::bs) H (fun hp hpre=>⟨?_,?_⟩) (by simp) (.rv _ hf) (by simp)
 ·have:=nX (h:=hp) (τ:=fun _=>none) (j:=id) (e:=e) (aq:=v) (len:=n) (xs:=xs) (hpre _ (.head _)) rfl (by omega) h1
  rwa [hn,List.take_length,← hn] at this
 ·exact AE bs
theorem FY {P:Program} {f:FuncId} {e id v n:Nat} {xs:List (List RV)} {bs:List RV} {rs:List RV} (H:aG P f (.rv (.sl e xs)::bs.map .rv) [] [] (.aP (rs.map .rv))) (hf:∀ r∈rs,ju r) (hn:n=xs.length) (h1:∀ x∈xs,∀ r∈x,r.one=true) :
 aG P f (.row id v n::bs.map .rv) [(id,.row e v (aN xs))] [] (.aP (rs.map .rv)):=by
 refine xF (rs:=.sl e xs::bs) H (fun hp hpre=>⟨?_,?_⟩) (by simp) (.aP _ (fun j y hy=>?_)) (by simp)
 ·have:=nX (h:=hp) (τ:=fun _=>none) (j:=id) (e:=e) (aq:=v) (len:=n) (xs:=xs) (hpre _ (.head _)) rfl (by omega) h1
  rwa [hn,List.take_length,← hn] at this
 ·exact AE bs
 ·rw [List.getElem?_map] at hy
  cases hr:rs[j]? with
  | none=>simp [hr] at hy
  | some r=>simp [hr] at hy;subst hy;exact .rv _ (hf r (List.mem_of_getElem? hr))
end Go.aJ

namespace Go.aJ
open Go
theorem qJ {n0:Nat} {env:List (Nat×SV)} {h:List (Option HB)} (n e v:Nat) (hn:lk env n = .rv .cm):fS n0 ⟨env,h⟩ ⟨(n,.row h.length v 0)::env,h++[some (.row e v [])]⟩:=by
 intro C a w R
 obtain ⟨⟨aa,RF⟩,h1,h0⟩:=R
 have hnone:aB h h.length=none:=by unfold aB;rw [List.getElem?_eq_none (Nat.le_refl _)]
 have vg:C.h0 h.length=none:=h0 _ h1
 have S:=RF.mem.ghost h.length e v (.inl ⟨hnone,vg⟩)
 have kY:=RF.step S
 have hh:aB (h++[some (.row e v [])])=up (aB h) h.length (some (.row e v [])):=by
  have:=yq (h:=h) (q:=(h.length,.row e v [])) (Nat.le_refl _)
  rw [← this]
  unfold aR;rw [if_pos rfl]
 have hv:=RF.env n
 rw [hn] at hv
 refine ⟨⟨up aa h.length none,?_,fun m=>?_,kY.size,kY.defers⟩,?_,h0⟩
 ·show cl C (aB (h++[some (.row e v [])])) w (up aa h.length none)
  rw [hh];exact kY.mem
 ·show Rp w (aF C (up aa h.length none) (aB (h++[some (.row e v [])]))) (up aa h.length none) (aB (h++[some (.row e v [])])) (lk ((n,.row h.length v 0)::env) m) _
  rw [hh,wg]
  by_cases hm:m=n
  ·subst hm
   rw [cn]
   cases hv with
   | rv _ _ hr=>
     generalize a.tmps.getD m undef=v at hr
     cases hr
     refine .row _ _ _ _ rfl (by rw [cn];rfl) (fun e fW xs hx=>by rw [cn] at hx;cases hx;exact Nat.le_refl _) (fun e xs hx=>.inl ⟨cn _ _ _,rfl,rfl⟩)
  ·rw [gd _ _ hm];exact kY.env m
 ·show n0≤(h++[some (HB.row e v [])]).length
  have Mm:n0≤h.length:=h1
  simp;omega
theorem cl.Mc {C:Ctx} {hp:Hp} {w:World} {aa:Nat→Option Nat} (R:cl C hp w aa) {i0 m k v:Nat} {xs:List (List SV)} (e:Nat) (hi:hp i0=some (.row 1 v xs)) (ho:xs[k]?=some [.rv .cm]) (hm:hp m=none) (hm0:C.h0 m=none) :
 ∃ aH,Step C hp (up (up hp m (some (.row e 0 []))) i0 (some (.row 1 v (xs.set k [.row m 0 0])))) w w aa aH:=by
 have S:=R.ghost m e 0 (.inl ⟨hm,hm0⟩)
 have hne:i0≠m:=fun h=>by subst h;rw [hm] at hi;cases hi
 have hi':(up hp m (some (.row e 0 []))) i0=some (.row 1 v xs):=by rw [gd _ _ hne];exact hi
 rcases S.mem.heap i0 _ hi' with ⟨_,e',aq,hc⟩ | ⟨b,cur,t,h1,h2,h3⟩
 ·cases hc;simp at ho
 ·have S2:=S.mem.replace i0 (.row 1 v (xs.set k [.row m 0 0])) b cur t rfl rfl rfl (Nat.le_refl _) h2 (fun k _ _=>rfl) (.inl ⟨by rw [hi'];rfl,h1⟩) (fun hb hq=>by
   rw [hi'] at hq;cases hq
   exact ⟨Nat.le_refl _,fun _=>⟨rfl,h1.symm,fun b' _ cur t hc=>⟨cur,t,hc,rfl⟩⟩⟩) (fun hq=>by rw [hi'] at hq;cases hq) ⟨fun x hx=>by
   rcases List.mem_or_eq_of_mem_set hx with h | h
   ·exact h3.1 x h
   ·rw [h];rfl,by rw [List.length_set];exact h3.2.1,fun i x hx=>by
   rw [List.getElem?_set] at hx
   split at hx
   ·rename_i hik
    subst hik
    split at hx
    ·cases hx
     intro j y hy
     cases j with
     | succ j=>simp at hy
     | zero=>
       simp at hy
       subst hy
       obtain ⟨u,v1,v2,v3⟩:=h3.2.2 _ _ ho 0 _ rfl
       refine ⟨u,v1,v2,?_⟩
       cases v3 with
       | rv _ _ hr=>
         cases hr
         exact .row _ _ _ _ rfl (by rw [cn];rfl) (fun e fW xs hx=>by rw [cn] at hx;cases hx;exact Nat.le_refl _) (fun e xs hx=>.inl ⟨cn _ _ _,rfl,rfl⟩)
    ·cases hx
   ·exact h3.2.2 i x hx⟩
  exact ⟨_,S.trans S2 (Nat.le_refl _)⟩
def iQ (n:Nat) (e:Nat):List (Option HB):=List.replicate n (some (.row e 0 []))
def iC (b n k:Nat):List (List SV):=(List.range n).map fun p=>if p<k then [.row (b+p) 0 0] else [.rv .cm]
theorem KR {n0:Nat} {env:List (Nat×SV)} {h:List (Option HB)} {r v n e k:Nat} (hr:h[r]?=some (some (.row 1 v (iC h.length n k)))) (hk:k<n) :
 fS n0 ⟨env,h++iQ k e⟩ ⟨env,(h.set r (some (.row 1 v (iC h.length n (k+1)))))++iQ (k+1) e⟩:=by
 intro C a w R
 obtain ⟨⟨aa,RF⟩,h1,h0⟩:=R
 have hrl:r<h.length:=(List.getElem?_eq_some_iff.1 hr).1
 have hlen:(h++iQ k e).length=h.length+k:=by simp [iQ]
 have hnone:aB (h++iQ k e) (h.length+k)=none:=by unfold aB;rw [List.getElem?_eq_none (by rw [hlen];exact Nat.le_refl _)]
 have vg:C.h0 (h.length+k)=none:=h0 _ (by have:n0≤(h++iQ k e).length:=h1;omega)
 have hi:aB (h++iQ k e) r=some (.row 1 v (iC h.length n k)):=by
  unfold aB;rw [List.getElem?_append_left hrl,hr]
 have ho:(iC h.length n k)[k]?=some [.rv .cm]:=by simp [iC,hk]
 have M:cl C (aB (h++iQ k e)) w aa:=RF.mem
 obtain ⟨aH,S⟩:=M.Mc e hi ho hnone vg
 have vF:(iC h.length n k).set k [.row (h.length+k) 0 0]=iC h.length n (k+1):=by
  refine List.ext_getElem (by simp [iC]) (fun i a1 a2=>?_)
  simp only [List.getElem_set,iC,List.getElem_map,List.getElem_range]
  by_cases hik:k=i
  ·subst hik;simp
  ·rw [if_neg hik]
   by_cases hlt:i<k
   ·rw [if_pos hlt,if_pos (by omega)]
   ·rw [if_neg hlt,if_neg (by omega)]
 have hh:aB ((h.set r (some (.row 1 v (iC h.length n (k+1)))))++iQ (k+1) e)=up (up (aB (h++iQ k e)) (h.length+k) (some (.row e 0 []))) r (some (.row 1 v ((iC h.length n k).set k [.row (h.length+k) 0 0]))):=by
  rw [vF]
  funext j
  unfold aB up
  by_cases hj:j=r
  ·subst hj
   rw [if_pos rfl,List.getElem?_append_left (by simpa using hrl),List.getElem?_set]
   simp [hrl]
  ·rw [if_neg hj]
   by_cases yw:j=h.length+k
   ·subst yw
    rw [if_pos rfl,List.getElem?_append_right (by simp)]
    simp [iQ]
   ·rw [if_neg yw]
    dsimp only
    by_cases hjl:j<h.length
    ·rw [List.getElem?_append_left (by simpa using hjl),List.getElem?_append_left hjl,List.getElem?_set_ne (Ne.symm hj)]
    ·rw [List.getElem?_append_right (by simp;omega),List.getElem?_append_right (by omega)]
     simp only [List.length_set,iQ,List.getElem?_replicate]
     by_cases EJ:j - h.length<k
     ·rw [if_pos (by omega),if_pos EJ]
     ·rw [if_neg (by omega),if_neg EJ]
 have kY:=RF.step S
 refine ⟨⟨aH,?_,fun m=>?_,kY.size,kY.defers⟩,?_,h0⟩
 ·show cl C (aB _) w aH
  rw [hh];exact kY.mem
 ·show Rp w (aF C aH (aB _)) aH (aB _) _ _
  rw [hh];exact kY.env m
 ·show n0≤((h.set r _)++iQ (k+1) e).length
  have:n0≤(h++iQ k e).length:=h1
  simp [iQ] at this ⊢;omega
theorem DS {n0:Nat} {env:List (Nat×SV)} {h:List (Option HB)} {r v n e:Nat} (hr:h[r]?=some (some (.row 1 v (List.replicate n [.rv .cm])))) :
 fS n0 ⟨env,h⟩ ⟨env,(h.set r (some (.row 1 v (iC h.length n n))))++iQ n e⟩:=by
 have hrl:r<h.length:=(List.getElem?_eq_some_iff.1 hr).1
 have hz:iC h.length n 0=List.replicate n [.rv .cm]:=by
  refine List.ext_getElem (by simp [iC]) (fun i h1 h2=>?_)
  simp [iC]
 have key:∀ k,k≤n→fS n0 ⟨env,h⟩ ⟨env,(h.set r (some (.row 1 v (iC h.length n k))))++iQ k e⟩:=by
  intro k
  induction k with
  | zero=>
    intro _
    have:h.set r (some (.row 1 v (iC h.length n 0)))=h:=by
     rw [hz]
     refine List.ext_getElem? (fun i=>?_)
     rw [List.getElem?_set]
     by_cases hi:r=i
     ·subst hi;rw [if_pos rfl,if_pos hrl,hr]
     ·rw [if_neg hi]
    rw [this]
    simpa [iQ] using gL n0 ⟨env,h⟩
  | succ k ih=>
    intro hk
    refine (ih (by omega)).trans ?_
    have hl:(h.set r (some (.row 1 v (iC h.length n k)))).length=h.length:=by simp
    have:=KR (n0:=n0) (env:=env) (h:=h.set r (some (.row 1 v (iC h.length n k)))) (r:=r) (v:=v) (n:=n) (e:=e) (k:=k) (by rw [hl,List.getElem?_set];simp [hrl]) (by omega)
    rw [hl,List.set_set] at this
    exact this
 exact key n (Nat.le_refl _)
theorem Kl {P:Program} {f:FuncId} {rs:List RV} {us:List (Nat×HB)} {sv wI:SV} (H:aG P f (rs.map .rv) [] us sv) (hz:Rn (fun _=>none) (bM (fun _=>none) us) sv wI) (aD:∃ rs',wI = .rv rs'∨∃ qs:List RV,wI = .aP (qs.map .rv)):aG P f (rs.map .rv) [] [] wI:=by
 refine ⟨H.1,fun C hp w aa vs hpre hnew R hvl hvs=>?_⟩
 let C2:Ctx:=⟨w,fun b=>aF C aa hp b,fun _=>False,C.N,fun _=>none,fun _=>none⟩
 have sD:∀ b,C2.wo b→aF C2 (fun _=>none) (fun _=>none) b:=fun b hb=>⟨.inl hb,fun id hid=>by simp at hid⟩
 have R2:cl C2 (fun _=>none) w (fun _=>none):=⟨fun id hb h=>(by cases h),fun i j b h=>(by simp at h),fun i b h=>(by simp at h),⟨rfl,rfl,rfl,Nat.le_refl _,fun b _ _=>rfl⟩,fun id hb hb0 h=>(by cases h)⟩
 refine (H.2 C2 (fun _=>none) w (fun _=>none) vs (fun q hq=>by simp at hq) (fun q hq=>.inr ⟨rfl,rfl⟩) R2 hvl (fun j s hj=>?_)).mono ?_
 ·have h1:=hvs j s hj
  rw [List.getElem?_map] at hj
  cases hr:rs[j]? with
  | none=>simp [hr] at hj
  | some r=>
    simp [hr] at hj
    subst hj
    cases h1 with
    | rv _ _ h=>exact .rv _ _ (h.mono fun b hb _=>⟨sD b hb,rfl⟩)
 ·rintro e w' ⟨v,aH,rfl,S,hR⟩
  have R':=S.mem
  have hsz:w.heap.size≤w'.heap.size:=R'.fr.size
  have sK:∀ b,aF C aa hp b→b<w.heap.size→aF C aa hp b∧w'.heap[b]?=w.heap[b]?:=fun b hb hlt=>⟨hb,R'.fr.block b hlt (fun h=>h)⟩
  have GA:∀ b,w.heap.size≤b→aF C aa hp b:=fun b hb=>⟨.inr (Nat.le_trans R.fr.size hb),fun id hid he=>by have:=(R.own id b hid he).2;omega⟩
  have E:iW w w' (aF C aa hp) (aF C aa hp) aa aa hp hp:=iW.of sK (fun id hb hq=>⟨hb,hq,by
   cases hb with
   | var cs=>rfl
   | row e aq xs=>exact ⟨Nat.le_refl _,fun _=>⟨rfl,rfl,fun b hb cur t hc=>⟨cur,t,by rw [R'.fr.block b (R.own id b (by rw [hq];rfl) hb).2 (fun h=>h)];exact hc,rfl⟩⟩⟩⟩)
  have out:Rp w' (aF C aa hp) aa hp wI v:=hR.leave (τ:=fun _=>none) (aa:=aa) (hp:=hp) (fun b hb=>by
   rcases hb.1 with h | h
   ·exact h
   ·exact GA b h) (fun j b _ hs hb=>by
   rcases (R'.own j b hs hb).1 with ⟨h,_⟩ | h
   ·cases h
   ·exact GA b h) (fun j hb hj=>R'.heap j hb hj) (fun j id hj=>by cases hj) hz
  refine ⟨v,aa,rfl,⟨⟨fun id hb hq=>?_,R.inj,fun id b h1 h2=>⟨(R.own id b h1 h2).1,by have:=(R.own id b h1 h2).2;omega⟩,⟨R'.fr.os.trans R.fr.os,R'.fr.tape.trans R.fr.tape,R'.fr.output.trans R.fr.output,Nat.le_trans R.fr.size hsz,fun b h1 h2=>?_⟩,fun id hb hb0 h1 h2=>?_⟩,E⟩,out⟩
  ·have fO:hp id=some hb:=hq
   rcases R.heap id hb fO with h | ⟨b,cur,t,a1,a2,a3⟩
   ·exact .inl h
   ·refine .inr ⟨b,cur,t,a1,?_,a3.mono E⟩
    rw [R'.fr.block b (R.own id b (by rw [fO];rfl) a1).2 (fun h=>h)];exact a2
  ·have hb:b<w.heap.size:=by have:=R.fr.size;omega
   rw [R'.fr.block b hb (fun h=>h)]
   exact R.fr.block b h1 h2
  ·have fO:hp id=some hb:=h1
   refine (R.jF id hb hb0 fO h2).trans ?_
   cases hb with
   | var cs=>rfl
   | row e aq xs=>exact ⟨Nat.le_refl _,fun _=>⟨rfl,rfl,fun b hb cur t hc=>⟨cur,t,by rw [R'.fr.block b (R.own id b (by rw [fO];rfl) hb).2 (fun h=>h)];exact hc,rfl⟩⟩⟩
end Go.aJ

namespace Go.aJ
open Go
inductive iK (n:Nat):SV→Prop where
 | dead:iK n .dead
 | rv (r:RV):iK n (.rv r)
 | ptr (id off:Nat) (h:id<n):iK n (.ptr id off)
 | bW (id aq i off:Nat) (h:id<n):iK n (.bW id aq i off)
 | row (id aq len:Nat) (h:id<n):iK n (.row id aq len)
 | win (id aq off len:Nat) (h:id<n):iK n (.win id aq off len)
 | agg (cs:List SV) (h:∀ (j:Nat) (y:SV),cs[j]?=some y→iK n y):iK n (.agg cs)
 | aP (cs:List SV) (h:∀ (j:Nat) (y:SV),cs[j]?=some y→iK n y):iK n (.aP cs)
 | fn (f:FuncId) (cs:List SV) (h:∀ (j:Nat) (y:SV),cs[j]?=some y→iK n y):iK n (.fn f cs)
 | fE (f:FuncId) (cs:List SV) (h:∀ (j:Nat) (y:SV),cs[j]?=some y→iK n y):iK n (.fE f cs)
 | bU (t:TypeId) (x:SV) (h:iK n x):iK n (.bU t x)
theorem iK.rn {n:Nat} {h:Hp} {x:SV} (hc:iK n x):Rn (gA n) h x x:=by
 induction hc with
 | dead=>exact .dead _
 | rv r=>exact .fz _ _ (.rv r)
 | ptr id off h=>exact .ptr _ _ _ (by simp [gA,h])
 | bW id aq i off h=>exact .bW _ _ _ _ _ (by simp [gA,h])
 | row id aq len h=>exact .row _ _ _ _ (by simp [gA,h])
 | win id aq off len h=>exact .win _ _ _ _ _ (by simp [gA,h])
 | agg cs h ih=>exact .agg _ _ rfl (fun i x y hx hy=>by rw [hx] at hy;cases hy;exact ih i x hx)
 | aP cs h ih=>exact .aP _ _ rfl (fun i x y hx hy=>by rw [hx] at hy;cases hy;exact ih i x hx)
 | fn f cs h ih=>exact .fn _ _ _ rfl (fun i x y hx hy=>by rw [hx] at hy;cases hy;exact ih i x hx)
 | fE f cs h ih=>exact .fE _ _ _ rfl (fun i x y hx hy=>by rw [hx] at hy;cases hy;exact ih i x hx)
 | bU t x h ih=>exact .bU _ _ _ ih
def mE (n:Nat):List SV→Prop
 | []=>True
 | x::r=>iK n x∧mE n r
theorem mE.get {n:Nat}:∀ {l:List SV},mE n l→∀ (j:Nat) (y:SV),l[j]?=some y→iK n y
 | [],_,j,y,h=>by simp at h
 | x::r,hc,j,y,h=>by
   cases j with
   | zero=>simp at h;subst h;exact hc.1
   | succ j=>exact hc.2.get j y (by simpa using h)
theorem jT {n:Nat} {r:RV}:iK n (.rv r)↔True:=⟨fun _=>trivial,fun _=>.rv r⟩
theorem lY {n i o:Nat}:iK n (.ptr i o)↔i<n:=⟨fun h=>by cases h;assumption,fun h=>.ptr _ _ h⟩
theorem jx {n i v l:Nat}:iK n (.row i v l)↔i<n:=⟨fun h=>by cases h;assumption,fun h=>.row _ _ _ h⟩
theorem kC {n:Nat} {rs:List RV}:mE n (rs.map .rv):=by
 induction rs with
 | nil=>trivial
 | cons r rs ih=>exact ⟨.rv r,ih⟩
def mF (n:Nat):HB→Prop
 | .var cs=>mE n cs
 | .row _ _ xs=>∀ (i:Nat) (x:List SV),xs[i]?=some x→mE n x
theorem iP {n e v:Nat} {xs:List (List RV)}:mF n (.row e v (aN xs)):=fun i x hx=>by
 unfold aN at hx
 rw [List.getElem?_map] at hx
 cases hq:xs[i]? with
 | none=>simp [hq] at hx
 | some z=>simp [hq] at hx;subst hx;exact kC
theorem mF.rn {n:Nat} {h:Hp} {hb:HB} (hc:mF n hb):oP (gA n) h hb hb:=by
 cases hb with
 | var cs=>exact .var _ _ ⟨rfl,fun i x y hx hy=>by rw [hx] at hy;cases hy;exact (mE.get hc i x hx).rn⟩
 | row e v xs=>exact .row _ _ _ _ rfl (fun i x y hx hy=>by
    rw [hx] at hy;cases hy
    exact ⟨rfl,fun j a b ha hb=>by rw [ha] at hb;cases hb;exact (mE.get (hc i x hx) j a ha).rn⟩)
def iw (n:Nat) (env:List (Nat×SV)):List (Nat×SV)→Prop
 | []=>True
 | (m,v)::r=>(v = .dead∨lk env m=v∧iK n v)∧iw n env r
theorem iw.get {n:Nat} {env:List (Nat×SV)}:∀ {env':List (Nat×SV)},iw n env env'→∀ p∈env',p.2 = .dead∨lk env p.1=p.2∧iK n p.2
 | [],_,p,hp=>by simp at hp
 | (m,v)::r,h,p,hp=>by
   rcases List.mem_cons.1 hp with rfl | hp
   ·exact h.1
   ·exact h.2.get p hp
def kX (P:HB→Prop):List (Option HB)→Prop
 | []=>True
 | some hb::r=>P hb∧kX P r
 | none::_=>False
theorem kX.get {P:HB→Prop}:∀ {l:List (Option HB)},kX P l→∀ j,j<l.length→∃ hb,l[j]?=some (some hb)∧P hb
 | [],_,j,hj=>by simp at hj
 | some hb::r,h,j,hj=>by
   cases j with
   | zero=>exact ⟨hb,rfl,h.1⟩
   | succ j=>obtain ⟨x,a,b⟩:=h.2.get j (by simpa using hj);exact ⟨x,by simpa using a,b⟩
 | none::r,h,_,_=>h.elim
theorem kX.of {P:HB→Prop}:∀ {l:List (Option HB)},(∀ (j:Nat) (x:Option HB),l[j]?=some x→∃ hb,x=some hb∧P hb)→kX P l
 | [],_=>trivial
 | x::r,h=>by
   obtain ⟨hb,rfl,hp⟩:=h 0 x rfl
   exact ⟨hp,kX.of fun j y hy=>h (j+1) y (by simpa using hy)⟩
theorem nU {n0:Nat} {env env':List (Nat×SV)} {h' C:List (Option HB)} (hn:n0≤h'.length) (hC:kX (mF h'.length) h') (he:iw h'.length env env'):fS n0 ⟨env,h'++C⟩ ⟨env',h'⟩:=by
 refine Ar (gA h'.length) hn (fun j i hj=>?_) (fun j hj=>?_) (fun j=>?_) (we (fun x=>.dead x) (fun p hp=>?_))
 ·unfold gA at hj;split at hj <;> cases hj;rfl
 ·unfold gA at hj;split at hj
  ·cases hj
  ·omega
 ·by_cases hj:j<h'.length
  ·obtain ⟨hb,g1,g2⟩:=hC.get j hj
   exact .inl ⟨hb,hb,by simp [gA,hj],oZ.2 (by rw [List.getElem?_append_left hj];exact g1),oZ.2 g1,g2.rn⟩
  ·refine .inr ⟨?_,.inl (by simp [gA,hj])⟩
   unfold aB
   rw [List.getElem?_eq_none (by omega)]
 ·rcases he.get p hp with h | ⟨h1,h2⟩
  ·rw [h];exact .dead _
  ·rw [h1];exact h2.rn
structure ji (P:Program) (n:Nat) (t:TypeId) (rs:List RV):Prop where
 ty:kI P n t rs
theorem Iu {P:Program} {f g:TypeId→List RV→Prop} (h:∀ t rs,f t rs→g t rs):∀ {fs:List Field} {rs:List RV},uC P f fs rs→uC P g fs rs
 | [],_,hf=>hf
 | _::_,_,⟨a,b,e,h1,h2⟩=>⟨a,b,e,h _ _ h1,Iu h h2⟩
theorem Is {P:Program} {n:Nat} {t:TypeId} {k:IntKind} {rs:List RV} (hu:P.underlying t=some (.int k)) (h:ji P (n+1) t rs):∃ i,rs=[.int k i]∧(Lit.int k i).wf=true:=by
 have h:=h.ty;unfold kI at h;simp only [hu] at h;exact h
theorem UW {P:Program} {n:Nat} {t:TypeId} {rs:List RV} (hu:P.underlying t=some .bool) (h:ji P (n+1) t rs):∃ b,rs=[.bool b]:=by
 have h:=h.ty;unfold kI at h;simp only [hu] at h;exact h
theorem UX {P:Program} {n:Nat} {t e:TypeId} {rs:List RV} (hu:P.underlying t=some (.slice e)) (h:ji P (n+1) t rs):∃ xs,rs=[.sl (P.cellsOf e) xs]∧xs.length≤maxLen∧∀ x∈xs,ji P n e x:=by
 have h:=h.ty;unfold kI at h;simp only [hu] at h
 obtain ⟨xs,h1,h2,h3⟩:=h
 exact ⟨xs,h1,h2,fun x hx=>⟨h3 x hx⟩⟩
theorem zC {P:Program} {n:Nat} {t:TypeId} {fs:Array Field} {rs:List RV} (hu:P.underlying t=some (.struct fs)) (h:ji P (n+1) t rs):uC P (ji P n) fs.toList rs:=by
 have h:=h.ty;unfold kI at h;simp only [hu] at h
 exact Iu (fun _ _ h=>⟨h⟩) h
theorem Ir {P:Program} {n m:Nat} {t e:TypeId} {rs:List RV} (hu:P.underlying t=some (.array m e)) (h:ji P (n+1) t rs):∃ xs:List (List RV),rs=xs.flatten∧xs.length=m∧∀ x∈xs,ji P n e x:=by
 have h:=h.ty;unfold kI at h;simp only [hu] at h
 obtain ⟨xs,h1,h2,h3⟩:=h
 exact ⟨xs,h1,h2,fun x hx=>⟨h3 x hx⟩⟩
theorem wB {P:Program} {H:Type} {enc:TypeId×Value→H} {w:World} {r:Reach} {b0 n:Nat} {t:TypeId} {v:Value} {d:DataW H} {ps:List MemPlace} (hf:nV P n t=true) (hval:Value.okWide P w r b0 t v) (hd:DataW.Trod enc P w 0 (fun _=>true) true t v d ps) :
 ∃ rs,ji P n t rs∧∀ (ok:Nat→Prop) (aa:Nat→Option Nat) (hp:Hp),(∀ b,b<w.heap.size→ok b)→Rp w ok aa hp (mZ P t rs) v:=by
 obtain ⟨rs,h1,h2⟩:=RU hf hval hd ⟨w,fun _=>True,fun _=>True,0,fun _=>.none,fun _=>.none⟩ (fun _=>.none)
 exact ⟨rs,⟨h1⟩,h2⟩
theorem xo {P:Program} {t:TypeId} {r:RV} (h:fA P t=some false):mZ P t [r] = .rv r:=by
 unfold mZ;rw [h];rfl
theorem JS {P:Program} {t:TypeId} {rs:List RV} (h:fA P t=some true):mZ P t rs = .agg (rs.map .rv):=by
 unfold mZ;rw [h]
theorem Sm {hp:Hp} {a:Nat} {hb:HB} (h:hp a=some hb):aU hp [(a,hb)]:=fun q hq=>by simp at hq;subst hq;exact h
end Go.aJ

namespace Go.aJ
open Go
attribute [go_sem] LF LP LL LM LO Ly LC LA LN LD Mh Me Mi Mf Md Mg LG LB LH LK LI LJ zU yL BZ sM zV yM Ca sO bX o1 o2 mQ ia rz xB xj xC xD fits nW oz oy yP yO yd oA vZ mV qz xJ xm xw xy xx zR ta rm qt xk wk kR yI kP yN qj uZ xZ yZ yX xU yS yU yT yc qT vR vS tT rY yb ya uR xK zu ri ov uA wJ lX nh vW nB lk iz iy fZ wN aR lS iY nH CF List.map_cons List.map_nil List.length_cons List.length_nil List.length_append List.length_map List.length_set List.set_cons_zero List.set_cons_succ List.cons_append List.nil_append List.append_nil List.getElem?_cons_zero List.getElem?_cons_succ List.getElem?_nil List.take_succ_cons List.take_zero List.drop_succ_cons List.drop_zero List.drop_nil List.take_nil Option.getD_some Option.getD_none Option.map_some Option.map_none true_and and_true Nat.zero_add Nat.add_zero decide_eq_true_eq Bool.false_eq_true av SN Cn SO Hu Int.toNat_natCast Ke Kd Kc Kb Bool.not_true Bool.not_false UI rq qD chunks Kq Kp LU LS LR LQ Ma LZ LY LX LV Mb Sh Sg
attribute [go_sem_proc] Nat.reduceEqDiff Nat.reduceAdd Nat.reduceSub Nat.reduceMul Nat.reduceLeDiff Nat.reduceLT reduceCtorEq Int.reduceToNat
attribute [go_sem_proc ↓] reduceIte
theorem QV (n:Nat):Int.ofNat (no_index (OfNat.ofNat n))=OfNat.ofNat n:=rfl
attribute [go_sem] QV
theorem ke:IntKind.i64.wrap (0+1)=1:=by decide
theorem kf:IntKind.i64.wrap (1+1)=2:=by decide
theorem kg:IntKind.i64.wrap (2+1)=3:=by decide
theorem ki:IntKind.i64.wrap (3+1)=4:=by decide
theorem kj:IntKind.i64.wrap (4+1)=5:=by decide
theorem kk:IntKind.i64.wrap (5+1)=6:=by decide
theorem jR (n:Nat):((no_index (OfNat.ofNat n):Nat):Int)=OfNat.ofNat n:=rfl
def fc (P:Program) (f:FuncId) (N:Nat) (rs:List RR):AC:=(ye P f N rs).getD .skip
theorem bn {P:Program} {f:FuncId} {N:Nat} {rs:List RR} (h:(ye P f N rs).isSome=true):aT P f N (fc P f N rs) rs:=by
 obtain ⟨c,hc⟩:=Option.isSome_iff_exists.1 h
 unfold fc;rw [hc];exact AB hc
end Go.aJ

namespace Go.aJ
open Go
structure Ln where
 kind:Int
 n:Int
 deriving DecidableEq,Inhabited
structure Q4 (α:Type) where
 a:α
 b:α
 c:α
 d:α
 deriving DecidableEq,Inhabited
structure aC where
 shown:Bool
 position:Int
 off:Q4 Ln
 width:Ln
 height:Ln
 jo:Ln
 jm:Ln
 jK:Ln
 jJ:Ln
 bB:Q4 Ln
 pad:Q4 Ln
 bw:Q4 Int
 bH:Bool
 ym:Bool
 z:Int
 clip:Bool
 back:Int
 line:Int
 deriving DecidableEq,Inhabited
structure Nd where
 s:aC
 parent:Int
 deriving DecidableEq,Inhabited
def Ln.cells (x:Ln):List RV:=[.int .i64 x.kind,.int .i64 x.n]
def Q4.pI (q:Q4 Ln):List RV:=[.int .i64 q.a.kind,.int .i64 q.a.n,.int .i64 q.b.kind,.int .i64 q.b.n,.int .i64 q.c.kind,.int .i64 q.c.n,.int .i64 q.d.kind,.int .i64 q.d.n]
def Q4.ints (q:Q4 Int):List RV:=[.int .i64 q.a,.int .i64 q.b,.int .i64 q.c,.int .i64 q.d]
def aC.cells (s:aC):List RV:=[.bool s.shown,.int .i64 s.position,
 .int .i64 s.off.a.kind,.int .i64 s.off.a.n,.int .i64 s.off.b.kind,.int .i64 s.off.b.n,.int .i64 s.off.c.kind,.int .i64 s.off.c.n,.int .i64 s.off.d.kind,.int .i64 s.off.d.n,
 .int .i64 s.width.kind,.int .i64 s.width.n,.int .i64 s.height.kind,.int .i64 s.height.n,.int .i64 s.jo.kind,.int .i64 s.jo.n,.int .i64 s.jm.kind,.int .i64 s.jm.n,.int .i64 s.jK.kind,.int .i64 s.jK.n,.int .i64 s.jJ.kind,.int .i64 s.jJ.n,
 .int .i64 s.bB.a.kind,.int .i64 s.bB.a.n,.int .i64 s.bB.b.kind,.int .i64 s.bB.b.n,.int .i64 s.bB.c.kind,.int .i64 s.bB.c.n,.int .i64 s.bB.d.kind,.int .i64 s.bB.d.n,
 .int .i64 s.pad.a.kind,.int .i64 s.pad.a.n,.int .i64 s.pad.b.kind,.int .i64 s.pad.b.n,.int .i64 s.pad.c.kind,.int .i64 s.pad.c.n,.int .i64 s.pad.d.kind,.int .i64 s.pad.d.n,
 .int .i64 s.bw.a,.int .i64 s.bw.b,.int .i64 s.bw.c,.int .i64 s.bw.d,
 .bool s.bH,.bool s.ym,.int .i64 s.z,.bool s.clip,.int .i64 s.back,.int .i64 s.line]
abbrev aC.sv (s:aC):SV:=.agg (s.cells.map .rv)
abbrev Ln.sv (x:Ln):SV:=.agg (x.cells.map .rv)
def Nd.cells (x:Nd):List RV:=x.s.cells++[.int .i64 x.parent]
abbrev Nd.sv (x:Nd):SV:=.agg (x.cells.map .rv)
def bu (l:List Nd):List (List RV):=l.map Nd.cells
def nD {α:Type} (q:Q4 α):Nat→α
 | 0=>q.a
 | 1=>q.b
 | 2=>q.c
 | _=>q.d
def Q4.list {α:Type} (q:Q4 α):List α:=[q.a,q.b,q.c,q.d]
def fP (s:aC):List Ln:=s.off.list++[s.width,s.height,s.jo,s.jm,s.jK,s.jJ]++s.bB.list++s.pad.list
theorem au (s:aC):(fP s).length=18:=rfl
def lN (l:List Ln):List (List RV):=l.map Ln.cells
def oB (x:Ln):Bool:=(decide (x.kind=0) && decide (x.n=0)) || decide (x.kind=1) || decide (x.kind=2)
def lO (p:Ln) (b:Int):Bool:=!(decide (p.kind=0) || decide (p.n<0) || decide (b<0))
def sS (s:aC):Bool:=decide (s.position≥0) && decide (s.position≤3) && decide (s.back≥0) && decide (s.line≥0) && (s.ym || decide (s.z=0))
def jh (s:aC):Bool:=(fP s).all oB && ([s.width,s.height,s.jo,s.jm,s.jK,s.jJ].all fun x=>decide (0≤x.n)) &&
 (lO s.pad.a s.bw.a && lO s.pad.b s.bw.b && lO s.pad.c s.bw.c && lO s.pad.d s.bw.d) && sS s
def qQ (n most:Int):Bool:=decide (-most≤n) && decide (n≤most)
def pH (x:Ln):Bool:=!((decide (x.kind=1) && !qQ x.n 1099511627776) || (decide (x.kind=2) && !qQ x.n 1000000))
def kU (s:aC):Bool:=(fP s).all pH && (s.bw.list.all fun n=>decide (n≤1099511627776)) && (qQ s.z 1073741824 && decide (s.back≤16777216) && decide (s.line≤16777216))
theorem af (s:aC):s.cells.length=48:=rfl
theorem ak (x:Nd):x.cells.length=49:=rfl
theorem an (l:List Nd):(bu l).length=l.length:=by simp [bu]
theorem jf {l:List Nd} {i:Nat} (h:i<l.length):(bu l)[i]?.getD []=(l[i]'h).cells:=by simp [bu,h]
theorem ax (l:List Ln):(lN l).length=l.length:=by simp [lN]
theorem BM {l:List Ln} {i:Nat} (h:i<l.length):(lN l)[i]?.getD []=(l[i]'h).cells:=by simp [lN,h]
theorem cA (s:aC):(s.cells.map SV.rv)[0]?=some (.rv (.bool s.shown)):=rfl
theorem dV (s:aC):(s.cells.drop 0)[0]?=some (.bool s.shown):=rfl
theorem cB (s:aC):(s.cells.map SV.rv)[1]?=some (.rv (.int .i64 s.position)):=rfl
theorem dW (s:aC):(s.cells.drop 1)[0]?=some (.int .i64 s.position):=rfl
theorem cM (s:aC):(s.cells.map SV.rv)[2]?=some (.rv (.int .i64 s.off.a.kind)):=rfl
theorem ew (s:aC):(s.cells.drop 2)[0]?=some (.int .i64 s.off.a.kind):=rfl
theorem cX (s:aC):(s.cells.map SV.rv)[3]?=some (.rv (.int .i64 s.off.a.n)):=rfl
theorem eJ (s:aC):(s.cells.drop 3)[0]?=some (.int .i64 s.off.a.n):=rfl
theorem dr (s:aC):(s.cells.map SV.rv)[4]?=some (.rv (.int .i64 s.off.b.kind)):=rfl
theorem eV (s:aC):(s.cells.drop 4)[0]?=some (.int .i64 s.off.b.kind):=rfl
theorem dF (s:aC):(s.cells.map SV.rv)[5]?=some (.rv (.int .i64 s.off.b.n)):=rfl
theorem fk (s:aC):(s.cells.drop 5)[0]?=some (.int .i64 s.off.b.n):=rfl
theorem dG (s:aC):(s.cells.map SV.rv)[6]?=some (.rv (.int .i64 s.off.c.kind)):=rfl
theorem fm (s:aC):(s.cells.drop 6)[0]?=some (.int .i64 s.off.c.kind):=rfl
theorem dH (s:aC):(s.cells.map SV.rv)[7]?=some (.rv (.int .i64 s.off.c.n)):=rfl
theorem fo (s:aC):(s.cells.drop 7)[0]?=some (.int .i64 s.off.c.n):=rfl
theorem dI (s:aC):(s.cells.map SV.rv)[8]?=some (.rv (.int .i64 s.off.d.kind)):=rfl
theorem fq (s:aC):(s.cells.drop 8)[0]?=some (.int .i64 s.off.d.kind):=rfl
theorem dJ (s:aC):(s.cells.map SV.rv)[9]?=some (.rv (.int .i64 s.off.d.n)):=rfl
theorem fu (s:aC):(s.cells.drop 9)[0]?=some (.int .i64 s.off.d.n):=rfl
theorem cC (s:aC):(s.cells.map SV.rv)[10]?=some (.rv (.int .i64 s.width.kind)):=rfl
theorem dX (s:aC):(s.cells.drop 10)[0]?=some (.int .i64 s.width.kind):=rfl
theorem cD (s:aC):(s.cells.map SV.rv)[11]?=some (.rv (.int .i64 s.width.n)):=rfl
theorem dY (s:aC):(s.cells.drop 11)[0]?=some (.int .i64 s.width.n):=rfl
theorem cE (s:aC):(s.cells.map SV.rv)[12]?=some (.rv (.int .i64 s.height.kind)):=rfl
theorem dZ (s:aC):(s.cells.drop 12)[0]?=some (.int .i64 s.height.kind):=rfl
theorem cF (s:aC):(s.cells.map SV.rv)[13]?=some (.rv (.int .i64 s.height.n)):=rfl
theorem ec (s:aC):(s.cells.drop 13)[0]?=some (.int .i64 s.height.n):=rfl
theorem cG (s:aC):(s.cells.map SV.rv)[14]?=some (.rv (.int .i64 s.jo.kind)):=rfl
theorem ee (s:aC):(s.cells.drop 14)[0]?=some (.int .i64 s.jo.kind):=rfl
theorem cH (s:aC):(s.cells.map SV.rv)[15]?=some (.rv (.int .i64 s.jo.n)):=rfl
theorem eg (s:aC):(s.cells.drop 15)[0]?=some (.int .i64 s.jo.n):=rfl
theorem cI (s:aC):(s.cells.map SV.rv)[16]?=some (.rv (.int .i64 s.jm.kind)):=rfl
theorem ek (s:aC):(s.cells.drop 16)[0]?=some (.int .i64 s.jm.kind):=rfl
theorem cJ (s:aC):(s.cells.map SV.rv)[17]?=some (.rv (.int .i64 s.jm.n)):=rfl
theorem ep (s:aC):(s.cells.drop 17)[0]?=some (.int .i64 s.jm.n):=rfl
theorem cK (s:aC):(s.cells.map SV.rv)[18]?=some (.rv (.int .i64 s.jK.kind)):=rfl
theorem er (s:aC):(s.cells.drop 18)[0]?=some (.int .i64 s.jK.kind):=rfl
theorem cL (s:aC):(s.cells.map SV.rv)[19]?=some (.rv (.int .i64 s.jK.n)):=rfl
theorem eu (s:aC):(s.cells.drop 19)[0]?=some (.int .i64 s.jK.n):=rfl
theorem cN (s:aC):(s.cells.map SV.rv)[20]?=some (.rv (.int .i64 s.jJ.kind)):=rfl
theorem ey (s:aC):(s.cells.drop 20)[0]?=some (.int .i64 s.jJ.kind):=rfl
theorem cO (s:aC):(s.cells.map SV.rv)[21]?=some (.rv (.int .i64 s.jJ.n)):=rfl
theorem ez (s:aC):(s.cells.drop 21)[0]?=some (.int .i64 s.jJ.n):=rfl
theorem cP (s:aC):(s.cells.map SV.rv)[22]?=some (.rv (.int .i64 s.bB.a.kind)):=rfl
theorem eA (s:aC):(s.cells.drop 22)[0]?=some (.int .i64 s.bB.a.kind):=rfl
theorem cQ (s:aC):(s.cells.map SV.rv)[23]?=some (.rv (.int .i64 s.bB.a.n)):=rfl
theorem eC (s:aC):(s.cells.drop 23)[0]?=some (.int .i64 s.bB.a.n):=rfl
theorem cR (s:aC):(s.cells.map SV.rv)[24]?=some (.rv (.int .i64 s.bB.b.kind)):=rfl
theorem eD (s:aC):(s.cells.drop 24)[0]?=some (.int .i64 s.bB.b.kind):=rfl
theorem cS (s:aC):(s.cells.map SV.rv)[25]?=some (.rv (.int .i64 s.bB.b.n)):=rfl
theorem eE (s:aC):(s.cells.drop 25)[0]?=some (.int .i64 s.bB.b.n):=rfl
theorem cT (s:aC):(s.cells.map SV.rv)[26]?=some (.rv (.int .i64 s.bB.c.kind)):=rfl
theorem eF (s:aC):(s.cells.drop 26)[0]?=some (.int .i64 s.bB.c.kind):=rfl
theorem cU (s:aC):(s.cells.map SV.rv)[27]?=some (.rv (.int .i64 s.bB.c.n)):=rfl
theorem eG (s:aC):(s.cells.drop 27)[0]?=some (.int .i64 s.bB.c.n):=rfl
theorem cV (s:aC):(s.cells.map SV.rv)[28]?=some (.rv (.int .i64 s.bB.d.kind)):=rfl
theorem eH (s:aC):(s.cells.drop 28)[0]?=some (.int .i64 s.bB.d.kind):=rfl
theorem cW (s:aC):(s.cells.map SV.rv)[29]?=some (.rv (.int .i64 s.bB.d.n)):=rfl
theorem eI (s:aC):(s.cells.drop 29)[0]?=some (.int .i64 s.bB.d.n):=rfl
theorem cY (s:aC):(s.cells.map SV.rv)[30]?=some (.rv (.int .i64 s.pad.a.kind)):=rfl
theorem eK (s:aC):(s.cells.drop 30)[0]?=some (.int .i64 s.pad.a.kind):=rfl
theorem cZ (s:aC):(s.cells.map SV.rv)[31]?=some (.rv (.int .i64 s.pad.a.n)):=rfl
theorem eL (s:aC):(s.cells.drop 31)[0]?=some (.int .i64 s.pad.a.n):=rfl
theorem dc (s:aC):(s.cells.map SV.rv)[32]?=some (.rv (.int .i64 s.pad.b.kind)):=rfl
theorem eM (s:aC):(s.cells.drop 32)[0]?=some (.int .i64 s.pad.b.kind):=rfl
theorem de (s:aC):(s.cells.map SV.rv)[33]?=some (.rv (.int .i64 s.pad.b.n)):=rfl
theorem eN (s:aC):(s.cells.drop 33)[0]?=some (.int .i64 s.pad.b.n):=rfl
theorem dg (s:aC):(s.cells.map SV.rv)[34]?=some (.rv (.int .i64 s.pad.c.kind)):=rfl
theorem eO (s:aC):(s.cells.drop 34)[0]?=some (.int .i64 s.pad.c.kind):=rfl
theorem dh (s:aC):(s.cells.map SV.rv)[35]?=some (.rv (.int .i64 s.pad.c.n)):=rfl
theorem eP (s:aC):(s.cells.drop 35)[0]?=some (.int .i64 s.pad.c.n):=rfl
theorem di (s:aC):(s.cells.map SV.rv)[36]?=some (.rv (.int .i64 s.pad.d.kind)):=rfl
theorem eR (s:aC):(s.cells.drop 36)[0]?=some (.int .i64 s.pad.d.kind):=rfl
theorem dj (s:aC):(s.cells.map SV.rv)[37]?=some (.rv (.int .i64 s.pad.d.n)):=rfl
theorem eS (s:aC):(s.cells.drop 37)[0]?=some (.int .i64 s.pad.d.n):=rfl
theorem dm (s:aC):(s.cells.map SV.rv)[38]?=some (.rv (.int .i64 s.bw.a)):=rfl
theorem eT (s:aC):(s.cells.drop 38)[0]?=some (.int .i64 s.bw.a):=rfl
theorem dn (s:aC):(s.cells.map SV.rv)[39]?=some (.rv (.int .i64 s.bw.b)):=rfl
theorem eU (s:aC):(s.cells.drop 39)[0]?=some (.int .i64 s.bw.b):=rfl
theorem dw (s:aC):(s.cells.map SV.rv)[40]?=some (.rv (.int .i64 s.bw.c)):=rfl
theorem eW (s:aC):(s.cells.drop 40)[0]?=some (.int .i64 s.bw.c):=rfl
theorem dx (s:aC):(s.cells.map SV.rv)[41]?=some (.rv (.int .i64 s.bw.d)):=rfl
theorem eX (s:aC):(s.cells.drop 41)[0]?=some (.int .i64 s.bw.d):=rfl
theorem cw (s:aC):(s.cells.map SV.rv)[42]?=some (.rv (.bool s.bH)):=rfl
theorem eY (s:aC):(s.cells.drop 42)[0]?=some (.bool s.bH):=rfl
theorem dy (s:aC):(s.cells.map SV.rv)[43]?=some (.rv (.bool s.ym)):=rfl
theorem eZ (s:aC):(s.cells.drop 43)[0]?=some (.bool s.ym):=rfl
theorem dz (s:aC):(s.cells.map SV.rv)[44]?=some (.rv (.int .i64 s.z)):=rfl
theorem fe (s:aC):(s.cells.drop 44)[0]?=some (.int .i64 s.z):=rfl
theorem dA (s:aC):(s.cells.map SV.rv)[45]?=some (.rv (.bool s.clip)):=rfl
theorem ff (s:aC):(s.cells.drop 45)[0]?=some (.bool s.clip):=rfl
theorem dB (s:aC):(s.cells.map SV.rv)[46]?=some (.rv (.int .i64 s.back)):=rfl
theorem fh (s:aC):(s.cells.drop 46)[0]?=some (.int .i64 s.back):=rfl
theorem dD (s:aC):(s.cells.map SV.rv)[47]?=some (.rv (.int .i64 s.line)):=rfl
theorem fj (s:aC):(s.cells.drop 47)[0]?=some (.int .i64 s.line):=rfl
theorem dK (s:aC):((s.cells.map SV.rv).drop 10).take 2=s.width.cells.map SV.rv:=rfl
theorem dL (s:aC):((s.cells.map SV.rv).drop 12).take 2=s.height.cells.map SV.rv:=rfl
theorem dM (s:aC):((s.cells.map SV.rv).drop 14).take 2=s.jo.cells.map SV.rv:=rfl
theorem dN (s:aC):((s.cells.map SV.rv).drop 16).take 2=s.jm.cells.map SV.rv:=rfl
theorem dO (s:aC):((s.cells.map SV.rv).drop 18).take 2=s.jK.cells.map SV.rv:=rfl
theorem dQ (s:aC):((s.cells.map SV.rv).drop 20).take 2=s.jJ.cells.map SV.rv:=rfl
theorem dP (s:aC):((s.cells.map SV.rv).drop 2).take 8=s.off.pI.map SV.rv:=rfl
theorem dR (s:aC):((s.cells.map SV.rv).drop 22).take 8=s.bB.pI.map SV.rv:=rfl
theorem dS (s:aC):((s.cells.map SV.rv).drop 30).take 8=s.pad.pI.map SV.rv:=rfl
theorem dU (s:aC):((s.cells.map SV.rv).drop 38).take 4=s.bw.ints.map SV.rv:=rfl
theorem cv (s:aC):(s.cells.map SV.rv).take 48=s.cells.map SV.rv:=rfl
theorem cz (s:aC):((s.cells.map SV.rv).drop 0).take 48=s.cells.map SV.rv:=rfl
theorem oS {α:Type} {p:α→Bool} {l:List α} {k:Nat} (h:k<l.length) (hk:(l.drop k).all p=l.all p) (hp:p (l[k]'h)=true):(l.drop (k+1)).all p=l.all p:=by
 rw [← hk,List.drop_eq_getElem_cons h,List.all_cons,hp,Bool.true_and]
theorem oR {α:Type} {p:α→Bool} {l:List α} {k:Nat} (h:k<l.length) (hk:(l.drop k).all p=l.all p) (hp:p (l[k]'h)=false):l.all p=false:=by
 rw [← hk,List.drop_eq_getElem_cons h,List.all_cons,hp,Bool.false_and]
theorem oQ {α:Type} {p:α→Bool} {l:List α} {k:Nat} (h:l.length≤k) (hk:(l.drop k).all p=l.all p):l.all p=true:=by
 rw [← hk,List.drop_of_length_le h];rfl
theorem Gt (x:Nd):x.cells.take 48=x.s.cells:=rfl
theorem tZ (x:Nd):(x.cells.map SV.rv)[48]?=some (.rv (.int .i64 x.parent)):=rfl
theorem qm (x:Nd):x.cells.take 49=x.cells:=rfl
theorem UP (s:aC):∀ r∈s.cells,r.one=true:=by
 intro r hr
 simp -implicitDefEqProofs only [aC.cells,List.mem_cons,List.not_mem_nil,or_false] at hr
 repeat' rcases hr with rfl | hr
 all_goals first | rfl | (subst hr;rfl)
theorem Rv (x:Nd):∀ r∈x.cells,r.one=true:=by
 intro r hr
 rcases List.mem_append.1 hr with hr | hr
 ·exact UP _ r hr
 ·simp at hr;rw [hr];rfl
theorem yW (l:List Nd):∀ x∈bu l,∀ r∈x,r.one=true:=by
 intro x hx
 obtain ⟨n,_,rfl⟩:=List.mem_map.1 hx
 exact Rv n
def aL (ys:List Int):List (List RV):=ys.map fun n=>[.int .i64 n]
theorem aj (l:List Int):(aL l).length=l.length:=by simp [aL]
theorem ow {l:List Int} {i:Nat} (h:i<l.length):(aL l)[i]?.getD []=[.int .i64 (l[i]'h)]:=by simp [aL,h]
theorem kF (l:List Int):∀ x∈aL l,∀ r∈x,r.one=true:=by
 intro x hx r hr
 obtain ⟨n,_,rfl⟩:=List.mem_map.1 hx
 simp at hr;rw [hr];rfl
theorem kQ {l:List Int} {i:Nat} (h:i<l.length):(aL l)[i]?.getD []=[.int .i64 (l.getD i 0)]:=by simp [aL,h]
theorem mT {ys:List Int} {k:Nat} {v:Int}:(aN (aL ys)).set k [.rv (.int .i64 v)]=aN (aL (ys.set k v)):=by simp [aN,aL,List.map_set]
theorem zp {n:Nat}:List.replicate n [SV.rv (.int .i64 0)]=aN (aL (List.replicate n 0)):=by simp [aN,aL]
theorem mw {ys:List Int} {v:Int}:aN (aL ys)++[[.rv (.int .i64 v)]]=aN (aL (ys++[v])):=by simp [aN,aL]
theorem fy {k:Nat} (h:k<4611686018427387904):IntKind.i64.wrap ((k:Int)+1)=((k+1:Nat):Int):=by
 rw [wrap_i64 (by omega) (by omega)];omega
theorem uF {k:Nat} (h:0<k) (h2:k<4611686018427387904):IntKind.i64.wrap ((k:Int) - 1)=((k - 1:Nat):Int):=by
 rw [wrap_i64 (by omega) (by omega)];omega
end Go.aJ

namespace Go.aJ
open Go Go.Proofs
theorem zD {n:Nat} {rs:List RV} (h:ji Go.Proofs.Tryz.prog (n+1) 3 rs):∃ i,rs=[.int .i64 i]:=by
 obtain ⟨i,h,_⟩:=Is Tryz.underlying3 h
 exact ⟨i,h⟩
theorem pM {n:Nat} {rs:List RV} (h:ji Go.Proofs.Tryz.prog (n+1) 2 rs):∃ i,rs=[.int .i64 i]:=by
 obtain ⟨i,h,_⟩:=Is Tryz.underlying2 h
 exact ⟨i,h⟩
theorem uB {n:Nat} {rs:List RV} (h:ji Go.Proofs.Tryz.prog (n+1) 4 rs):∃ b,rs=[.bool b]:=by
 exact UW Tryz.underlying4 h
theorem pN {n:Nat} {rs:List RV} (h:ji Go.Proofs.Tryz.prog (n+2) 67 rs):∃ x:Ln,rs=x.cells:=by
 have h:=zC Tryz.underlying67 h
 obtain ⟨_,_,rfl,h1,_,_,rfl,h2,rfl⟩:=h
 obtain ⟨i,rfl⟩:=zD h1
 obtain ⟨j,rfl⟩:=pM h2
 exact ⟨⟨i,j⟩,rfl⟩
theorem FZ {α:Type} {xs:List α} (h:xs.length=4):∃ a b c d,xs=[a,b,c,d]:=by
 match xs,h with
 | [a,b,c,d],_=>exact ⟨a,b,c,d,rfl⟩
theorem CE {n:Nat} {rs:List RV} (h:ji Go.Proofs.Tryz.prog (n+3) 68 rs):∃ q:Q4 Ln,rs=q.pI:=by
 obtain ⟨xs,rfl,hl,hx⟩:=Ir Tryz.underlying68 h
 obtain ⟨a,b,c,d,rfl⟩:=FZ hl
 obtain ⟨a,rfl⟩:=pN (hx a (by simp))
 obtain ⟨b,rfl⟩:=pN (hx b (by simp))
 obtain ⟨c,rfl⟩:=pN (hx c (by simp))
 obtain ⟨d,rfl⟩:=pN (hx d (by simp))
 exact ⟨⟨a,b,c,d⟩,rfl⟩
theorem UU {n:Nat} {rs:List RV} (h:ji Go.Proofs.Tryz.prog (n+2) 31 rs):∃ q:Q4 Int,rs=q.ints:=by
 obtain ⟨xs,rfl,hl,hx⟩:=Ir Tryz.underlying31 h
 obtain ⟨a,b,c,d,rfl⟩:=FZ hl
 obtain ⟨a,rfl⟩:=pM (hx a (by simp))
 obtain ⟨b,rfl⟩:=pM (hx b (by simp))
 obtain ⟨c,rfl⟩:=pM (hx c (by simp))
 obtain ⟨d,rfl⟩:=pM (hx d (by simp))
 exact ⟨⟨a,b,c,d⟩,rfl⟩
theorem UZ {n:Nat} {rs:List RV} (h:ji Go.Proofs.Tryz.prog (n+4) 70 rs):∃ s:aC,rs=s.cells:=by
 have h:=zC Tryz.underlying70 h
 obtain ⟨_,_,rfl,h1,_,_,rfl,h2,_,_,rfl,h3,_,_,rfl,h4,_,_,rfl,h5,_,_,rfl,h6,_,_,rfl,h7,_,_,rfl,h8,_,_,rfl,h9,_,_,rfl,Mn,_,_,rfl,Mo,_,_,rfl,h12,_,_,rfl,Mp,_,_,rfl,Mq,_,_,rfl,Mr,_,_,rfl,Ms,_,_,rfl,Mt,_,_,rfl,Mu,rfl⟩:=h
 obtain ⟨b1,rfl⟩:=uB h1
 obtain ⟨i2,rfl⟩:=zD h2
 obtain ⟨q3,rfl⟩:=CE h3
 obtain ⟨x4,rfl⟩:=pN h4
 obtain ⟨x5,rfl⟩:=pN h5
 obtain ⟨x6,rfl⟩:=pN h6
 obtain ⟨x7,rfl⟩:=pN h7
 obtain ⟨x8,rfl⟩:=pN h8
 obtain ⟨x9,rfl⟩:=pN h9
 obtain ⟨So,rfl⟩:=CE Mn
 obtain ⟨Sp,rfl⟩:=CE Mo
 obtain ⟨Sq,rfl⟩:=UU h12
 obtain ⟨JV,rfl⟩:=uB Mp
 obtain ⟨JW,rfl⟩:=uB Mq
 obtain ⟨i15,rfl⟩:=pM Mr
 obtain ⟨JX,rfl⟩:=uB Ms
 obtain ⟨i17,rfl⟩:=pM Mt
 obtain ⟨i18,rfl⟩:=pM Mu
 exact ⟨⟨b1,i2,q3,x4,x5,x6,x7,x8,x9,So,Sp,Sq,JV,JW,i15,JX,i17,i18⟩,rfl⟩
theorem UY {n:Nat} {rs:List RV} (h:ji Go.Proofs.Tryz.prog (n+5) 72 rs):∃ x:Nd,rs=x.cells:=by
 have h:=zC Tryz.underlying72 h
 obtain ⟨_,_,rfl,h1,_,_,rfl,h2,rfl⟩:=h
 obtain ⟨s,rfl⟩:=UZ h1
 obtain ⟨i,rfl⟩:=zD h2
 exact ⟨⟨s,i⟩,rfl⟩
theorem Ga {α:Type} {f:α→List RV}:∀ {xs:List (List RV)},(∀ x∈xs,∃ a,x=f a)→∃ l:List α,xs=l.map f
 | [],_=>⟨[],rfl⟩
 | x::xs,h=>by
   obtain ⟨a,rfl⟩:=h x (by simp)
   obtain ⟨l,rfl⟩:=Ga (xs:=xs) fun y hy=>h y (by simp [hy])
   exact ⟨a::l,rfl⟩
theorem Ks:Program.cellsOf Go.Proofs.Tryz.prog 72=49:=by kernel_rfl
theorem JH:fA Go.Proofs.Tryz.prog 22=some false:=by kernel_rfl
theorem JF:fA Go.Proofs.Tryz.prog 3=some false:=by kernel_rfl
theorem RQ {rs:List RV} (h:ji Go.Proofs.Tryz.prog 6 22 rs):∃ l:List Nd,mZ Go.Proofs.Tryz.prog 22 rs = .rv (.sl 49 (bu l)):=by
 obtain ⟨xs,rfl,_,hx⟩:=UX Tryz.underlying22 h
 obtain ⟨l,rfl⟩:=Ga fun x hx'=>UY (hx x hx')
 refine ⟨l,?_⟩
 rw [xo JH,Ks];rfl
theorem RN {rs:List RV} (h:ji Go.Proofs.Tryz.prog 1 3 rs):∃ i:Int,mZ Go.Proofs.Tryz.prog 3 rs = .rv (.int .i64 i):=by
 obtain ⟨i,rfl⟩:=zD h
 exact ⟨i,xo JF⟩
end Go.aJ

namespace Go.aJ
open Go
def bD (l:List Nd) (n:Nat):Int:=(l.getD n default).parent
theorem mR {l:List Nd} {n:Nat} (h:n<l.length):(l[n]'h).parent=bD l n:=by simp [bD,h]
def WF (l:List Nd) (k:Nat):Prop:=bD l 0 = -1∧∀ j,0<j→j<k→0≤bD l j∧bD l j<j
theorem WF.mono {l:List Nd} {k m:Nat} (h:WF l k) (hm:m≤k):WF l m:=⟨h.1,fun j a b=>h.2 j a (by omega)⟩
def br (l:List Nd) (n:Nat):List Nat:=if h:0≤bD l n∧bD l n<n then n::br l (bD l n).toNat else [n]
termination_by n
decreasing_by omega
theorem qY {l:List Nd} {n:Nat} (h:0≤bD l n∧bD l n<n):br l n=n::br l (bD l n).toNat:=by
 rw [br,dif_pos h]
theorem uh {l:List Nd} {n:Nat} (h:¬ (0≤bD l n∧bD l n<n)):br l n=[n]:=by
 rw [br,dif_neg h]
theorem Cc {l:List Nd}:br l 0=[0]:=uh (by omega)
theorem GS {l:List Nd} {n:Nat}:∃ r,br l n=n::r:=by
 by_cases h:0≤bD l n∧bD l n<n
 ·exact ⟨_,qY h⟩
 ·exact ⟨_,uh h⟩
theorem ug {l:List Nd}:∀ n,(br l n).length≤n+1:=by
 intro n
 induction n using Nat.strongRecOn with
 | _ n ih=>
   by_cases h:0≤bD l n∧bD l n<n
   ·rw [qY h];have:=ih (bD l n).toNat (by omega);simp;omega
   ·rw [uh h];simp
theorem uf {l:List Nd}:∀ n x,x∈br l n→x≤n:=by
 intro n
 induction n using Nat.strongRecOn with
 | _ n ih=>
   intro x hx
   by_cases h:0≤bD l n∧bD l n<n
   ·rw [qY h] at hx
    rcases List.mem_cons.1 hx with rfl | hx
    ·omega
    ·have:=ih (bD l n).toNat (by omega) x hx;omega
   ·rw [uh h] at hx;simp at hx;omega
def kz (p:List Nat) (i:Nat):Int:=match p[i]? with
 | some x=>x
 | none=>-1
theorem uK {p:List Nat} {i:Nat} (h:i<p.length):kz p i=((p[i]'h:Nat):Int):=by simp [kz,h]
theorem JU {p:List Nat} {i:Nat} (h:p.length≤i):kz p i = -1:=by
 unfold kz;rw [List.getElem?_eq_none h]
theorem qA {p:List Nat} {i:Nat}:0≤kz p i↔i<p.length:=by
 by_cases h:i<p.length
 ·rw [uK h];simp [h]
 ·rw [JU (by omega)];simp;omega
theorem uL {l:List Nd} {n:Nat}:kz (br l n) 0=n:=by
 obtain ⟨r,h⟩:=GS (l:=l) (n:=n)
 simp [kz,h]
theorem zd {l:List Nd} {k:Nat} (hw:WF l k):∀ n,n<k→∀ i,(h:i<(br l n).length)→bD l ((br l n)[i]'h)=kz (br l n) (i+1):=by
 intro n
 induction n using Nat.strongRecOn with
 | _ n ih=>
   intro hn i hi
   by_cases h:0≤bD l n∧bD l n<n
   ·have hp:=qY h
    cases i with
    | zero=>
      simp -implicitDefEqProofs only [hp,List.getElem_cons_zero]
      rw [show kz (n::br l (bD l n).toNat) (0+1)=kz (br l (bD l n).toNat) 0 from by simp [kz],uL]
      omega
    | succ i=>
      simp -implicitDefEqProofs only [hp,List.length_cons] at hi
      have:=ih (bD l n).toNat (by omega) (by omega) i (by omega)
      simp -implicitDefEqProofs only [hp,List.getElem_cons_succ]
      rw [show kz (n::br l (bD l n).toNat) (i+1+1)=kz (br l (bD l n).toNat) (i+1) from by simp [kz]]
      exact this
   ·have hp:=uh h
    have h0:n=0:=by
     rcases Nat.eq_zero_or_pos n with h0 | h0
     ·exact h0
     ·exact absurd (hw.2 n h0 hn) h
    subst h0
    simp -implicitDefEqProofs only [hp,List.length_singleton] at hi
    obtain rfl:i=0:=by omega
    simp -implicitDefEqProofs only [hp,List.getElem_cons_zero]
    rw [hw.1];rfl
theorem zi {l:List Nd} {k n i:Nat} (hn:n<k) (h:i<(br l n).length):(br l n)[i]'h<k:=by
 have:=uf n _ (List.getElem_mem h);omega
theorem Sn {l:List Nd}:∀ n i,(h:i<(br l n).length)→(br l n).drop i=br l ((br l n)[i]'h):=by
 intro n
 induction n using Nat.strongRecOn with
 | _ n ih=>
   intro i hi
   by_cases h:0≤bD l n∧bD l n<n
   ·have hp:=qY h
    cases i with
    | zero=>simp [hp]
    | succ i=>
      simp -implicitDefEqProofs only [hp,List.length_cons] at hi
      simp -implicitDefEqProofs only [hp,List.drop_succ_cons,List.getElem_cons_succ]
      exact ih _ (by omega) i (by omega)
   ·have hp:=uh h
    simp -implicitDefEqProofs only [hp,List.length_singleton] at hi
    obtain rfl:i=0:=by omega
    simp [hp]
def mX (l:List Nd) (k:Nat):Option Nat:=(br l (k - 1)).findIdx? fun (j:Nat)=>decide ((j:Int)=bD l k)
def jz (l:List Nd) (k:Nat):Bool:=decide (k=0) || (mX l k).isSome
def kT (l:List Nd):Bool:=decide (0<l.length) && decide (bD l 0 = -1) && (List.range l.length).all (jz l)
def fU (l:List Nd):Bool:=kT l && l.all fun x=>jh x.s
theorem CG {l:List Nd} {k:Nat} (h:(mX l k).isSome=true):0≤bD l k∧bD l k≤((k - 1:Nat):Int)∧(bD l k).toNat∈br l (k - 1):=by
 obtain ⟨i,hi⟩:=Option.isSome_iff_exists.1 h
 unfold mX at hi
 rw [List.findIdx?_eq_some_iff_getElem] at hi
 obtain ⟨hlt,hp,_⟩:=hi
 simp at hp
 have h1:=List.getElem_mem hlt
 have h2:=uf _ _ h1
 refine ⟨by omega,by omega,?_⟩
 rw [← hp];simp
theorem Vc {l:List Nd} {k:Nat} (h0:0≤bD l k) (h:(bD l k).toNat∈br l (k - 1)):(mX l k).isSome=true:=by
 unfold mX
 rw [List.findIdx?_isSome,List.any_eq_true]
 exact ⟨_,h,by simp;omega⟩
theorem Va {l:List Nd} {k i:Nat} (h:i<(br l (k - 1)).length) (hp:(((br l (k - 1))[i]'h:Nat):Int)=bD l k) (hn:∀ j,(h:j<(br l (k - 1)).length)→j<i→(((br l (k - 1))[j]'h:Nat):Int)≠bD l k):mX l k=some i:=by
 unfold mX
 rw [List.findIdx?_eq_some_iff_getElem]
 exact ⟨h,by simpa using hp,fun j hj=>by simpa using hn j (by omega) hj⟩
theorem Vb {l:List Nd} {k:Nat} (hn:∀ j,(h:j<(br l (k - 1)).length)→(((br l (k - 1))[j]'h:Nat):Int)≠bD l k):mX l k=none:=by
 unfold mX
 rw [List.findIdx?_eq_none_iff]
 intro x hx
 obtain ⟨j,hj,rfl⟩:=List.getElem_of_mem hx
 simpa using hn j hj
theorem IE {l:List Nd} {k:Nat} (h0:bD l 0 = -1) (h:∀ j,j<k→jz l j=true):WF l k:=by
 refine ⟨h0,fun j hj hk=>?_⟩
 have:=h j hk
 simp [jz] at this
 rcases this with h | h
 ·omega
 ·have:=CG h;omega
structure iA (l:List Nd):Prop where
 pos:0<l.length
 root:bD l 0 = -1
 up:∀ j,0<j→j<l.length→0≤bD l j∧bD l j<j∧(bD l j).toNat∈br l (j - 1)
theorem iA.wf {l:List Nd} (h:iA l):WF l l.length:=⟨h.root,fun j a b=>⟨(h.up j a b).1,(h.up j a b).2.1⟩⟩
theorem wE {l:List Nd}:kT l=true↔iA l:=by
 simp -implicitDefEqProofs only [kT,Bool.and_eq_true,decide_eq_true_eq,List.all_eq_true,List.mem_range]
 constructor
 ·rintro ⟨⟨h1,h2⟩,h3⟩
  refine ⟨h1,h2,fun j hj hl=>?_⟩
  have:=h3 j hl
  simp [jz] at this
  rcases this with h | h
  ·omega
  ·obtain ⟨a,b,c⟩:=CG h
   exact ⟨a,by omega,c⟩
 ·intro h
  refine ⟨⟨h.pos,h.root⟩,fun j hj=>?_⟩
  rcases Nat.eq_zero_or_pos j with h0 | h0
  ·simp [jz,h0]
  ·obtain ⟨a,b,c⟩:=h.up j h0 hj
   simp [jz,Vc a c]
def depth (l:List Nd) (n:Nat):Nat:=(br l n).length
theorem Aj {l:List Nd} {k n:Nat} (hw:WF l k) (h0:0<n) (hn:n<k):depth l n=depth l (bD l n).toNat+1:=by
 unfold depth;rw [qY (hw.2 n h0 hn)];simp
theorem Ak {l:List Nd}:depth l 0=1:=by simp [depth,Cc]
def kL (l:List Nd):Int:=if fU l=false then 2 else if (decide (l.length>65535) || (List.range l.length).any (fun k=>decide (depth l k>256)) || l.any fun x=>!kU x.s)=true then 3 else 0
end Go.aJ

namespace Go.aJ
open Go
def bC (l:List Nd) (k p:Nat):List Nat:=(List.range k).filter fun j=>decide (0<j) && decide (bD l j=p)
def hJ (l:List Nd) (p:Nat):List Nat:=bC l l.length p
theorem tV {l:List Nd} {p:Nat}:bC l 0 p=[]:=rfl
theorem tU {l:List Nd} {k p:Nat}:bC l (k+1) p=bC l k p++if 0<k∧bD l k=p then [k] else []:=by
 by_cases h:0<k∧bD l k=p
 ·simp [bC,List.range_succ,h]
 ·rw [if_neg h]
  have:(decide (0<k) && decide (bD l k=p))=false:=by
   rw [Bool.eq_false_iff];simpa using h
  simp [bC,List.range_succ,this]
theorem sG {l:List Nd} {k p:Nat}:(bC l k p).length≤k:=by
 have:=List.length_filter_le (fun j=>decide (0<j) && decide (bD l j=p)) (List.range k)
 simpa [bC] using this
theorem tX {l:List Nd} {c p:Nat}:c∈hJ l p↔0<c∧c<l.length∧bD l c=p:=by
 simp [hJ,bC];omega
def hD (l:List Nd) (n:Nat):Nat:=match (hJ l n).getLast? with
 | none=>n+1
 | some c=>if h:n<c∧c<l.length then hD l c else n+1
termination_by l.length - n
decreasing_by omega
theorem Aq {l:List Nd} {n:Nat} (h:hJ l n=[]):hD l n=n+1:=by
 rw [hD,h];rfl
theorem Ap {l:List Nd} {n c:Nat} (h:(hJ l n).getLast?=some c) (h1:n<c) (h2:c<l.length):hD l n=hD l c:=by
 rw [hD,h];simp [h1,h2]
def pL (l:List Nd) (n:Nat):Bool:=(l.getD n default).s.shown
theorem Cp {l:List Nd} {n:Nat} (h:n<l.length):(l[n]'h).s.shown=pL l n:=by simp [pL,h]
def mq (l:List Nd) (n:Nat):Bool:=(br l n).all (pL l)
theorem Gh {l:List Nd}:mq l 0=pL l 0:=by simp [mq,Cc]
theorem Gg {l:List Nd} {k n:Nat} (hw:WF l k) (h0:0<n) (hn:n<k):mq l n=(pL l n && mq l (bD l n).toNat):=by
 unfold mq;rw [qY (hw.2 n h0 hn)];rfl
end Go.aJ

namespace Go.aJ
open Go
theorem yR {l:List Nd} {n:Nat}:n∈br l n:=by obtain ⟨r,h⟩:=GS (l:=l) (n:=n);simp [h]
theorem Cb {l:List Nd} {a n:Nat} (h:a∈br l n):∀ x,x∈br l a→x∈br l n:=by
 obtain ⟨i,hi,rfl⟩:=List.getElem_of_mem h
 intro x hx
 rw [← Sn n i hi] at hx
 exact List.mem_of_mem_drop hx
theorem sI {l:List Nd} {k n m:Nat} (hw:WF l m) (h0:0<k) (hk:k<m):n∈br l k↔n=k∨n∈br l (bD l k).toNat:=by
 rw [qY (hw.2 k h0 hk)];simp
theorem Rs {l:List Nd} {n:Nat}:n∈br l 0↔n=0:=by rw [Cc];simp
theorem iA.step {l:List Nd} (h:iA l) {n k:Nat} (hk:k<l.length) (hn:n<k) (hm:n∈br l k):n∈br l (k - 1):=by
 rw [sI h.wf (by omega) hk] at hm
 rcases hm with hm | hm
 ·omega
 ·exact Cb (h.up k (by omega) hk).2.2 n hm
theorem iA.Dc {l:List Nd} (h:iA l) {n:Nat}:∀ k j,k<l.length→n∈br l k→n≤j→j≤k→n∈br l j:=by
 intro k
 induction k using Nat.strongRecOn with
 | _ k ih=>
   intro j hk hm h1 h2
   rcases Nat.lt_or_ge j k with yw | yw
   ·exact ih (k - 1) (by omega) j (by omega) (h.step hk (by omega) hm) h1 (by omega)
   ·obtain rfl:j=k:=by omega
    exact hm
theorem iA.child {l:List Nd} (h:iA l) {n:Nat}:∀ k,k<l.length→n∈br l k→n≠k→∃ c,c∈hJ l n∧c∈br l k:=by
 intro k
 induction k using Nat.strongRecOn with
 | _ k ih=>
   intro hk hm hne
   rcases Nat.eq_zero_or_pos k with h0 | h0
   ·subst h0;rw [Rs] at hm;exact absurd hm hne
   ·obtain ⟨p1,p2,_⟩:=h.up k h0 hk
    rw [sI h.wf h0 hk] at hm
    rcases hm with hm | hm
    ·exact absurd hm hne
    ·by_cases hp:n=(bD l k).toNat
     ·exact ⟨k,tX.2 ⟨h0,hk,by omega⟩,yR⟩
     ·obtain ⟨c,c1,c2⟩:=ih (bD l k).toNat (by omega) (by omega) hm hp
      exact ⟨c,c1,(sI h.wf h0 hk).2 (.inr c2)⟩
theorem QF {l:List Nd} {n c:Nat} (h:(hJ l n).getLast?=some c):∀ x∈hJ l n,x≤c:=by
 have key:∀ k,∀ c,(bC l k n).getLast?=some c→∀ x∈bC l k n,x≤c:=by
  intro k
  induction k with
  | zero=>intro c h;simp [tV] at h
  | succ k ih=>
    intro c h x hx
    rw [tU] at h hx
    by_cases hc:0<k∧bD l k=n
    ·rw [if_pos hc] at h hx
     simp at h
     subst h
     rcases List.mem_append.1 hx with hx | hx
     ·simp [bC] at hx;omega
     ·simp at hx;omega
    ·rw [if_neg hc,List.append_nil] at h hx
     exact ih c h x hx
 exact key _ c h
theorem iA.ends {l:List Nd} (h:iA l):∀ m n,l.length - n=m→n<l.length→n<hD l n∧hD l n≤l.length∧∀ k,k<l.length→(n∈br l k↔n≤k∧k<hD l n):=by
 intro m
 induction m using Nat.strongRecOn with
 | _ m ih=>
   intro n hm hn
   cases hl:(hJ l n).getLast? with
   | none=>
     have gw:hJ l n=[]:=List.getLast?_eq_none_iff.1 hl
     rw [Aq gw]
     refine ⟨by omega,hn,fun k hk=>⟨fun hm=>?_,fun hb=>?_⟩⟩
     ·refine ⟨uf _ _ hm,?_⟩
      apply Classical.byContradiction
      intro hc
      obtain ⟨c,c1,_⟩:=h.child k hk hm (by omega)
      rw [gw] at c1;simp at c1
     ·obtain rfl:k=n:=by omega
      exact yR
   | some c=>
     have mL:c∈hJ l n:=List.mem_of_getLast? hl
     obtain ⟨c1,c2,c3⟩:=tX.1 mL
     have hnc:n<c:=by have:=(h.up c c1 c2).2.1;omega
     rw [Ap hl hnc c2]
     obtain ⟨e1,e2,e3⟩:=ih (l.length - c) (by omega) c rfl c2
     have ES:n∈br l c:=(sI h.wf c1 c2).2 (.inr (by rw [c3,Int.toNat_natCast];exact yR))
     refine ⟨by omega,e2,fun k hk=>⟨fun hm=>?_,fun hb=>?_⟩⟩
     ·refine ⟨uf _ _ hm,?_⟩
      rcases Nat.lt_or_ge k (c+1) with hkc | hkc
      ·omega
      ·obtain ⟨c',d1,d2⟩:=h.child k hk hm (by omega)
       have hle:=QF hl c' d1
       obtain ⟨g1,g2,g3⟩:=tX.1 d1
       by_cases MJ:c'=c
       ·subst MJ;exact ((e3 k hk).1 d2).2
       ·have:=h.Dc k c hk d2 (by omega) (by omega)
        rw [sI h.wf c1 c2,c3,Int.toNat_natCast] at this
        rcases this with t | t
        ·omega
        ·have:=uf _ _ t
         have:=(h.up c' g1 g2).2.1
         omega
     ·rcases Nat.lt_or_ge k c with hkc | hkc
      ·exact h.Dc c k c2 ES hb.1 (by omega)
      ·exact Cb ((e3 k hk).2 ⟨hkc,hb.2⟩) n ES
theorem iA.below {l:List Nd} (h:iA l) {n k:Nat} (hn:n<l.length) (hk:k<l.length):n∈br l k↔n≤k∧k<hD l n:=(h.ends _ n rfl hn).2.2 k hk
theorem iA.uX {l:List Nd} (h:iA l) {n:Nat} (hn:n<l.length):n<hD l n∧hD l n≤l.length:=⟨(h.ends _ n rfl hn).1,(h.ends _ n rfl hn).2.1⟩
end Go.aJ

namespace Go.aJ
open Go
theorem Qr:aT Go.Proofs.Tryz.prog 108 21 (fc Go.Proofs.Tryz.prog 108 21 [(.t 2)]) [(.t 2)]:=bn (by kernel_rfl)
theorem Qu:aT Go.Proofs.Tryz.prog 87 14 (fc Go.Proofs.Tryz.prog 87 14 [(.t 4)]) [(.t 4)]:=bn (by kernel_rfl)
theorem UD (x:Ln):aG Go.Proofs.Tryz.prog 108 [x.sv] [] [] (.rv (.bool (oB x))):=by
 refine mJ Qr [] [] [] [x.sv] [x.sv] [] _ (by simp) (by simp [aO,Ln.sv,Ln.cells,aW,aQ]) rfl (by simp [bV]) (by simp [gZ]) (fun K hK=>?_)
 conv in fc _ _ _ _=>reduce
 simp -implicitDefEqProofs only [Ln.sv,Ln.cells,go_sem,Int.reduceNegSucc]
 repeat' (first | (simp -implicitDefEqProofs only [go_sem,Int.reduceNegSucc]) | (with_reducible refine aA ?_) | ((first | refine ai (fun hg=>?_) (fun hg=>?_) | refine ay (fun hg=>?_) (fun hg=>?_) | refine az (fun hg=>?_) (fun hg=>?_)) <;> try simp -implicitDefEqProofs only [hg,Bool.not_true,Bool.not_false]) | ((with_reducible apply And.intro);focus (first | trivial | omega | decide | (simp -implicitDefEqProofs only [maxLen];omega) | (simp [maxLen,af,ak,an,ax,aj,av,au] <;> omega))) | fail)
 all_goals (try ((first | refine (hK _ _ _ _ [] (gL _ _) ?_).2 | refine (hK _ _ ?_).2 | refine (hK _ _ _ _ [] (gL _ _) ?_).1 | refine (hK _ _ ?_).1 | fail);clear hK;(simp_all [gS,bV,newL,gV,gM,bg,aX,lk,bp,fV,gi,fX,iz,iy,aB,gT,bq,aK,gq,gU,iG,aM,iF,aI,gx,ga,bG,oB]) <;> try omega))
theorem Cy (n m:Int) (hm:0≤m) (hm2:m<4611686018427387904):aG Go.Proofs.Tryz.prog 87 [.rv (.int .i64 n),.rv (.int .i64 m)] [] [] (.rv (.bool (qQ n m))):=by
 refine Ki Qu [.int .i64 n,.int .i64 m] _ (by simp) (fun K hK=>?_)
 have e1:IntKind.i64.wrap (0 - m) = -m:=by rw [wrap_i64 (by omega) (by omega)];omega
 conv in fc _ _ _ _=>reduce
 simp -implicitDefEqProofs only [e1,go_sem,Int.reduceNegSucc]
 repeat' (first | (simp -implicitDefEqProofs only [go_sem,Int.reduceNegSucc]) | (with_reducible refine aA ?_) | ((first | refine ai (fun hg=>?_) (fun hg=>?_) | refine ay (fun hg=>?_) (fun hg=>?_) | refine az (fun hg=>?_) (fun hg=>?_)) <;> try simp -implicitDefEqProofs only [hg,Bool.not_true,Bool.not_false]) | ((with_reducible apply And.intro);focus (first | trivial | omega | decide | (simp -implicitDefEqProofs only [maxLen];omega) | (simp [maxLen,af,ak,an,ax,aj,av,au] <;> omega))) | fail)
 all_goals (try ((first | refine (hK _ _ _ _ [] (gL _ _) ?_).2 | refine (hK _ _ ?_).2 | refine (hK _ _ _ _ [] (gL _ _) ?_).1 | refine (hK _ _ ?_).1 | fail);clear hK;(simp_all [gS,bV,newL,gV,gM,bg,aX,lk,bp,fV,gi,fX,iz,iy,aB,gT,bq,aK,gq,gU,iG,aM,iF,aI,gx,ga,bG,qQ]) <;> try omega))
end Go.aJ

namespace Go.aJ
open Go
theorem Qt:aT Go.Proofs.Tryz.prog 109 15 (fc Go.Proofs.Tryz.prog 109 15 []) []:=bn (by kernel_rfl)
theorem Qs:aT Go.Proofs.Tryz.prog 86 43 (fc Go.Proofs.Tryz.prog 86 43 [(.t 2)]) [(.t 2)]:=bn (by kernel_rfl)
def upto (o:Nat) (k:Nat):List Nat:=(List.range k).map fun q=>o+q*2
theorem Vf {o k:Nat}:upto o (k+1)=upto o k++[o+k*2]:=by simp [upto,List.range_succ]
theorem Iz {o k:Nat}:(upto o k).length=k:=by simp [upto]
theorem Cu (i j m o v:Nat) (cs:List RV) (os:List Nat) (h1:i≠j) (h2:i≠m) (h3:j≠m) (hb:os.length<1000) :
 aG Go.Proofs.Tryz.prog 109 [.ptr i o,.ptr j 0] [(i,.var (cs.map .rv)),(j,.var [.row m v os.length]),(m,.row 1 v (gR i os))] [(j,.var [.row m (v+4) (os.length+4)]),(m,.row 1 (v+4) (gR i (os++upto o 4)))] (.aP []):=by
 refine xE Qt [i,j,m] [.var (cs.map .rv),.var [.row 2 v os.length],.row 1 v (gR 0 os)] [.var (cs.map .rv),.var [.row m v os.length],.row 1 v (gR i os)] [.ptr 0 o,.ptr 1 0] _ _ _ (by simp) (by simp [aO,lG,lg,aQ,aW,nP,aY,nQ,nO,gZ,nI,bV]) rfl (by simp [bV,h1,h2,h3]) rfl (JK Df (zQ (by simp [aO,lG,lg,aQ,aW,nP,aY,nQ,nO,gZ,nI,bV,lg])) (JZ rfl)) (fun K hK=>?_)
 conv in fc _ _ _ _=>reduce
 simp -implicitDefEqProofs only [go_sem,Int.reduceNegSucc]
 refine fG (ι:=Nat) (fun k=>[(4,.rv (.int .i64 k)),(0,.ptr 0 o),(1,.ptr 1 0)]) (fun k=>[some (.var (cs.map .rv)),some (.var [.row 2 (v+k) (os.length+k)]),some (.row 1 (v+k) (gR 0 (os++upto o k)))]) (fun k=>k≤4) (fun k=>4 - k) 0 (by simp) (by simpa [upto] using aZ (by simp [lk])) (fun k hk K' hN hX hR=>?_)
 simp -implicitDefEqProofs only [go_sem,Int.reduceNegSucc]
 refine ai (fun hg=>?_) (fun hg=>?_)
 ·have aE:k<4:=by simp at hg;omega
  have d1:List.take (os.length+k) (gR 0 (os++upto o k))++[[SV.ptr 0 (o+k*2)]]=gR 0 (os++upto o (k+1)):=by
   rw [Vf,List.take_of_length_le (by simp [GV,Iz])]
   simp [gR]
  simp -implicitDefEqProofs only [GV,List.length_append,Iz,go_sem,Int.reduceNegSucc]
  repeat' (first | (simp -implicitDefEqProofs only [go_sem,Int.reduceNegSucc]) | (with_reducible refine aA ?_) | ((first | refine ai (fun hg=>?_) (fun hg=>?_) | refine ay (fun hg=>?_) (fun hg=>?_) | refine az (fun hg=>?_) (fun hg=>?_)) <;> try simp -implicitDefEqProofs only [hg,Bool.not_true,Bool.not_false]) | ((with_reducible apply And.intro);focus (first | trivial | omega | decide | (simp -implicitDefEqProofs only [maxLen];omega) | (simp [maxLen,af,ak,an,ax,aj,av,au] <;> omega))) | fail)
  rw [d1,fy (by omega)]
  refine hN (k+1) _ _ (by omega) (by omega) (tC _ (by simp) ?_ ?_)
  ·simp [qk,aB,fV,aI,gq,gA,zl,ga,Nat.add_assoc]
  ·simp [lk,aK,gU,gA]
 ·have aE:k=4:=by simp at hg;omega
  subst aE
  simp -implicitDefEqProofs only [go_sem,Int.reduceNegSucc]
  refine hX _ _ _ ?_
  repeat' (first | (simp -implicitDefEqProofs only [go_sem,Int.reduceNegSucc]) | (with_reducible refine aA ?_) | ((first | refine ai (fun hg=>?_) (fun hg=>?_) | refine ay (fun hg=>?_) (fun hg=>?_) | refine az (fun hg=>?_) (fun hg=>?_)) <;> try simp -implicitDefEqProofs only [hg,Bool.not_true,Bool.not_false]) | ((with_reducible apply And.intro);focus (first | trivial | omega | decide | (simp -implicitDefEqProofs only [maxLen];omega) | (simp [maxLen,af,ak,an,ax,aj,av,au] <;> omega))) | fail)
  refine (hK _ _ _ _ [] (gL _ _) ?_).1
  simp [gS,bV,newL,gV,gM,bg,aX,lk,bp,fV,gi,fX,iz,iy,aB,gT,bq,aK,gq,gU,iG,aM,iF,aI,gx,ga,h1,h2,h3,Ne.symm h1,Ne.symm h2,Ne.symm h3,gq,zl,ga]
theorem Ua (i j m o:Nat) (cs:List RV) (h1:i≠j) (h2:i≠m) (h3:j≠m) :
 aG Go.Proofs.Tryz.prog 109 [.ptr i o,.ptr j 0] [(j,.var [.rv .cm]),(i,.var (cs.map .rv))] [(j,.var [.row m 4 4]),(m,.row 1 4 (gR i (upto o 4)))] (.aP []):=by
 have:=Cu i j m o 0 cs [] h1 h2 h3 (by simp)
 simp -implicitDefEqProofs only [List.length_nil,Nat.zero_add,List.nil_append] at this
 refine Kk (e:=1) (o:=0) (m:=m) rfl (by simp [h1,h2]) (Ne.symm h3) (by simp) (by simp) (Ko this ?_)
 intro q
 simp [gR]
 constructor
 ·rintro (h | h | h) <;> simp [h]
 ·rintro (h | h | h) <;> simp [h]
def ny:List Nat:=[2,4,6,8,10,12,14,16,18,20,22,24,26,28,30,32,34,36]
theorem HN (i m:Nat) (s:aC) (h1:i≠m) :
 aG Go.Proofs.Tryz.prog 86 [.ptr i 0] [(i,.var (s.cells.map .rv))] [(m,.row 1 13 (gR i ny))] (.row m 13 18):=by
 refine xE Qs [i] [.var (s.cells.map .rv)] [.var (s.cells.map .rv)] [.ptr 0 0] _ _ _ (by simp) (by simp [aO,lG,lg,aQ,aW,nP,aY,nQ,nO,gZ,nI,bV]) rfl (by simp [bV]) rfl (fun j x y hx hy=>by
  match j with
  | 0=>simp at hx hy;subst hx;subst hy;exact Df
  | j+1=>simp at hx) (fun K hK=>?_)
 conv in fc _ _ _ _=>reduce
 simp -implicitDefEqProofs only [go_sem,Int.reduceNegSucc]
 refine bR (Ua 0 1 2 2 s.cells (by decide) (by decide) (by decide)) (by simp [aU,aB]) (by simp [bh,aR]) ?_
 repeat' (first | (simp -implicitDefEqProofs only [go_sem,Int.reduceNegSucc]) | (with_reducible refine aA ?_) | ((first | refine ai (fun hg=>?_) (fun hg=>?_) | refine ay (fun hg=>?_) (fun hg=>?_) | refine az (fun hg=>?_) (fun hg=>?_)) <;> try simp -implicitDefEqProofs only [hg,Bool.not_true,Bool.not_false]) | ((with_reducible apply And.intro);focus (first | trivial | omega | decide | (simp -implicitDefEqProofs only [maxLen];omega) | (simp [maxLen,af,ak,an,ax,aj,av,au] <;> omega))) | fail)
 rw [show List.take 4 (gR 0 (upto 2 4))++[[SV.ptr 0 10],[SV.ptr 0 12],[SV.ptr 0 14],[SV.ptr 0 16],[SV.ptr 0 18],[SV.ptr 0 20]]=gR 0 [2,4,6,8,10,12,14,16,18,20] from rfl]
 refine bR (Cu 0 1 2 22 5 s.cells [2,4,6,8,10,12,14,16,18,20] (by decide) (by decide) (by decide) (by decide)) (by simp [aU,aB]) (by simp [bh,aR]) ?_
 repeat' (first | (simp -implicitDefEqProofs only [go_sem,Int.reduceNegSucc]) | (with_reducible refine aA ?_) | ((first | refine ai (fun hg=>?_) (fun hg=>?_) | refine ay (fun hg=>?_) (fun hg=>?_) | refine az (fun hg=>?_) (fun hg=>?_)) <;> try simp -implicitDefEqProofs only [hg,Bool.not_true,Bool.not_false]) | ((with_reducible apply And.intro);focus (first | trivial | omega | decide | (simp -implicitDefEqProofs only [maxLen];omega) | (simp [maxLen,af,ak,an,ax,aj,av,au] <;> omega))) | fail)
 refine bR (Cu 0 1 2 30 9 s.cells [2,4,6,8,10,12,14,16,18,20,22,24,26,28] (by decide) (by decide) (by decide) (by decide)) (by simp [aU,aB,upto,List.range_succ]) (by simp [bh,aR]) ?_
 repeat' (first | (simp -implicitDefEqProofs only [go_sem,Int.reduceNegSucc]) | (with_reducible refine aA ?_) | ((first | refine ai (fun hg=>?_) (fun hg=>?_) | refine ay (fun hg=>?_) (fun hg=>?_) | refine az (fun hg=>?_) (fun hg=>?_)) <;> try simp -implicitDefEqProofs only [hg,Bool.not_true,Bool.not_false]) | ((with_reducible apply And.intro);focus (first | trivial | omega | decide | (simp -implicitDefEqProofs only [maxLen];omega) | (simp [maxLen,af,ak,an,ax,aj,av,au] <;> omega))) | fail)
 refine (hK _ _ _ _ [none,some m,none] (gL _ _) ?_).2
 rw [show 2::4::6::8::10::12::14::16::18::20::22::24::26::28::upto 30 4=ny from rfl]
 simp [gS,bV,newL,gV,gM,bg,aX,lk,bp,fV,gi,fX,iz,iy,aB,gT,bq,aK,gq,gU,iG,aM,iF,aI,gx,ga,h1,Ne.symm h1,gq,zl,ga]
end Go.aJ
