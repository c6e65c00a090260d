/- Part 2 of the proof: EngO, EngP, EngQ, EngR, EngS, EngT, EngU, EngV, EngW, EngX, EngY, EngZ, EngZa, EngZb, EngZc, EngZd, K0, KF, T0, T1, T2, K1, K2. -/
import Derived.Test.YtnaoehbodmiekaaGreatPlaceTells1
import Derived.ProofKit
import Derived.OpenShut
import Derived.Below
import Derived.Test.YtnaoehbodmiekaaGreatProg
import Derived.KernelRfl
set_option linter.unusedSimpArgs false
set_option linter.unusedVariables false
set_option maxRecDepth 100000
set_option maxHeartbeats 16000000
namespace Go.aL
open Go
structure St where
 env:List (Nat×SV)
 h:List (Option HB)
def lk:List (Nat×SV)→Nat→SV
 | [],_=>.dead
 | (m,v)::r,n=>if m=n then v else lk r n
def aB (h:List (Option HB)) (id:Nat):Option HB:=match h[id]? with
 | some x=>x
 | none=>none
def gf (dst:Option Nat) (v:SV) (env:List (Nat×SV)):List (Nat×SV):=match dst with
 | some d=>(d,v)::env
 | none=>env
def aR (h:List (Option HB)) (q:Nat×HB):List (Option HB):=if q.1=h.length then h++[some q.2] else h.set q.1 (some q.2)
def wP (h:List (Option HB)):Option (Nat×HB)→List (Option HB)
 | none=>h
 | some q=>aR h q
def lZ:List (Option HB)→List (Nat×HB)→List (Option HB)
 | h,[]=>h
 | h,q::r=>lZ (aR h q) r
def aZ (pre:List (Nat×HB)):List (Option HB)→List (Nat×HB)→Prop
 | _,[]=>True
 | h,q::r=>(q.1=h.length∨(q.1<h.length∧∃ hb,(q.1,hb)∈pre))∧aZ pre (aR h q) r
theorem wk (env:List (Nat×SV)) (d:Nat) (v:SV):lk ((d,v)::env)=up (lk env) d v:=by
 funext n
 simp only [lk,up]
 by_cases h:d=n
 ·simp [h]
 ·rw [if_neg h,if_neg (Ne.symm h)]
theorem uG (h:List (Option HB)) (q:Nat×HB):h.length≤(aR h q).length:=by
 unfold aR;split <;> simp
theorem yB {h:List (Option HB)} {q:Nat×HB} (hq:q.1≤h.length):aB (aR h q)=up (aB h) q.1 (some q.2):=by
 funext id
 unfold aR aB up
 by_cases he:q.1=h.length
 ·rw [if_pos he]
  by_cases hi:id=q.1
  ·subst hi;simp [he]
  ·rw [if_neg hi]
   show _=(match h[id]? with | some x=>x | none=>none)
   by_cases hl:id<h.length
   ·rw [List.getElem?_append_left hl]
   ·rw [List.getElem?_append_right (by omega),List.getElem?_eq_none (l:=h) (by omega),List.getElem?_eq_none (by simp;omega)]
 ·rw [if_neg he,List.getElem?_set]
  by_cases hi:id=q.1
  ·subst hi
   have:q.1<h.length:=by omega
   simp [this]
  ·rw [if_neg (Ne.symm hi),if_neg hi]
theorem vp {pre:List (Nat×HB)}:∀ {us:List (Nat×HB)} {h:List (Option HB)},aZ pre h us→aB (lZ h us)=bM (aB h) us∧h.length≤(lZ h us).length
 | [],h,_=>⟨rfl,Nat.le_refl _⟩
 | q::r,h,hk=>by
   obtain ⟨h1,h2⟩:=hk
   have hle:q.1≤h.length:=by rcases h1 with h1 | ⟨h1,_⟩ <;> omega
   obtain ⟨g1,g2⟩:=vp h2
   refine ⟨?_,Nat.le_trans (uG h q) g2⟩
   obtain ⟨id,hb⟩:=q
   rw [lZ,g1,yB hle];rfl
structure ju (C:Ctx) (n0:Nat) (s:St) (a:Act) (w:World):Prop where
 rep:∃ aa,jS C (lk s.env) (aB s.h) a w aa
 vZ:n0≤s.h.length
 h0:∀ id,n0≤id→C.h0 id=none
theorem GM {C:Ctx} {n0:Nat} {s:St} {a:Act} {w:World} (R:ju C n0 s a w) {pre:List (Nat×HB)}:∀ {us:List (Nat×HB)} {h:List (Option HB)},s.h.length≤h.length→aZ pre h us→rM C (aB s.h) pre us
 | [],h,_,_=>fun q hq=>by simp at hq
 | p::r,h,hl,hk=>fun q hq=>by
   rcases List.mem_cons.1 hq with rfl | hq
   ·rcases hk.1 with h1 | ⟨_,h1⟩
    ·refine .inr ⟨?_,R.h0 _ (by have:=R.vZ;omega)⟩
     unfold aB
     rw [List.getElem?_eq_none (by omega)]
    ·exact .inl h1
   ·exact GM R (h:=aR h p) (by have:=uG h p;omega) hk.2 q hq
theorem HH {w:World} {ok:Nat→Prop} {aa:Nat→Option Nat} {hp:Hp}:Rp w ok aa hp (.aO []) undef:=.aO [] [] rfl (fun j y hj=>by simp at hj)
theorem Td {w:World} {ok:Nat→Prop} {aa:Nat→Option Nat} {hp:Hp} {v:Value} (h:Rp w ok aa hp (.aO []) v):v=undef:=by
 cases h with
 | aO _ vs hl _=>
   have:vs=[]:=List.eq_nil_of_length_eq_zero (by simpa using hl)
   subst this;rfl
def kQ (en:Nat→SV):Option (Nat×Bool)→Option Bool
 | none=>some true
 | some (d,b)=>match en d with
   | .rv (.bool t)=>some (t == b)
   | .aO []=>some false
   | _=>none
def qu (P:Program) (f:FuncId) (args:List SV) (h:List (Option HB)) (K:SV→List (Option HB)→Prop):Prop:=
 ∃ pre us sv,aK P f args pre us sv∧aT (aB h) pre∧aZ pre h us∧K sv (lZ h us)
def xL (P:Program) (h:List (Option HB)) (K:SV→List (Option HB)→Prop):List SV→Prop
 | .fn f caps::args=>qu P f (args++caps) h K
 | .fF f caps::args=>qu P f (caps++args) h K
 | _=>False
def vR (P:Program) (name:String) (h:List (Option HB)) (K:SV→List (Option HB)→Prop):List SV→Prop
 | s::args=>match oz s with
   | some (t,x)=>match oB P t name with
     | some (f,none)=>qu P f (x::args) h K
     | some (f,some (n,agg))=>match ij n agg (aB h) x with
       | some (p,y,_,_)=>p∧qu P f (y::args) h K
       | none=>False
     | none=>False
   | none=>False
 | _=>False
def zq (h:List (Option HB)) (K:SV→List (Option HB)→Prop):XR→Prop
 | some (p,sv,u,_)=>p∧K sv (wP h u)
 | none=>False
def sS (P:Program) (ao:AO) (args:List SV) (h:List (Option HB)) (K:SV→List (Option HB)→Prop):Prop:=
 match ao with
 | .call f=>qu P f args h K
 | .nZ=>xL P h K args
 | .inv name=>vR P name h K args
 | ao=>zq h K (bY ao args (aB h) h.length)
def RW (P:Program) (K:St→Prop):List bF→St→Prop
 | [],s=>K s
 | op::r,s=>match kQ (lk s.env) op.guard with
   | some true=>sS P op.ao (op.xs.map (iY (lk s.env))) s.h fun sv h'=>RW P K r ⟨gf op.dst sv s.env,h'⟩
   | some false=>RW P K r ⟨gf op.dst (.aO []) s.env,s.h⟩
   | none=>False
theorem Gq {n:Nat} {agg:Bool} {hp:Hp} {x y:SV} {p:Prop} {u:Option (Nat×HB)} {rd:List Nat} (h:ij n agg hp x=some (p,y,u,rd)):∀ id∈rd,(hp id).isSome=true:=by
 unfold ij at h
 repeat' split at h
 all_goals first | (cases h;done) | (cases h;simp [*])
def uv (h:List (Option HB)) (rd:List Nat):List (Nat×HB):=rd.filterMap fun id=>(aB h id).map fun hb=>(id,hb)
theorem FD {P:Program} {o:Oper} {name:String} {s x y:SV} {t:TypeId} {args:List SV} {f:FuncId} {n:Nat} {agg:Bool} {gC:List Operand} (hc:kP P o.op=some (.inv name,gC)) (hi:oz s=some (t,x)) (hf:oB P t name=some (f,some (n,agg))) {h:List (Option HB)} {p:Prop} {u:Option (Nat×HB)} {rd:List Nat} (hE:ij n agg (aB h) x=some (p,y,u,rd)) (aD:p)
 {pre us:List (Nat×HB)} {sv:SV} (H:aK P f (y::args) pre us sv) (h2:aT (aB h) pre) (h3:aZ pre h us):oR P o (s::args) (uv h rd++pre) us sv∧aT (aB h) (uv h rd++pre)∧aZ (uv h rd++pre) h us:=by
 have hrd:=Gq hE
 have hpre:aT (aB h) (uv h rd++pre):=fun q hq=>by
  rcases List.mem_append.1 hq with hq | hq
  ·obtain ⟨id,_,hid⟩:=List.mem_filterMap.1 hq
   cases fO:aB h id with
   | none=>simp [fO] at hid
   | some hb=>simp [fO] at hid;subst hid;exact fO
  ·exact h2 q hq
 have So:∀ {us:List (Nat×HB)} {h':List (Option HB)},aZ pre h' us→aZ (uv h rd++pre) h' us:=by
  intro us
  induction us with
  | nil=>intro h' _;trivial
  | cons q r ih=>
    intro h' hk
    refine ⟨hk.1.imp (fun h=>h) (fun ⟨a,hb,hm⟩=>⟨a,hb,List.mem_append.2 (.inr hm)⟩),ih hk.2⟩
 refine ⟨Cd hc hi hf (y:=y) (fun hp hP=>?_) (zu:=pre) (fun q hq=>List.mem_append.2 (.inr hq)) H (fun C hp hnew hP q hq=>?_),hpre,So h3⟩
 ·refine ⟨p,u,rd,Gp hE (fun id hid=>?_),aD⟩
  obtain ⟨hb,pq⟩:=Option.isSome_iff_exists.1 (hrd id hid)
  rw [pq]
  exact hP (id,hb) (List.mem_append.2 (.inl (List.mem_filterMap.2 ⟨id,hid,by simp [pq]⟩)))
 ·rcases hnew q hq with ⟨hb,hm⟩ | hn
  ·rcases List.mem_append.1 hm with hm | hm
   ·
    have:∀ {us:List (Nat×HB)} {h':List (Option HB)},aZ pre h' us→∀ q∈us,(∃ hb,(q.1,hb)∈pre)∨h'.length≤q.1:=by
     intro us
     induction us with
     | nil=>intro h' _ q hq;simp at hq
     | cons r l ih=>
       intro h' hk q hq
       rcases List.mem_cons.1 hq with rfl | hq
       ·rcases hk.1 with h1 | ⟨_,h1⟩
        ·exact .inr (by omega)
        ·exact .inl h1
       ·rcases ih hk.2 q hq with h1 | h1
        ·exact .inl h1
        ·exact .inr (by have:=uG h' r;omega)
    rcases this h3 q hq with h1 | h1
    ·exact .inl h1
    ·exfalso
     obtain ⟨id,_,hid⟩:=List.mem_filterMap.1 hm
     cases fO:aB h id with
     | none=>simp [fO] at hid
     | some hb'=>
       simp [fO] at hid
       have:id<h.length:=by
        unfold aB at fO
        cases hl:h[id]? with
        | none=>simp [hl] at fO
        | some x=>exact (List.getElem?_eq_some_iff.1 hl).1
       omega
   ·exact .inl ⟨hb,hm⟩
  ·exact .inr hn
theorem Sv {P:Program} {o:Oper} {ao:AO} {gC:List Operand} (hc:kP P o.op=some (ao,gC)) {args:List SV} {h:List (Option HB)} {K:SV→List (Option HB)→Prop} (hW:sS P ao args h K) :
 ∃ pre us sv,oR P o args pre us sv∧aT (aB h) pre∧aZ pre h us∧K sv (lZ h us):=by
 unfold sS at hW
 split at hW
 ·obtain ⟨pre,us,sv,h1,h2,h3,h4⟩:=hW
  exact ⟨pre,us,sv,GO hc h1,h2,h3,h4⟩
 ·unfold xL at hW
  split at hW
  ·obtain ⟨pre,us,sv,h1,h2,h3,h4⟩:=hW
   exact ⟨pre,us,sv,GQ hc h1,h2,h3,h4⟩
  ·obtain ⟨pre,us,sv,h1,h2,h3,h4⟩:=hW
   exact ⟨pre,us,sv,GP hc h1,h2,h3,h4⟩
  ·exact hW.elim
 ·unfold vR at hW
  split at hW
  ·rename_i s iO
   split at hW
   ·rename_i t x hi
    split at hW
    ·rename_i f hf
     obtain ⟨pre,us,sv,h1,h2,h3,h4⟩:=hW
     exact ⟨pre,us,sv,Cd hc hi hf (y:=x) (fun hp hP=>rfl) (fun q hq=>hq) h1 (fun C hp hn _=>hn),h2,h3,h4⟩
    ·rename_i f n agg hf
     split at hW
     ·rename_i p y u rd hE
      obtain ⟨aD,pre,us,sv,h1,h2,h3,h4⟩:=hW
      obtain ⟨g1,g2,g3⟩:=FD hc hi hf hE aD h1 h2 h3
      exact ⟨_,us,sv,g1,g2,g3,h4⟩
     ·exact hW.elim
    ·exact hW.elim
   ·exact hW.elim
  ·exact hW.elim
 ·unfold zq at hW
  split at hW
  ·rename_i p sv u rd hE
   obtain ⟨hp,hK⟩:=hW
   have ov:aB h h.length=none:=by unfold aB;rw [List.getElem?_eq_none (Nat.le_refl _)]
   refine ⟨_,wO u,sv,GR hc hE hp ov,fun q hq=>?_,?_,?_⟩
   ·obtain ⟨id,_,hid⟩:=List.mem_filterMap.1 hq
    cases fO:aB h id with
    | none=>simp [fO] at hid
    | some hb=>simp [fO] at hid;subst hid;exact fO
   ·cases u with
    | none=>trivial
    | some q=>
      have ur:=Cc hE
      refine ⟨?_,trivial⟩
      rcases ur.1 q rfl with h1 | h1
      ·exact .inl h1
      ·right
       have hs:=ur.2 _ h1
       obtain ⟨hb,pq⟩:=Option.isSome_iff_exists.1 hs
       refine ⟨?_,hb,List.mem_filterMap.2 ⟨q.1,h1,by simp [pq]⟩⟩
       unfold aB at pq
       cases hl:h[q.1]? with
       | none=>simp [hl] at pq
       | some x=>exact (List.getElem?_eq_some_iff.1 hl).1
   ·cases u with
    | none=>exact hK
    | some q=>exact hK
  ·exact hW.elim
theorem AQ {C:Ctx} {en:Nat→SV} {hp:Hp} {a:Act} {w:World} {aa:Nat→Option Nat} (RF:jS C en hp a w aa) {ops:Array Oper} {o:Oper} {N:Nat} {P:Program} {op:bF} (hc:nw P ops N o=some op) {b:Bool} (h:kQ en op.guard=some b):Region.wanted o (yielded ops a.tmps)=b:=by
 unfold nw at hc
 split at hc
 ·cases hc
 ·split at hc
  ·cases hc
  ·split at hc
   ·split at hc
    ·rename_i hg
     cases hc
     simp only [kQ,Option.some.injEq] at h
     simp [Region.wanted,hg,← h]
    ·rename_i j b' hg
     split at hc
     ·rename_i d hd
      cases hc
      simp only [kQ] at h
      split at h
      ·rename_i t ht
       simp only [Option.some.injEq] at h
       have:=RF.env d
       rw [ht] at this
       have hv:=sX this
       have NR:a.tmps[d]?=some (.bool t):=by
        rw [Array.getD_eq_getD_getElem?] at hv
        cases hx:a.tmps[d]? with
        | none=>simp [hx,undef] at hv
        | some x=>simp [hx] at hv;rw [hv]
       simp only [Region.wanted,hg,yielded,hd,Option.bind_some,NR]
       rw [← h];cases t <;> cases b' <;> rfl
      ·rename_i ht
       simp only [Option.some.injEq] at h
       have:=RF.env d
       rw [ht] at this
       have hv:=Td this
       have hno:yielded ops a.tmps j=none:=by
        simp only [yielded,hd,Option.bind_some]
        rw [Array.getD_eq_getD_getElem?] at hv
        cases hx:a.tmps[d]? with
        | none=>rfl
        | some x=>simp [hx] at hv;rw [hv];rfl
       simp only [Region.wanted,hg,hno]
       rw [← h];rfl
      ·cases h
     ·cases hc
   ·cases hc
theorem Ap {P:Program} {ops:Array Oper} {N:Nat} {o:Oper} {op:bF} (hc:nw P ops N o=some op):∃ gC,kP P o.op=some (op.ao,gC)∧tG gC=some op.xs∧o.dst=op.dst∧∀ d,op.dst=some d→d<N:=by
 unfold nw at hc
 split at hc
 ·cases hc
 ·rename_i ao xs hao
  split at hc
  ·cases hc
  ·rename_i ys hys
   split at hc
   ·rename_i hd
    split at hc
    ·cases hc
     exact ⟨xs,hao,hys,rfl,fun d lA=>by have AZ:o.dst=some d:=lA;rw [AZ] at hd;simpa using hd⟩
    ·split at hc
     ·cases hc
      exact ⟨xs,hao,hys,rfl,fun d lA=>by have AZ:o.dst=some d:=lA;rw [AZ] at hd;simpa using hd⟩
     ·cases hc
   ·cases hc
theorem jS.Hz {C:Ctx} {env:List (Nat×SV)} {hp:Hp} {a:Act} {w:World} {aa:Nat→Option Nat} (R:jS C (lk env) hp a w aa) {dst:Option Nat} (hd:∀ d,dst=some d→d<C.N) {s:SV} {v:Value} (h:Rp w (aH C aa hp) aa hp s v) :
 jS C (lk (gf dst s env)) hp (a.put dst v) w aa:=by
 cases dst with
 | none=>exact R
 | some d=>
   have:=R.put (hd d rfl) h
   rw [← wk] at this;exact this
theorem HR {P:Program} {C:Ctx} {n0:Nat} {ops:Array Oper} {K:St→Prop} {Q:Exit→Act→World→Prop} (hK:∀ s a w,K s→ju C n0 s a w→Q .normal a w) :
 ∀ (l:List bF) (is:List Nat) (s:St) (a:Act) (w:World),is.length=l.length→(∀ (j i:Nat) (op:bF),is[j]?=some i→l[j]?=some op→∃ o,ops[i]?=some o∧nw P ops C.N o=some op)→
  RW P K l s→ju C n0 s a w→wpOps P ops Q is a w
 | [],[],s,a,w,_,_,h,R=>hK s a w h R
 | [],_::_,s,a,w,hl,_,_,_=>by simp at hl
 | _::_,[],s,a,w,hl,_,_,_=>by simp at hl
 | op::l,i::is,s,a,w,hl,hc,h,R=>by
   obtain ⟨o,ho,mw⟩:=hc 0 i op rfl rfl
   obtain ⟨gC,qI,lK,tU,tV⟩:=Ap mw
   have ih:=HR (P:=P) (ops:=ops) hK l is
   have hl':is.length=l.length:=by simpa using hl
   have nB:∀ (j i:Nat) (op:bF),is[j]?=some i→l[j]?=some op→∃ o,ops[i]?=some o∧nw P ops C.N o=some op:=fun j i op h1 h2=>hc (j+1) i op (by simpa using h1) (by simpa using h2)
   simp only [wpOps,ho]
   unfold RW at h
   cases hg:kQ (lk s.env) op.guard with
   | none=>simp [hg] at h
   | some b=>
     obtain ⟨aa,RF⟩:=R.rep
     have hw:=AQ RF mw hg
     cases b with
     | false=>
       rw [hg] at h
       rw [if_neg (by rw [hw];simp)]
       refine ih _ _ _ hl' nB h ⟨⟨aa,?_⟩,R.vZ,R.h0⟩
       rw [tU]
       exact RF.Hz tV HH
     | true=>
       rw [hg] at h
       rw [if_pos hw]
       left
       obtain ⟨pre,us,sv,h1,h2,h3,h4⟩:=Sv qI h
       obtain ⟨g1,g2⟩:=vp h3
       refine h1 C (aB s.h) w aa a _ _ _ _ qI h2 (GM R (Nat.le_refl _) h3) RF.mem (xw RF lK) (fun v w' aJ hS hR=>?_)
       refine ih _ _ _ hl' nB h4 ⟨⟨aJ,?_⟩,Nat.le_trans R.vZ g2,R.h0⟩
       rw [tU]
       have lg:=RF.step hS
       rw [← g1] at lg hR
       exact lg.Hz tV hR
end Go.aL

namespace Go.aL
open Go
structure TE where
 fD:List Nat
 dst:Option Nat
 pre:List Nat
 us:List Nat
def nO:List XO→List Nat
 | []=>[]
 | .t n::r=>n::nO r
 | .c _::r=>nO r
def oJ (op:bF):List Nat:=match op.guard with
 | some (d,_)=>d::nO op.xs
 | none=>nO op.xs
def pW (a b:List Nat):Bool:=a.all fun x=>!b.contains x
def mQ (x y:TE):Bool:=
 (match x.dst with
  | some d=>!y.fD.contains d && !(y.dst == some d)
  | none=>true) &&
 (match y.dst with
  | some d=>!x.fD.contains d
  | none=>true) && pW x.us y.pre && pW x.us y.us && pW y.us x.pre
def DQ (aV:List (List Nat)) (i:Nat) (x:TE):Nat→List TE→Bool
 | _,[]=>true
 | j,y::r=>((aV.getD j []).contains i || mQ x y) && DQ aV i x (j+1) r
def Lj (aV:List (List Nat)):Nat→List TE→Bool
 | _,[]=>true
 | i,x::r=>DQ aV i x (i+1) r && Lj aV (i+1) r
def jN (o:Oper):List Nat:=(o.after.toList.filter (fun e=>Region.binds .any e)).map (·.on)
inductive EN where
 | skip
 | run (args:List SV) (pre us:List (Nat×HB)) (sv:SV)
def Ca (op:bF) (s:St):EN→St
 | .skip=>⟨gf op.dst (.aO []) s.env,s.h⟩
 | .run _ _ us sv=>⟨gf op.dst sv s.env,lZ s.h us⟩
def iV (op:bF):EN→TE
 | .skip=>⟨oJ op,op.dst,[],[]⟩
 | .run _ pre us _=>⟨oJ op,op.dst,pre.map (·.1),us.map (·.1)⟩
def Tr (P:Program) (ops:Array Oper):Nat→List bF→St→List EN→St→Prop
 | _,[],s,[],s'=>s=s'
 | i,op::l,s,e::es,s'=>(match e with
    | .skip=>kQ (lk s.env) op.guard=some false
    | .run args pre us sv=>kQ (lk s.env) op.guard=some true∧args=op.xs.map (iY (lk s.env))∧(∀ o,ops[i]?=some o→oR P o args pre us sv)∧aT (aB s.h) pre∧aZ pre s.h us)∧Tr P ops (i+1) l (Ca op s e) es s'
 | _,_,_,_,_=>False
def fK:List bF→List EN→St→Nat→St
 | op::l,e::es,s,i+1=>fK l es (Ca op s e) i
 | _,_,s,_=>s
theorem Tr.length {P:Program} {ops:Array Oper}:∀ {l:List bF} {i:Nat} {s s':St} {es:List EN},Tr P ops i l s es s'→es.length=l.length
 | [],i,s,s',[],_=>rfl
 | [],i,s,s',_::_,h=>h.elim
 | _::_,i,s,s',[],h=>h.elim
 | op::l,i,s,s',e::es,h=>by simp [Tr.length h.2]
theorem Tr.last {P:Program} {ops:Array Oper}:∀ {l:List bF} {i:Nat} {s s':St} {es:List EN},Tr P ops i l s es s'→fK l es s l.length=s'
 | [],i,s,s',[],h=>h
 | [],i,s,s',_::_,h=>h.elim
 | _::_,i,s,s',[],h=>h.elim
 | op::l,i,s,s',e::es,h=>by simpa [fK] using Tr.last h.2
theorem Tr.at_ {P:Program} {ops:Array Oper}:∀ {l:List bF} {i:Nat} {s s':St} {es:List EN},Tr P ops i l s es s'→∀ (j:Nat) (op:bF),l[j]?=some op→∃ e,es[j]?=some e∧fK l es s (j+1)=Ca op (fK l es s j) e∧(match e with
 | .skip=>kQ (lk (fK l es s j).env) op.guard=some false
 | .run args pre us sv=>kQ (lk (fK l es s j).env) op.guard=some true∧args=op.xs.map (iY (lk (fK l es s j).env))∧(∀ o,ops[i+j]?=some o→oR P o args pre us sv)∧aT (aB (fK l es s j).h) pre∧aZ pre (fK l es s j).h us)
 | [],i,s,s',es,h,j,op,hj=>by simp at hj
 | _::_,i,s,s',[],h,_,_,_=>h.elim
 | Ws::l,i,s,s',e::es,h,j,op,hj=>by
   cases j with
   | zero=>
     simp at hj;subst hj
     refine ⟨e,rfl,?_,?_⟩
     ·cases l <;> cases es <;> rfl
     ·have:=h.1
      cases e <;> exact this
   | succ j=>
     have:=Tr.at_ h.2 j op (by simpa using hj)
     obtain ⟨e',h1,h2,h3⟩:=this
     refine ⟨e',by simpa using h1,h2,?_⟩
     rw [show i+(j+1)=i+1+j by omega]
     exact h3
theorem IF {l:List bF} {es:List EN} {s:St} (P:Program) (ops:Array Oper) {i:Nat} {s':St} (h:Tr P ops i l s es s'):∀ j,j≤l.length→s.h.length≤(fK l es s j).h.length:=fun j=>by
 induction j with
 | zero=>intro _;cases l <;> cases es <;> exact Nat.le_refl _
 | succ j ih=>
   intro hj
   obtain ⟨e,h1,h2,h3⟩:=h.at_ j _ (List.getElem?_eq_getElem (by omega))
   rw [h2]
   refine Nat.le_trans (ih (by omega)) ?_
   cases e with
   | skip=>exact Nat.le_refl _
   | run args pre us sv=>exact (vp h3.2.2.2.2).2
def cnt (L:Nat→Bool):Nat→Nat
 | 0=>0
 | n+1=>cnt L n+(if L n then 0 else 1)
theorem DM {L L':Nat→Bool}:∀ {n:Nat},(∀ i,i<n→L' i=L i)→cnt L' n=cnt L n
 | 0,_=>rfl
 | n+1,h=>by rw [cnt,cnt,DM (fun i hi=>h i (by omega)),h n (by omega)]
theorem DN {L L':Nat→Bool} {j:Nat} (hj:L j=false) (hj':L' j=true) (ho:∀ i,i≠j→L' i=L i):∀ {n:Nat},j<n→cnt L n=cnt L' n+1
 | n+1,h=>by
   rw [cnt,cnt]
   by_cases hn:j=n
   ·subst hn
    rw [DM (L:=L) (L':=L') (fun i hi=>ho i (by omega)),hj,hj'];simp
   ·rw [DN hj hj' ho (n:=n) (by omega),ho n (fun e=>hn e.symm)];omega
theorem DO {L:Nat→Bool}:∀ {n:Nat},cnt L n=0→∀ i,i<n→L i=true
 | n+1,h,i,hi=>by
   rw [cnt] at h
   by_cases hn:i=n
   ·subst hn;cases hL:L i with
    | true=>rfl
    | false=>simp [hL] at h
   ·exact DO (n:=n) (by omega) i (by omega)
theorem DK (L:Nat→Bool):∀ n,cnt L n≤n
 | 0=>Nat.le_refl _
 | n+1=>by rw [cnt];have:=DK L n;split <;> omega
theorem wQ {hp aD:Hp}:∀ {us:List (Nat×HB)} {id:Nat},id∈us.map (·.1)→bM hp us id=bM aD us id
 | [],id,h=>by simp at h
 | (i,hb)::r,id,h=>by
   by_cases hr:id∈r.map (·.1)
   ·rw [bM,bM];exact wQ hr
   ·have hi:id=i:=by
     rcases List.mem_cons.1 h with h | h
     ·exact h
     ·exact absurd h hr
    subst hi
    have hne:∀ q∈r,q.1≠id:=fun q hq he=>hr (List.mem_map.2 ⟨q,hq,he⟩)
    rw [bM,bM,td hne,td hne,cq,cq]
theorem uz {α:Type} (f:Nat→α) (wr:Nat→Prop) (hs:∀ i,¬ wr i→f (i+1)=f i) {k j:Nat} (yF:k≤j) (h:∀ i,k≤i→i<j→¬ wr i):f j=f k:=by
 induction j with
 | zero=>have:k=0:=by omega
         rw [this]
 | succ j ih=>
   by_cases he:k=j+1
   ·rw [he]
   ·rw [hs j (h j (by omega) (by omega)),ih (by omega) (fun i h1 h2=>h i h1 (by omega))]
theorem xZ {a b:List Nat} (h:pW a b=true) {x:Nat} (ha:x∈a) (hb:x∈b):False:=by
 unfold pW at h
 rw [List.all_eq_true] at h
 have:=h x ha
 simp at this
 exact this hb
structure jC (P:Program) (ops:Array Oper) (N:Nat) (l:List bF) (es:List EN) (s0 s1:St) (aV:List (List Nat)):Prop where
 tr:Tr P ops 0 l s0 es s1
 size:ops.size=l.length
 comp:∀ (i:Nat) (op:bF),l[i]?=some op→∃ o,ops[i]?=some o∧nw P ops N o=some op
 back:∀ (i:Nat) (o:Oper),ops[i]?=some o→∀ k∈jN o,k<i
 Kv:∀ (i:Nat) (o:Oper),ops[i]?=some o→∀ k∈aV.getD i [],∃ (L:List Nat),(∀ x∈L,x∈jN o)∧(k∈L∨∃ x∈L,k∈aV.getD x [])
 ok:∀ (a b:Nat) (Ce Cf:bF) (ea eb:EN),a<b→l[a]?=some Ce→l[b]?=some Cf→es[a]?=some ea→es[b]?=some eb→a∈aV.getD b []∨mQ (iV Ce ea) (iV Cf eb)=true
section
variable {P:Program} {ops:Array Oper} {N:Nat} {l:List bF} {es:List EN} {s0 s1:St} {aV:List (List Nat)}
def qv (ops:Array Oper) (L:Nat→Bool):Prop:=∀ (i:Nat) (o:Oper),ops[i]?=some o→L i=true→∀ k∈jN o,L k=true
theorem jC.xy (H:jC P ops N l es s0 s1 aV) {L:Nat→Bool} (hc:qv ops L):∀ (i:Nat) (o:Oper),ops[i]?=some o→(∀ k∈jN o,L k=true)→∀ k∈aV.getD i [],L k=true:=by
 intro i
 induction i using Nat.strongRecOn with
 | _ i ih=>
   intro o ho hn k hk
   obtain ⟨ls,h1,h2⟩:=H.Kv i o ho k hk
   rcases h2 with h2 | ⟨x,hx,h2⟩
   ·exact hn k (h1 k h2)
   ·have ke:=H.back i o ho x (h1 x hx)
    have hxs:x<ops.size:=by have:=(Array.getElem?_eq_some_iff.1 ho).1;omega
    have Fh:=Array.getElem?_eq_getElem hxs
    exact ih x ke _ Fh (hc x _ Fh (hn x (h1 x hx))) k h2
structure Inv (l:List bF) (es:List EN) (s0:St) (L:Nat→Bool) (en:Nat→SV) (hp:Hp):Prop where
 env:∀ m,∃ k,k≤l.length∧en m=lk (fK l es s0 k).env m∧(∀ (i:Nat) (op:bF),i<k→l[i]?=some op→op.dst=some m→L i=true)∧(∀ (i:Nat) (op:bF),k≤i→l[i]?=some op→op.dst=some m→L i=false)
 heap:∀ id,∃ k,k≤l.length∧hp id=aB (fK l es s0 k).h id∧(∀ (i:Nat) (op:bF) (e:EN),i<k→l[i]?=some op→es[i]?=some e→id∈(iV op e).us→L i=true)∧(∀ (i:Nat) (op:bF) (e:EN),k≤i→l[i]?=some op→es[i]?=some e→id∈(iV op e).us→L i=false)
theorem jC.AF (H:jC P ops N l es s0 s1 aV) (m i:Nat) (h:∀ op,l[i]?=some op→op.dst≠some m):lk (fK l es s0 (i+1)).env m=lk (fK l es s0 i).env m:=by
 cases hi:l[i]? with
 | none=>
   have hlen:∀ (l:List bF) (es:List EN) (s:St) (i:Nat),l.length≤i→fK l es s (i+1)=fK l es s i:=by
    intro l
    induction l with
    | nil=>intro es s i _;cases i <;> rfl
    | cons op l ih=>
      intro es s i hi
      cases es with
      | nil=>cases i <;> rfl
      | cons e es=>
        cases i with
        | zero=>simp at hi
        | succ i=>simp only [fK];exact ih es _ i (by simpa using hi)
   rw [hlen l es s0 i (List.getElem?_eq_none_iff.1 hi)]
 | some op=>
   obtain ⟨e,_,h2,_⟩:=H.tr.at_ i op hi
   rw [h2]
   have hd:=h op hi
   have hput:∀ v,lk (gf op.dst v (fK l es s0 i).env) m=lk (fK l es s0 i).env m:=fun v=>by
    cases lA:op.dst with
    | none=>rfl
    | some d=>
      rw [lA] at hd
      rw [gf,wk,gi _ _ (fun e=>hd (by rw [e]))]
   cases e <;> exact hput _
theorem jC.Bd (H:jC P ops N l es s0 s1 aV) (id i:Nat) (h:∀ op e,l[i]?=some op→es[i]?=some e→id∉(iV op e).us):aB (fK l es s0 (i+1)).h id=aB (fK l es s0 i).h id:=by
 cases hi:l[i]? with
 | none=>
   have hlen:∀ (l:List bF) (es:List EN) (s:St) (i:Nat),l.length≤i→fK l es s (i+1)=fK l es s i:=by
    intro l
    induction l with
    | nil=>intro es s i _;cases i <;> rfl
    | cons op l ih=>
      intro es s i hi
      cases es with
      | nil=>cases i <;> rfl
      | cons e es=>
        cases i with
        | zero=>simp at hi
        | succ i=>simp only [fK];exact ih es _ i (by simpa using hi)
   rw [hlen l es s0 i (List.getElem?_eq_none_iff.1 hi)]
 | some op=>
   obtain ⟨e,he,h2,h3⟩:=H.tr.at_ i op hi
   rw [h2]
   have hd:=h op e hi he
   cases e with
   | skip=>rfl
   | run args pre us sv=>
     obtain ⟨_,_,_,_,hk⟩:=h3
     show aB (lZ (fK l es s0 i).h us) id=_
     rw [(vp hk).1]
     exact td (fun q hq he=>hd (List.mem_map.2 ⟨q,hq,he⟩))
theorem jC.Jd (H:jC P ops N l es s0 s1 aV) {L:Nat→Bool} (hc:qv ops L) {j:Nat} {op:bF} {o:Oper} (hj:l[j]?=some op) (ho:ops[j]?=some o) (hL:L j=false) (hn:∀ k∈jN o,L k=true)
 {m:Nat} (hm:m∈oJ op∨op.dst=some m) (i:Nat) (ck:bF) (hi:l[i]?=some ck) (hd:ck.dst=some m):(i<j→L i=true)∧(j<i→L i=false):=by
 obtain ⟨e,he,_⟩:=H.tr.at_ j op hj
 have hlen:=H.tr.length
 have fG:i<es.length:=by rw [hlen];exact (List.getElem?_eq_some_iff.1 hi).1
 have iS:=List.getElem?_eq_getElem fG
 have hdt:∀ e,(iV ck e).dst=some m:=fun e=>by cases e <;> exact hd
 have Fo:∀ e,(iV op e).fD=oJ op:=fun e=>by cases e <;> rfl
 have ER:∀ e,(iV op e).dst=op.dst:=fun e=>by cases e <;> rfl
 refine ⟨fun hij=>?_,fun hji=>?_⟩
 ·rcases H.ok i j ck op _ e hij hi hj iS he with h | h
  ·exact H.xy hc j o ho hn i h
  ·exfalso
   simp only [mQ,Bool.and_eq_true] at h
   have ha:=h.1.1.1.1
   rw [hdt] at ha
   rw [Fo,ER] at ha
   rcases hm with hm | hm
   ·simp [hm] at ha
   ·simp [hm] at ha
 ·cases AR:L i with
  | false=>rfl
  | true=>
    exfalso
    rcases H.ok j i op ck e _ hji hj hi he iS with h | h
    ·have kR:=Array.getElem?_eq_getElem (xs:=ops) (i:=i) (by rw [H.size,← hlen];exact fG)
     have:=H.xy hc i _ kR (hc i _ kR AR) j h
     rw [hL] at this;cases this
    ·simp only [mQ,Bool.and_eq_true] at h
     have hb:=h.1.1.1.2
     have ha:=h.1.1.1.1
     rw [hdt] at hb
     rw [Fo] at hb
     rw [ER,hdt] at ha
     rcases hm with hm | hm
     ·simp [hm] at hb
     ·simp [hm] at ha
theorem jC.SY (H:jC P ops N l es s0 s1 aV) {L:Nat→Bool} (hc:qv ops L) {en:Nat→SV} {hp:Hp} (I:Inv l es s0 L en hp) {j:Nat} {op:bF} {o:Oper} (hj:l[j]?=some op) (ho:ops[j]?=some o) (hL:L j=false) (hn:∀ k∈jN o,L k=true)
 {m:Nat} (hm:m∈oJ op∨op.dst=some m):en m=lk (fK l es s0 j).env m:=by
 obtain ⟨k,hk,h1,h2,h3⟩:=I.env m
 rw [h1]
 have hw:=H.Jd hc hj ho hL hn hm
 by_cases yF:k≤j
 ·refine (uz (fun i=>lk (fK l es s0 i).env m) (fun i=>∃ ck,l[i]?=some ck∧ck.dst=some m) (fun i hi=>H.AF m i (fun op ho hd=>hi ⟨op,ho,hd⟩)) yF (fun i hi1 hi2 ⟨ck,ho,hd⟩=>?_)).symm
  have:=h3 i ck hi1 ho hd
  rw [(hw i ck ho hd).1 hi2] at this;cases this
 ·refine uz (fun i=>lk (fK l es s0 i).env m) (fun i=>∃ ck,l[i]?=some ck∧ck.dst=some m) (fun i hi=>H.AF m i (fun op ho hd=>hi ⟨op,ho,hd⟩)) (by omega) (fun i hi1 hi2 ⟨ck,ho,hd⟩=>?_)
  have:=h2 i ck hi2 ho hd
  by_cases hij:i=j
  ·subst hij;rw [hL] at this;cases this
  ·rw [(hw i ck ho hd).2 (by omega)] at this;cases this
theorem jC.Jf (H:jC P ops N l es s0 s1 aV) {L:Nat→Bool} (hc:qv ops L) {j:Nat} {op:bF} {e:EN} {o:Oper} (hj:l[j]?=some op) (he:es[j]?=some e) (ho:ops[j]?=some o) (hL:L j=false) (hn:∀ k∈jN o,L k=true)
 {id:Nat} (hm:id∈(iV op e).pre∨id∈(iV op e).us) (i:Nat) (ck:bF) (ei:EN) (hi:l[i]?=some ck) (iS:es[i]?=some ei) (hd:id∈(iV ck ei).us):(i<j→L i=true)∧(j<i→L i=false):=by
 have hlen:=H.tr.length
 refine ⟨fun hij=>?_,fun hji=>?_⟩
 ·rcases H.ok i j ck op _ e hij hi hj iS he with h | h
  ·exact H.xy hc j o ho hn i h
  ·exfalso
   simp only [mQ,Bool.and_eq_true] at h
   rcases hm with hm | hm
   ·exact xZ h.1.1.2 hd hm
   ·exact xZ h.1.2 hd hm
 ·cases AR:L i with
  | false=>rfl
  | true=>
    exfalso
    rcases H.ok j i op ck e _ hji hj hi he iS with h | h
    ·have fG:i<es.length:=(List.getElem?_eq_some_iff.1 iS).1
     have kR:=Array.getElem?_eq_getElem (xs:=ops) (i:=i) (by rw [H.size,← hlen];exact fG)
     have:=H.xy hc i _ kR (hc i _ kR AR) j h
     rw [hL] at this;cases this
    ·simp only [mQ,Bool.and_eq_true] at h
     rcases hm with hm | hm
     ·exact xZ h.2 hd hm
     ·exact xZ h.1.2 hm hd
theorem jC.HC (H:jC P ops N l es s0 s1 aV) {L:Nat→Bool} (hc:qv ops L) {en:Nat→SV} {hp:Hp} (I:Inv l es s0 L en hp) {j:Nat} {op:bF} {e:EN} {o:Oper} (hj:l[j]?=some op) (he:es[j]?=some e) (ho:ops[j]?=some o) (hL:L j=false) (hn:∀ k∈jN o,L k=true)
 {id:Nat} (hm:id∈(iV op e).pre∨id∈(iV op e).us):hp id=aB (fK l es s0 j).h id:=by
 obtain ⟨k,hk,h1,h2,h3⟩:=I.heap id
 rw [h1]
 have hw:=H.Jf hc hj he ho hL hn hm
 by_cases yF:k≤j
 ·refine (uz (fun i=>aB (fK l es s0 i).h id) (fun i=>∃ ck ei,l[i]?=some ck∧es[i]?=some ei∧id∈(iV ck ei).us) (fun i hi=>H.Bd id i (fun op e ho he hd=>hi ⟨op,e,ho,he,hd⟩)) yF (fun i hi1 hi2 ⟨ck,ei,ho,iS,hd⟩=>?_)).symm
  have:=h3 i ck ei hi1 ho iS hd
  rw [(hw i ck ei ho iS hd).1 hi2] at this;cases this
 ·refine uz (fun i=>aB (fK l es s0 i).h id) (fun i=>∃ ck ei,l[i]?=some ck∧es[i]?=some ei∧id∈(iV ck ei).us) (fun i hi=>H.Bd id i (fun op e ho he hd=>hi ⟨op,e,ho,he,hd⟩)) (by omega) (fun i hi1 hi2 ⟨ck,ei,ho,iS,hd⟩=>?_)
  have:=h2 i ck ei hi2 ho iS hd
  by_cases hij:i=j
  ·subst hij;rw [hL] at this;cases this
  ·rw [(hw i ck ei ho iS hd).2 (by omega)] at this;cases this
def lX (L:Nat→Bool) (j:Nat):Nat→Bool:=fun i=>if i=j then true else L i
theorem jC.FE (H:jC P ops N l es s0 s1 aV) {L:Nat→Bool} (hc:qv ops L) {en:Nat→SV} {hp:Hp} (I:Inv l es s0 L en hp) {j:Nat} {op:bF} {e:EN} {o:Oper} (hj:l[j]?=some op) (he:es[j]?=some e) (ho:ops[j]?=some o) (hL:L j=false) (hn:∀ k∈jN o,L k=true)
 {pZ:Nat→SV} {aD:Hp} (h1:∀ m,op.dst=some m→pZ m=lk (fK l es s0 (j+1)).env m) (h2:∀ m,op.dst≠some m→pZ m=en m) (h3:∀ id,id∈(iV op e).us→aD id=aB (fK l es s0 (j+1)).h id) (h4:∀ id,id∉(iV op e).us→aD id=hp id) :
 Inv l es s0 (lX L j) pZ aD:=by
 have hjl:=(List.getElem?_eq_some_iff.1 hj).1
 have zR:∀ i,L i=true→lX L j i=true:=fun i h=>by unfold lX;split <;> simp [h]
 refine ⟨fun m=>?_,fun id=>?_⟩
 ·by_cases hm:op.dst=some m
  ·have hw:=H.Jd hc hj ho hL hn (.inr hm)
   refine ⟨j+1,by omega,h1 m hm,fun i ck hi ho hd=>?_,fun i ck hi ho hd=>?_⟩
   ·by_cases hij:i=j
    ·subst hij;simp [lX]
    ·exact zR i ((hw i ck ho hd).1 (by omega))
   ·unfold lX
    rw [if_neg (by omega)]
    exact (hw i ck ho hd).2 (by omega)
  ·obtain ⟨k,g1,g2,g3,g4⟩:=I.env m
   refine ⟨k,g1,(h2 m hm).trans g2,fun i ck hi ho hd=>zR i (g3 i ck hi ho hd),fun i ck hi kR hd=>?_⟩
   unfold lX
   by_cases hij:i=j
   ·subst hij;rw [hj] at kR;cases kR;exact absurd hd hm
   ·rw [if_neg hij];exact g4 i ck hi kR hd
 ·by_cases hm:id∈(iV op e).us
  ·have hw:=H.Jf hc hj he ho hL hn (.inr hm)
   refine ⟨j+1,by omega,h3 id hm,fun i ck ei hi ho iS hd=>?_,fun i ck ei hi ho iS hd=>?_⟩
   ·by_cases hij:i=j
    ·subst hij;simp [lX]
    ·exact zR i ((hw i ck ei ho iS hd).1 (by omega))
   ·unfold lX
    rw [if_neg (by omega)]
    exact (hw i ck ei ho iS hd).2 (by omega)
  ·obtain ⟨k,g1,g2,g3,g4⟩:=I.heap id
   refine ⟨k,g1,(h4 id hm).trans g2,fun i ck ei hi ho iS hd=>zR i (g3 i ck ei hi ho iS hd),fun i ck ei hi kR iS hd=>?_⟩
   unfold lX
   by_cases hij:i=j
   ·subst hij;rw [hj] at kR;cases kR;rw [he] at iS;cases iS;exact absurd hd hm
   ·rw [if_neg hij];exact g4 i ck ei hi kR iS hd
theorem jC.Oo (H:jC P ops N l es s0 s1 aV) {L:Nat→Bool} {en:Nat→SV} {hp:Hp} (I:Inv l es s0 L en hp) (hall:∀ i,i<l.length→L i=true):en=lk s1.env∧hp=aB s1.h:=by
 have Fc:=H.tr.last
 refine ⟨funext fun m=>?_,funext fun id=>?_⟩
 ·obtain ⟨k,g1,g2,g3,g4⟩:=I.env m
  rw [g2,← Fc]
  refine (uz (fun i=>lk (fK l es s0 i).env m) (fun i=>∃ ck,l[i]?=some ck∧ck.dst=some m) (fun i hi=>H.AF m i (fun op ho hd=>hi ⟨op,ho,hd⟩)) g1 (fun i hi1 hi2 ⟨ck,ho,hd⟩=>?_)).symm
  have:=g4 i ck hi1 ho hd
  rw [hall i hi2] at this;cases this
 ·obtain ⟨k,g1,g2,g3,g4⟩:=I.heap id
  rw [g2,← Fc]
  refine (uz (fun i=>aB (fK l es s0 i).h id) (fun i=>∃ ck ei,l[i]?=some ck∧es[i]?=some ei∧id∈(iV ck ei).us) (fun i hi=>H.Bd id i (fun op e ho he hd=>hi ⟨op,e,ho,he,hd⟩)) g1 (fun i hi1 hi2 ⟨ck,ei,ho,iS,hd⟩=>?_)).symm
  have:=g4 i ck ei hi1 ho iS hd
  rw [hall i hi2] at this;cases this
def Lf (listed:Array Bool) (i:Nat):Bool:=listed.getD i false
theorem Co {listed:Array Bool} (hs:listed.size=ops.size) {i:Nat}:i∈Region.ready .any ops listed↔i<ops.size∧Lf listed i=false∧∀ o,ops[i]?=some o→∀ k∈jN o,Lf listed k=true:=by
 unfold Region.ready
 rw [List.mem_filter,List.mem_range]
 constructor
 ·rintro ⟨h1,h2⟩
  simp only [Bool.and_eq_true,Bool.not_eq_true'] at h2
  refine ⟨h1,?_,fun o ho k hk=>?_⟩
  ·have:=h2.1
   simp only [Lf,Array.getD_eq_getD_getElem?] at this ⊢
   cases hx:listed[i]? with
   | none=>simp [hx] at this
   | some x=>simp [hx] at this ⊢;exact this
  ·have h3:=h2.2
   rw [ho] at h3
   simp only [Option.map_some,Option.getD_some,Array.all_eq_true'] at h3
   unfold jN at hk
   obtain ⟨e,he,rfl⟩:=List.mem_map.1 hk
   obtain ⟨sB,Nn⟩:=List.mem_filter.1 he
   have:=h3 e (by simpa using sB)
   simp [Nn] at this
   simpa [Lf] using this
 ·rintro ⟨h1,h2,h3⟩
  refine ⟨h1,?_⟩
  have ho:=Array.getElem?_eq_getElem h1
  simp only [Bool.and_eq_true,Bool.not_eq_true']
  refine ⟨?_,?_⟩
  ·simp only [Lf,Array.getD_eq_getD_getElem?] at h2 ⊢
   have hx:=Array.getElem?_eq_getElem (xs:=listed) (i:=i) (by omega)
   rw [hx] at h2 ⊢
   exact h2
  ·rw [ho]
   simp only [Option.map_some,Option.getD_some,Array.all_eq_true']
   intro e he
   cases hb:Region.binds .any e with
   | false=>simp
   | true=>
     have:=h3 _ ho e.on (List.mem_map.2 ⟨e,List.mem_filter.2 ⟨by simpa using he,hb⟩,rfl⟩)
     simpa [Lf] using this
theorem Se {xs:List XO} {n:Nat} (h:XO.t n∈xs):n∈nO xs:=by
 induction xs with
 | nil=>simp at h
 | cons x r ih=>
   rcases List.mem_cons.1 h with rfl | h'
   ·simp [nO]
   ·cases x with
    | t m=>simp [nO,ih h']
    | c s=>exact ih h'
theorem Lx {en pZ:Nat→SV} {xs:List XO} (h:∀ n,n∈nO xs→en n=pZ n):xs.map (iY en)=xs.map (iY pZ):=by
 refine List.map_congr_left (fun x hx=>?_)
 cases x with
 | t n=>exact h n (Se hx)
 | c s=>rfl
theorem LY {en pZ:Nat→SV} {op:bF} (h:∀ n,n∈oJ op→en n=pZ n):kQ en op.guard=kQ pZ op.guard:=by
 cases hg:op.guard with
 | none=>rfl
 | some q=>
   obtain ⟨d,b⟩:=q
   simp only [kQ]
   rw [h d (by simp [oJ,hg])]
theorem Tt (H:jC P ops N l es s0 s1 aV) {C:Ctx} (hN:C.N=N) {n0:Nat} (hn0:n0≤s0.h.length) (Nv:∀ id,n0≤id→C.h0 id=none) {Q:Exit→Act→World→Prop} (hQ:∀ a w aa,jS C (lk s1.env) (aB s1.h) a w aa→Q .normal a w) :
 ∀ (fuel:Nat) (listed:Array Bool) (en:Nat→SV) (hp:Hp) (a:Act) (w:World) (aa:Nat→Option Nat),listed.size=ops.size→cnt (Lf listed) l.length≤fuel→qv ops (Lf listed)→Inv l es s0 (Lf listed) en hp→jS C en hp a w aa→
  wpAny P .any ops Q fuel listed a w:=by
 have Nb:∀ listed:Array Bool,listed.size=ops.size→Region.ready .any ops listed=[]→∀ i,i<l.length→Lf listed i=true:=fun listed hs hr i=>by
  induction i using Nat.strongRecOn with
  | _ i ih=>
    intro hi
    cases hL:Lf listed i with
    | true=>rfl
    | false=>
      have:i∈Region.ready .any ops listed:=(Co hs).2 ⟨by rw [H.size];exact hi,hL,fun o ho k hk=>ih k (H.back i o ho k hk) (by have:=H.back i o ho k hk;omega)⟩
      rw [hr] at this;cases this
 have vo:∀ (listed:Array Bool) (en:Nat→SV) (hp:Hp) (a:Act) (w:World) (aa:Nat→Option Nat),(∀ i,i<l.length→Lf listed i=true)→Inv l es s0 (Lf listed) en hp→jS C en hp a w aa→Q .normal a w:=fun listed en hp a w aa hall I R=>by
  obtain ⟨rfl,rfl⟩:=H.Oo I hall
  exact hQ a w aa R
 intro fuel
 induction fuel with
 | zero=>
   intro listed en hp a w aa hs vk hc I R
   have hall:=DO (Nat.le_zero.1 vk)
   refine ⟨?_,vo listed en hp a w aa hall I R⟩
   cases hr:Region.ready .any ops listed with
   | nil=>rfl
   | cons i r=>
     have hm:i∈Region.ready .any ops listed:=by rw [hr];simp
     obtain ⟨h1,h2,_⟩:=(Co hs).1 hm
     rw [hall i (by rw [← H.size];exact h1)] at h2;cases h2
 | succ fuel ih=>
   intro listed en hp a w aa hs vk hc I R
   refine ⟨fun hr=>vo listed en hp a w aa (Nb listed hs hr) I R,fun j hj=>?_⟩
   obtain ⟨EY,hL,hn⟩:=(Co hs).1 hj
   have hjl:j<l.length:=by rw [← H.size];exact EY
   have hop:=List.getElem?_eq_getElem hjl
   obtain ⟨o,ho,mw⟩:=H.comp j _ hop
   obtain ⟨e,he,hst,Fp⟩:=H.tr.at_ j _ hop
   obtain ⟨gC,qI,lK,tU,tV⟩:=Ap mw
   have hn':=hn o ho
   have hrd:∀ m,m∈oJ l[j]→en m=lk (fK l es s0 j).env m:=fun m hm=>H.SY hc I hop ho hL hn' (.inl hm)
   have EX:=LY hrd
   have yu:Lf (listed.setIfInBounds j true)=lX (Lf listed) j:=by
    funext i
    simp only [Lf,lX,Array.getD_eq_getD_getElem?,Array.getElem?_setIfInBounds]
    by_cases hij:j=i
    ·subst hij;simp [hs,EY]
    ·rw [if_neg hij,if_neg (Ne.symm hij)]
   have EM:cnt (Lf (listed.setIfInBounds j true)) l.length≤fuel:=by
    rw [yu]
    have:=DN (L:=Lf listed) (L':=lX (Lf listed) j) hL (by simp [lX]) (fun i hi=>by simp [lX,hi]) hjl
    omega
   have nB:qv ops (Lf (listed.setIfInBounds j true)):=by
    rw [yu]
    intro i oi kR hi k hk
    unfold lX at hi ⊢
    by_cases hij:i=j
    ·subst hij
     rw [ho] at kR;cases kR
     split
     ·rfl
     ·exact hn' k hk
    ·rw [if_neg hij] at hi
     split
     ·rfl
     ·exact hc i oi kR hi k hk
   unfold wpOp
   rw [ho]
   simp only
   cases e with
   | skip=>
     have hg:kQ en l[j].guard=some false:=by rw [EX];exact Fp
     have hw:=AQ R mw hg
     rw [if_neg (by rw [hw];simp)]
     have Bc:∀ m,l[j].dst=some m→m<C.N:=fun m hm=>by rw [hN];exact tV m hm
     have R':jS C (match l[j].dst with | some d=>up en d (.aO []) | none=>en) hp (a.put o.dst undef) w aa:=by
      rw [tU]
      cases hd:l[j].dst with
      | none=>exact R
      | some d=>exact R.put (Bc d hd) HH
     refine ih _ _ _ _ _ _ (by simpa using hs) EM nB ?_ R'
     rw [yu]
     refine H.FE hc I hop he ho hL hn' (fun m hm=>?_) (fun m hm=>?_) (fun id hid=>by simp [iV] at hid) (fun id _=>rfl)
     ·rw [hst]
      show _=lk (gf l[j].dst (.aO []) (fK l es s0 j).env) m
      rw [hm];simp only [gf,wk,cq]
     ·cases hd:l[j].dst with
      | none=>rfl
      | some d=>rw [hd] at hm;exact gi _ _ (fun e=>hm (by rw [e]))
   | run args pre us sv=>
     obtain ⟨t1,t2,t3,t4,t5⟩:=Fp
     have hg:kQ en l[j].guard=some true:=by rw [EX];exact t1
     have hw:=AQ R mw hg
     rw [if_pos hw]
     left
     have NL:∀ m,m∈nO l[j].xs→en m=lk (fK l es s0 j).env m:=fun m hm=>hrd m (by
      unfold oJ
      cases l[j].guard with
      | none=>exact hm
      | some q=>exact List.mem_cons_of_mem _ hm)
     have hargs:args=l[j].xs.map (iY en):=by rw [t2];exact (Lx NL).symm
     have hpre:∀ id,id∈pre.map (·.1)→hp id=aB (fK l es s0 j).h id:=fun id hid=>H.HC hc I hop he ho hL hn' (.inl hid)
     have jZ:∀ id,id∈us.map (·.1)→hp id=aB (fK l es s0 j).h id:=fun id hid=>H.HC hc I hop he ho hL hn' (.inr hid)
     have Wl:=IF P ops H.tr j (by omega)
     have hnew:rM C hp pre us:=by
      have gen:∀ {us:List (Nat×HB)} {h:List (Option HB)},(fK l es s0 j).h.length≤h.length→aZ pre h us→∀ q∈us,(∃ hb,(q.1,hb)∈pre)∨(fK l es s0 j).h.length≤q.1:=by
       intro us
       induction us with
       | nil=>intro h _ _ q hq;simp at hq
       | cons p r Oc=>
         intro h hl hk q hq
         rcases List.mem_cons.1 hq with rfl | hq
         ·rcases hk.1 with h1 | ⟨_,h1⟩
          ·exact .inr (by omega)
          ·exact .inl h1
         ·exact Oc (h:=aR h p) (by have:=uG h p;omega) hk.2 q hq
      intro q hq
      rcases gen (Nat.le_refl _) t5 q hq with h | h
      ·exact .inl h
      ·refine .inr ⟨?_,Nv _ (by omega)⟩
       rw [jZ q.1 (List.mem_map.2 ⟨q,hq,rfl⟩)]
       unfold aB
       rw [List.getElem?_eq_none (by omega)]
     refine t3 o (by simpa using ho) C hp w aa a _ _ _ _ qI (fun q hq=>?_) hnew R.mem (by rw [hargs];exact xw R lK) (fun v w' aJ hS hR=>?_)
     ·rw [hpre q.1 (List.mem_map.2 ⟨q,hq,rfl⟩)];exact t4 q hq
     ·have Bc:∀ m,l[j].dst=some m→m<C.N:=fun m hm=>by rw [hN];exact tV m hm
      have R':jS C (match l[j].dst with | some d=>up en d sv | none=>en) (bM hp us) (a.put o.dst v) w' aJ:=by
       rw [tU]
       have RS:=R.step hS
       cases hd:l[j].dst with
       | none=>exact RS
       | some d=>exact RS.put (Bc d hd) hR
      refine ih _ _ _ _ _ _ (by simpa using hs) EM nB ?_ R'
      rw [yu]
      refine H.FE hc I hop he ho hL hn' (fun m hm=>?_) (fun m hm=>?_) (fun id hid=>?_) (fun id hid=>?_)
      ·rw [hst]
       show _=lk (gf l[j].dst sv (fK l es s0 j).env) m
       rw [hm];simp only [gf,wk,cq]
      ·cases hd:l[j].dst with
       | none=>rfl
       | some d=>rw [hd] at hm;exact gi _ _ (fun e=>hm (by rw [e]))
      ·rw [hst]
       show _=aB (lZ (fK l es s0 j).h us) id
       rw [(vp t5).1]
       exact wQ hid
      ·exact td (fun q hq he=>hid (List.mem_map.2 ⟨q,hq,he⟩))
end
end Go.aL

namespace Go.aL
open Go
def nU:List Oper→List Nat→List Nat
 | [],acc=>acc
 | o::r,acc=>nU r (acc++[(jN o).foldl (fun m k=>m ||| 2 ^ k ||| acc.getD k 0) 0])
theorem EA (acc:List Nat) (k:Nat):∀ (l:List Nat) (m:Nat),(l.foldl (fun m k=>m ||| 2 ^ k ||| acc.getD k 0) m).testBit k=true→m.testBit k=true∨k∈l∨∃ x∈l,(acc.getD x 0).testBit k=true
 | [],m,h=>.inl h
 | x::l,m,h=>by
   rw [List.foldl_cons] at h
   rcases EA acc k l _ h with h | h | ⟨y,hy,h⟩
   ·rw [Nat.testBit_or,Nat.testBit_or,Nat.testBit_two_pow] at h
    simp only [Bool.or_eq_true,decide_eq_true_eq] at h
    rcases h with (h | h) | h
    ·exact .inl h
    ·exact .inr (.inl (by simp [h]))
    ·exact .inr (.inr ⟨x,by simp,h⟩)
   ·exact .inr (.inl (by simp [h]))
   ·exact .inr (.inr ⟨y,by simp [hy],h⟩)
theorem Ab:∀ (ops:List Oper) (acc:List Nat) (x:Nat),x<acc.length→(nU ops acc).getD x 0=acc.getD x 0
 | [],acc,x,_=>rfl
 | o::r,acc,x,h=>by
   unfold nU
   rw [Ab r _ x (by simp;omega)]
   simp only [List.getD_eq_getElem?_getD,List.getElem?_append_left h]
theorem Dn:∀ (ops:List Oper) (acc:List Nat) (i:Nat) (o:Oper),ops[i]?=some o→∀ k,((nU ops acc).getD (acc.length+i) 0).testBit k=true→k∈jN o∨∃ x∈jN o,((nU ops acc).getD x 0).testBit k=true
 | [],acc,i,o,h,k,_=>by simp at h
 | p::r,acc,i,o,h,k,hk=>by
   cases i with
   | zero=>
     simp only [List.getElem?_cons_zero,Option.some.injEq] at h
     subst h
     unfold nU at hk ⊢
     rw [Ab r _ _ (by simp)] at hk
     simp only [Nat.add_zero,List.getD_eq_getElem?_getD,List.getElem?_concat_length,Option.getD_some] at hk
     rcases EA acc k (jN p) 0 (by simpa [List.getD_eq_getElem?_getD] using hk) with hk | hk | ⟨x,hx,hk⟩
     ·simp at hk
     ·exact .inl hk
     ·refine .inr ⟨x,hx,?_⟩
      have hl:x<acc.length:=by
       by_cases hl:x<acc.length
       ·exact hl
       ·rw [List.getD_eq_getElem?_getD,List.getElem?_eq_none (by omega)] at hk;simp at hk
      rw [Ab r _ x (by simp;omega)]
      simp only [List.getD_eq_getElem?_getD,List.getElem?_append_left hl]
      simpa [List.getD_eq_getElem?_getD] using hk
   | succ i=>
     unfold nU at hk ⊢
     refine Dn r _ i o (by simpa using h) k ?_
     have:(acc++[(jN p).foldl (fun m k=>m ||| 2 ^ k ||| acc.getD k 0) 0]).length+i=acc.length+(i+1):=by simp;omega
     rw [this];exact hk
def qE (aV:List Nat) (i:Nat) (x:TE):Nat→List TE→Bool
 | _,[]=>true
 | j,y::r=>((aV.getD j 0).testBit i || mQ x y) && qE aV i x (j+1) r
def oW (aV:List Nat):Nat→List TE→Bool
 | _,[]=>true
 | i,x::r=>qE aV i x (i+1) r && oW aV (i+1) r
theorem DR {aV:List Nat} {i:Nat} {x:TE}:∀ {l:List TE} {j:Nat},qE aV i x j l=true→∀ (k:Nat) (y:TE),l[k]?=some y→(aV.getD (j+k) 0).testBit i=true∨mQ x y=true
 | [],j,_,k,y,h=>by simp at h
 | z::r,j,hc,k,y,h=>by
   simp only [qE,Bool.and_eq_true,Bool.or_eq_true] at hc
   cases k with
   | zero=>simp at h;subst h;exact hc.1
   | succ k=>
     have:=DR hc.2 k y (by simpa using h)
     rwa [show j+1+k=j+(k+1) by omega] at this
theorem DS {aV:List Nat}:∀ {l:List TE} {i:Nat},oW aV i l=true→∀ (a b:Nat) (x y:TE),a<b→l[a]?=some x→l[b]?=some y→(aV.getD (i+b) 0).testBit (i+a)=true∨mQ x y=true
 | [],i,_,a,b,x,y,_,h,_=>by simp at h
 | z::r,i,hc,a,b,x,y,hab,hx,hy=>by
   simp only [oW,Bool.and_eq_true] at hc
   cases b with
   | zero=>omega
   | succ b=>
     simp only [List.getElem?_cons_succ] at hy
     cases a with
     | zero=>
       simp at hx;subst hx
       have:=DR hc.1 b y hy
       rwa [show i+1+b=i+(b+1) by omega] at this
     | succ a=>
       simp only [List.getElem?_cons_succ] at hx
       have:=DS hc.2 a b x y (by omega) hx hy
       rwa [show i+1+b=i+(b+1) by omega,show i+1+a=i+(a+1) by omega] at this
def Ac (n:Nat) (aV:List Nat):List (List Nat):=aV.map fun m=>(List.range n).filter fun k=>m.testBit k
theorem BX {n:Nat} {aV:List Nat} {i k:Nat}:k∈(Ac n aV).getD i []↔k<n∧(aV.getD i 0).testBit k=true:=by
 unfold Ac
 rw [List.getD_eq_getElem?_getD,List.getElem?_map,List.getD_eq_getElem?_getD]
 cases h:aV[i]? with
 | none=>simp
 | some m=>simp
def uP:Nat→List Oper→Bool
 | _,[]=>true
 | i,o::r=>(jN o).all (·< i) && uP (i+1) r
theorem Dl:∀ {ops:List Oper} {i:Nat},uP i ops=true→∀ (j:Nat) (o:Oper),ops[j]?=some o→∀ k∈jN o,k<i+j
 | [],i,_,j,o,h,_,_=>by simp at h
 | p::r,i,hb,j,o,h,k,hk=>by
   simp only [uP,Bool.and_eq_true,List.all_eq_true,decide_eq_true_eq] at hb
   cases j with
   | zero=>simp at h;subst h;exact hb.1 k hk
   | succ j=>have:=Dl hb.2 j o (by simpa using h) k hk;omega
def CS:Option (Nat×HB)→List Nat
 | none=>[]
 | some q=>[q.1]
def oP (P:Program) (f:FuncId) (args:List SV) (h:List (Option HB)) (K:SV→List (Option HB)→List Nat→List Nat→Prop):Prop:=
 ∃ pre us sv,aK P f args pre us sv∧aT (aB h) pre∧aZ pre h us∧K sv (lZ h us) (pre.map (·.1)) (us.map (·.1))
def xK (P:Program) (h:List (Option HB)) (K:SV→List (Option HB)→List Nat→List Nat→Prop):List SV→Prop
 | .fn f caps::args=>oP P f (args++caps) h K
 | .fF f caps::args=>oP P f (caps++args) h K
 | _=>False
def vQ (P:Program) (name:String) (h:List (Option HB)) (K:SV→List (Option HB)→List Nat→List Nat→Prop):List SV→Prop
 | s::args=>match oz s with
   | some (t,x)=>match oB P t name with
     | some (f,none)=>oP P f (x::args) h K
     | some (f,some (n,agg))=>match ij n agg (aB h) x with
       | some (p,y,_,rd)=>p∧oP P f (y::args) h fun sv h' pre us=>K sv h' (rd++pre) us
       | none=>False
     | none=>False
   | none=>False
 | _=>False
def zp (h:List (Option HB)) (K:SV→List (Option HB)→List Nat→List Nat→Prop):XR→Prop
 | some (p,sv,u,rd)=>p∧K sv (wP h u) rd (CS u)
 | none=>False
def sQ (P:Program) (ao:AO) (args:List SV) (h:List (Option HB)) (K:SV→List (Option HB)→List Nat→List Nat→Prop):Prop:=
 match ao with
 | .call f=>oP P f args h K
 | .nZ=>xK P h K args
 | .inv name=>vQ P name h K args
 | ao=>zp h K (bY ao args (aB h) h.length)
def RD (P:Program) (aV:List Nat) (K:St→Prop):List bF→List TE→St→Prop
 | [],acc,s=>oW aV 0 acc=true∧K s
 | op::r,acc,s=>match kQ (lk s.env) op.guard with
   | some true=>sQ P op.ao (op.xs.map (iY (lk s.env))) s.h fun sv h' pre us=>RD P aV K r (acc++[⟨oJ op,op.dst,pre,us⟩]) ⟨gf op.dst sv s.env,h'⟩
   | some false=>RD P aV K r (acc++[⟨oJ op,op.dst,[],[]⟩]) ⟨gf op.dst (.aO []) s.env,s.h⟩
   | none=>False
theorem Cm {hp:Hp}:∀ {rd:List Nat},(∀ id∈rd,(hp id).isSome=true)→(rd.filterMap fun id=>(hp id).map fun hb=>(id,hb)).map (·.1)=rd
 | [],_=>rfl
 | x::r,h=>by
   obtain ⟨hb,hx⟩:=Option.isSome_iff_exists.1 (h x (by simp))
   simp only [List.filterMap_cons,hx,Option.map_some,List.map_cons]
   rw [Cm (fun id hid=>h id (by simp [hid]))]
theorem Sq {P:Program} {o:Oper} {ao:AO} {gC:List Operand} (hc:kP P o.op=some (ao,gC)) {args:List SV} {h:List (Option HB)} {K:SV→List (Option HB)→List Nat→List Nat→Prop} (hW:sQ P ao args h K) :
 ∃ pre us sv,oR P o args pre us sv∧aT (aB h) pre∧aZ pre h us∧K sv (lZ h us) (pre.map (·.1)) (us.map (·.1)):=by
 unfold sQ at hW
 split at hW
 ·obtain ⟨pre,us,sv,h1,h2,h3,h4⟩:=hW
  exact ⟨pre,us,sv,GO hc h1,h2,h3,h4⟩
 ·unfold xK at hW
  split at hW
  ·obtain ⟨pre,us,sv,h1,h2,h3,h4⟩:=hW
   exact ⟨pre,us,sv,GQ hc h1,h2,h3,h4⟩
  ·obtain ⟨pre,us,sv,h1,h2,h3,h4⟩:=hW
   exact ⟨pre,us,sv,GP hc h1,h2,h3,h4⟩
  ·exact hW.elim
 ·unfold vQ at hW
  split at hW
  ·rename_i s iO
   split at hW
   ·rename_i t x hi
    split at hW
    ·rename_i f hf
     obtain ⟨pre,us,sv,h1,h2,h3,h4⟩:=hW
     exact ⟨pre,us,sv,Cd hc hi hf (y:=x) (fun hp hP=>rfl) (fun q hq=>hq) h1 (fun C hp hn _=>hn),h2,h3,h4⟩
    ·rename_i f n agg hf
     split at hW
     ·rename_i p y u rd hE
      obtain ⟨aD,pre,us,sv,h1,h2,h3,h4⟩:=hW
      obtain ⟨g1,g2,g3⟩:=FD hc hi hf hE aD h1 h2 h3
      refine ⟨_,us,sv,g1,g2,g3,?_⟩
      rw [List.map_append]
      have:(uv h rd).map (·.1)=rd:=Cm (fun id hid=>Gq hE id hid)
      rw [this];exact h4
     ·exact hW.elim
    ·exact hW.elim
   ·exact hW.elim
  ·exact hW.elim
 ·unfold zp at hW
  split at hW
  ·rename_i p sv u rd hE
   obtain ⟨hp,hK⟩:=hW
   have ov:aB h h.length=none:=by unfold aB;rw [List.getElem?_eq_none (Nat.le_refl _)]
   have ur:=Cc hE
   refine ⟨_,wO u,sv,GR hc hE hp ov,fun q hq=>?_,?_,?_⟩
   ·obtain ⟨id,_,hid⟩:=List.mem_filterMap.1 hq
    cases fO:aB h id with
    | none=>simp [fO] at hid
    | some hb=>simp [fO] at hid;subst hid;exact fO
   ·cases u with
    | none=>trivial
    | some q=>
      refine ⟨?_,trivial⟩
      rcases ur.1 q rfl with h1 | h1
      ·exact .inl h1
      ·right
       have hs:=ur.2 _ h1
       obtain ⟨hb,pq⟩:=Option.isSome_iff_exists.1 hs
       refine ⟨?_,hb,List.mem_filterMap.2 ⟨q.1,h1,by simp [pq]⟩⟩
       unfold aB at pq
       cases hl:h[q.1]? with
       | none=>simp [hl] at pq
       | some x=>exact (List.getElem?_eq_some_iff.1 hl).1
   ·have:=Cm (hp:=aB h) (rd:=rd) (fun id hid=>ur.2 id hid)
    rw [this]
    cases u with
    | none=>exact hK
    | some q=>exact hK
  ·exact hW.elim
def rA:List bF→List EN→List TE
 | op::l,e::es=>iV op e::rA l es
 | _,_=>[]
theorem CN:∀ {l:List bF} {es:List EN} {a:Nat} {op:bF} {e:EN},l[a]?=some op→es[a]?=some e→(rA l es)[a]?=some (iV op e)
 | [],es,a,op,e,h,_=>by simp at h
 | _::_,[],a,op,e,_,h=>by simp at h
 | p::l,q::es,a,op,e,h1,h2=>by
   cases a with
   | zero=>simp at h1 h2;subst h1;subst h2;rfl
   | succ a=>simp only [rA,List.getElem?_cons_succ] at h1 h2 ⊢;exact CN h1 h2
theorem Cn {P:Program} {ops:Array Oper} {N:Nat} {aV:List Nat} {K:St→Prop}:∀ (l:List bF) (i:Nat) (acc:List TE) (s:St),(∀ (j:Nat) (op:bF),l[j]?=some op→∃ o,ops[i+j]?=some o∧nw P ops N o=some op)→RD P aV K l acc s→
 ∃ es s',Tr P ops i l s es s'∧oW aV 0 (acc++rA l es)=true∧K s'
 | [],i,acc,s,_,h=>⟨[],s,rfl,by simpa [rA] using h.1,h.2⟩
 | op::l,i,acc,s,hc,h=>by
   have nB:∀ (j:Nat) (op:bF),l[j]?=some op→∃ o,ops[i+1+j]?=some o∧nw P ops N o=some op:=fun j op' hj=>by
    have:=hc (j+1) op' (by simpa using hj)
    rwa [show i+(j+1)=i+1+j by omega] at this
   obtain ⟨o,ho,mw⟩:=hc 0 op rfl
   rw [Nat.add_zero] at ho
   obtain ⟨gC,qI,lK,tU,tV⟩:=Ap mw
   unfold RD at h
   split at h
   ·rename_i hg
    obtain ⟨pre,us,sv,h1,h2,h3,h4⟩:=Sq qI h
    obtain ⟨es,s',g1,g2,g3⟩:=Cn l (i+1) _ _ nB h4
    refine ⟨.run (op.xs.map (iY (lk s.env))) pre us sv::es,s',⟨⟨hg,rfl,fun o' ho'=>?_,h2,h3⟩,g1⟩,?_,g3⟩
    ·rw [ho] at ho';cases ho';exact h1
    ·simpa [rA,iV] using g2
   ·rename_i hg
    obtain ⟨es,s',g1,g2,g3⟩:=Cn l (i+1) _ _ nB h
    exact ⟨.skip::es,s',⟨hg,g1⟩,by simpa [rA,iV] using g2,g3⟩
   ·exact h.elim
theorem SX {P:Program} {C:Ctx} {n0:Nat} {ops:Array Oper} {K:St→Prop} {Q:Exit→Act→World→Prop} {l:List bF} (hm:P.follows .mixedOrders=true) (hsz:ops.size=l.length) (EO:∀ (j:Nat) (op:bF),l[j]?=some op→∃ o,ops[j]?=some o∧nw P ops C.N o=some op)
 (Nc:uP 0 ops.toList=true) {s:St} {a:Act} {w:World} (h:RD P (nU ops.toList []) K l [] s) (R:ju C n0 s a w) (hK:∀ s a w,K s→ju C n0 s a w→Q .normal a w) (id:Nat):(Code.region id ops true).wp P Q a w:=by
 refine wp_region_any hm ?_
 obtain ⟨es,s',h1,h2,h3⟩:=Cn l 0 [] s (fun j op hj=>by rw [Nat.zero_add];exact EO j op hj) h
 have H:jC P ops C.N l es s s' (Ac l.length (nU ops.toList [])):=by
  refine ⟨h1,hsz,EO,fun i o ho k hk=>?_,fun i o ho k hk=>?_,fun x y Ce Cf ea eb hxy ha hb No Np=>?_⟩
  ·have:=Dl Nc i o (by simpa using ho) k hk;omega
  ·obtain ⟨gI,hk⟩:=BX.1 hk
   have:=Dn ops.toList [] i o (by simpa using ho) k (by simpa using hk)
   rcases this with g | ⟨x,hx,g⟩
   ·exact ⟨jN o,fun x hx=>hx,.inl g⟩
   ·exact ⟨jN o,fun x hx=>hx,.inr ⟨x,hx,BX.2 ⟨gI,g⟩⟩⟩
  ·have:=DS (aV:=nU ops.toList []) (l:=rA l es) (i:=0) (by simpa using h2) x y _ _ hxy (CN ha No) (CN hb Np)
   rw [Nat.zero_add,Nat.zero_add] at this
   refine this.imp (fun h=>BX.2 ⟨(List.getElem?_eq_some_iff.1 ha).1,h⟩) (fun h=>h)
 have hlen:=h1.length
 obtain ⟨aa,RF⟩:=R.rep
 have hst:=IF P ops h1 l.length (Nat.le_refl _)
 rw [h1.last] at hst
 have lg:jS C (lk s.env) (aB s.h) a { w with drawn:=w.drawn+1 } aa:=RF.step (RF.mem.quiet (w':={ w with drawn:=w.drawn+1 }) rfl rfl rfl rfl)
 refine Tt H rfl R.vZ R.h0 (fun a w aa RF=>hK s' a w h3 ⟨⟨aa,RF⟩,Nat.le_trans R.vZ hst,R.h0⟩) ops.size _ (lk s.env) (aB s.h) a _ aa (by simp) ?_ ?_ ?_ lg
 ·rw [hsz];exact DK _ _
 ·intro i o ho hL
  exfalso
  simp only [Lf,Array.getD_eq_getD_getElem?,Array.getElem?_replicate] at hL
  split at hL <;> simp at hL
 ·have hf:∀ i,Lf (Array.replicate ops.size false) i=false:=fun i=>by
   simp only [Lf,Array.getD_eq_getD_getElem?,Array.getElem?_replicate]
   split <;> simp
  refine ⟨fun m=>⟨0,by omega,?_,fun i op hi=>by omega,fun i op _ _ _=>hf i⟩,fun id=>⟨0,by omega,?_,fun i op e hi=>by omega,fun i op e _ _ _ _=>hf i⟩⟩
  ·cases l <;> cases es <;> rfl
  ·cases l <;> cases es <;> rfl
end Go.aL

namespace Go.aL
open Go
inductive AC where
 | skip
 | zy (ops:List bF)
 | zz (aV:List Nat) (ops:List bF)
 | seq (a b:AC)
 | cond (x:XO) (a b:AC)
 | block (id:Nat) (a:AC)
 | loop (a:AC)
 | exit (id:Nat)
 | ret
 | sg
 deriving Inhabited
def AC.tL:AC→Bool
 | .seq a b=>a.tL && b.tL
 | .cond _ a b=>a.tL || b.tL
 | .loop _ | .exit _ | .ret=>false
 | _=>true
def xS (P:Program) (ops:Array Oper) (N:Nat):List Oper→Option (List bF)
 | []=>some []
 | o::r=>match nw P ops N o,xS P ops N r with
   | some x,some l=>some (x::l)
   | _,_=>none
theorem Aq {P:Program} {ops:Array Oper} {N:Nat}:∀ {os:List Oper} {l:List bF},xS P ops N os=some l→os.length=l.length∧∀ (j:Nat) (op:bF),l[j]?=some op→∃ o,os[j]?=some o∧nw P ops N o=some op
 | [],l,h=>by cases h;exact ⟨rfl,fun j op hj=>by simp at hj⟩
 | o::r,l,h=>by
   unfold xS at h
   split at h
   ·rename_i x l' hx hl
    cases h
    obtain ⟨g1,g2⟩:=Aq hl
    refine ⟨by simp [g1],fun j op hj=>?_⟩
    cases j with
    | zero=>simp at hj;subst hj;exact ⟨o,rfl,hx⟩
    | succ j=>simp only [List.getElem?_cons_succ] at hj ⊢;exact g2 j op hj
   ·cases h
def comp (P:Program) (N:Nat):Code→Option AC
 | .skip=>some .skip
 | .region _ ops draw=>match draw,xS P ops N ops.toList with
   | false,some l=>some (.zy l)
   | true,some l=>if P.follows .mixedOrders && uP 0 ops.toList then some (.zz (nU ops.toList []) l) else none
   | _,none=>none
 | .seq a b=>match comp P N a,comp P N b with
   | some x,some y=>some (.seq x y)
   | _,_=>none
 | .cond c a b=>match As c,comp P N a,comp P N b with
   | some q,some x,some y=>if x.tL && y.tL then some (.seq (.cond q x y) .sg) else some (.cond q x y)
   | _,_,_=>none
 | .block id c=>match comp P N c with
   | some x=>some (.seq (.block id x) .sg)
   | none=>none
 | .loop c=>match comp P N c with
   | some x=>some (.loop x)
   | none=>none
 | .exit id=>some (.exit id)
 | .ret=>some .ret
 | _=>none
inductive Ex where
 | normal
 | exit (id:Nat)
 | ret
def Ex.zN:Ex→Exit
 | .normal=>.normal
 | .exit id=>.exit id
 | .ret=>.ret
def fV (n0:Nat) (s s':St):Prop:=∀ C a w,ju C n0 s a w→ju C n0 s' a w
def nk (n:St→Prop) (K:Ex→St→Prop):Ex→St→Prop
 | .normal,s=>n s
 | .exit id,s=>K (.exit id) s
 | .ret,s=>K .ret s
def xz (id:Nat) (K:Ex→St→Prop):Ex→St→Prop
 | .normal,s=>K .normal s
 | .exit j,s=>if j=id then K .normal s else K (.exit j) s
 | .ret,s=>K .ret s
def xU (T F:Prop):SV→Prop
 | .rv (.bool t)=>if t=true then T else F
 | _=>False
def W (P:Program) (n0:Nat):AC→(Ex→St→Prop)→St→Prop
 | .skip,K,s=>K .normal s
 | .zy ops,K,s=>RW P (K .normal) ops s
 | .zz aV ops,K,s=>RD P aV (K .normal) ops [] s
 | .seq a b,K,s=>W P n0 a (nk (W P n0 b K) K) s
 | .cond x a b,K,s=>xU (W P n0 a K s) (W P n0 b K s) (iY (lk s.env) x)
 | .block id a,K,s=>W P n0 a (xz id K) s
 | .loop a,K,s=>∃ (ι:Type) (σ:ι→St) (pr:ι→Prop) (μ:ι→Nat) (i0:ι),pr i0∧fV n0 s (σ i0)∧∀ i,pr i→W P n0 a (nk (fun s'=>∃ i',pr i'∧μ i'<μ i∧fV n0 s' (σ i')) K) (σ i)
 | .exit id,K,s=>K (.exit id) s
 | .ret,K,s=>K .ret s
 | .sg,K,s=>∃ s',fV n0 s s'∧K .normal s'
theorem zM {n n':St→Prop} {K K':Ex→St→Prop} (hn:∀ s,n s→n' s) (h:∀ e s,K e s→K' e s):∀ e s,nk n K e s→nk n' K' e s
 | .normal,s,hk=>hn s hk
 | .exit id,s,hk=>h _ s hk
 | .ret,s,hk=>h _ s hk
theorem Kx {id:Nat} {K K':Ex→St→Prop} (h:∀ e s,K e s→K' e s):∀ e s,xz id K e s→xz id K' e s
 | .normal,s,hk=>h _ s hk
 | .exit j,s,hk=>by
   have hk':if j=id then K .normal s else K (.exit j) s:=hk
   show if j=id then K' .normal s else K' (.exit j) s
   by_cases hj:j=id
   ·rw [if_pos hj] at hk' ⊢;exact h _ s hk'
   ·rw [if_neg hj] at hk' ⊢;exact h _ s hk'
 | .ret,s,hk=>h _ s hk
theorem Ss {P:Program} {ao:AO} {args:List SV} {h:List (Option HB)} {K K':SV→List (Option HB)→Prop} (hk:∀ sv h,K sv h→K' sv h) (hw:sS P ao args h K):sS P ao args h K':=by
 have hc:∀ f args,qu P f args h K→qu P f args h K':=fun f args ⟨pre,us,sv,h1,h2,h3,h4⟩=>⟨pre,us,sv,h1,h2,h3,hk _ _ h4⟩
 unfold sS at hw ⊢
 split at hw
 ·exact hc _ _ hw
 ·unfold xL at hw ⊢
  split at hw
  ·exact hc _ _ hw
  ·exact hc _ _ hw
  ·exact hw.elim
 ·unfold vR at hw ⊢
  split at hw
  ·split at hw
   ·split at hw
    ·exact hc _ _ hw
    ·split at hw
     ·exact ⟨hw.1,hc _ _ hw.2⟩
     ·exact hw.elim
    ·exact hw.elim
   ·exact hw.elim
  ·exact hw.elim
 ·unfold zq at hw ⊢
  split at hw
  ·exact ⟨hw.1,hk _ _ hw.2⟩
  ·exact hw.elim
theorem zY {P:Program} {K K':St→Prop} (hk:∀ s,K s→K' s):∀ {l:List bF} {s:St},RW P K l s→RW P K' l s
 | [],s,h=>hk s h
 | op::l,s,h=>by
   unfold RW at h ⊢
   split at h
   ·exact Ss (fun sv h' hh=>zY hk hh) h
   ·exact zY hk h
   ·exact h.elim
theorem Sp {P:Program} {ao:AO} {args:List SV} {h:List (Option HB)} {K K':SV→List (Option HB)→List Nat→List Nat→Prop} (hk:∀ sv h p u,K sv h p u→K' sv h p u) (hw:sQ P ao args h K):sQ P ao args h K':=by
 have hc:∀ f args,oP P f args h K→oP P f args h K':=fun f args ⟨pre,us,sv,h1,h2,h3,h4⟩=>⟨pre,us,sv,h1,h2,h3,hk _ _ _ _ h4⟩
 have hcd:∀ f args rd,(oP P f args h fun sv h' pre us=>K sv h' (rd++pre) us)→oP P f args h fun sv h' pre us=>K' sv h' (rd++pre) us:=fun f args rd ⟨pre,us,sv,h1,h2,h3,h4⟩=>⟨pre,us,sv,h1,h2,h3,hk _ _ _ _ h4⟩
 unfold sQ at hw ⊢
 split at hw
 ·exact hc _ _ hw
 ·unfold xK at hw ⊢
  split at hw
  ·exact hc _ _ hw
  ·exact hc _ _ hw
  ·exact hw.elim
 ·unfold vQ at hw ⊢
  split at hw
  ·split at hw
   ·split at hw
    ·exact hc _ _ hw
    ·split at hw
     ·exact ⟨hw.1,hcd _ _ _ hw.2⟩
     ·exact hw.elim
    ·exact hw.elim
   ·exact hw.elim
  ·exact hw.elim
 ·unfold zp at hw ⊢
  split at hw
  ·exact ⟨hw.1,hk _ _ _ _ hw.2⟩
  ·exact hw.elim
theorem zX {P:Program} {aV:List Nat} {K K':St→Prop} (hk:∀ s,K s→K' s):∀ {l:List bF} {acc:List TE} {s:St},RD P aV K l acc s→RD P aV K' l acc s
 | [],acc,s,h=>⟨h.1,hk s h.2⟩
 | op::l,acc,s,h=>by
   unfold RD at h ⊢
   split at h
   ·exact Sp (fun sv h' p u hh=>zX hk hh) h
   ·exact zX hk h
   ·exact h.elim
theorem qw {P:Program} {n0:Nat}:∀ {ac:AC} {K K':Ex→St→Prop} {s:St},(∀ e s,K e s→K' e s)→W P n0 ac K s→W P n0 ac K' s
 | .skip,K,K',s,h,hw=>h _ _ hw
 | .zy ops,K,K',s,h,hw=>zY (h _) hw
 | .zz aV ops,K,K',s,h,hw=>zX (h _) hw
 | .seq a b,K,K',s,h,hw=>qw (ac:=a) (zM (fun s hb=>qw (ac:=b) h hb) h) hw
 | .cond x a b,K,K',s,h,hw=>by
   unfold W xU at hw ⊢
   split at hw
   ·split at hw
    ·rename_i ht;rw [if_pos ht];exact qw (ac:=a) h hw
    ·rename_i ht;rw [if_neg ht];exact qw (ac:=b) h hw
   ·exact hw.elim
 | .block id a,K,K',s,h,hw=>qw (ac:=a) (Kx h) hw
 | .loop a,K,K',s,h,hw=>by
   obtain ⟨ι,σ,pr,μ,i0,h0,he,hr⟩:=hw
   exact ⟨ι,σ,pr,μ,i0,h0,he,fun i hi=>qw (ac:=a) (zM (fun s hs=>hs) h) (hr i hi)⟩
 | .exit id,K,K',s,h,hw=>h _ _ hw
 | .ret,K,K',s,h,hw=>h _ _ hw
 | .sg,K,K',s,h,hw=>by obtain ⟨s',h1,h2⟩:=hw;exact ⟨s',h1,h _ _ h2⟩
theorem least {p:Nat→Prop} (h:∃ m,p m):∃ m,p m∧∀ k,p k→m≤k:=by
 obtain ⟨m,hm⟩:=h
 induction m using Nat.strongRecOn with
 | _ m ih=>
   by_cases hl:∃ k,p k∧k<m
   ·obtain ⟨k,hk,hlt⟩:=hl
    exact ih k hlt hk
   ·exact ⟨m,hm,fun k hk=>by
     by_cases hlt:k<m
     ·exact absurd ⟨k,hk,hlt⟩ hl
     ·omega⟩
theorem Ee {P:Program} {n0:Nat} {C:Ctx} {K:Ex→St→Prop} {Q:Exit→Act→World→Prop} (hq:∀ e s a w,K e s→ju C n0 s a w→Q e.zN a w) :
 ∀ e s a w,nk (W P n0 .sg K) K e s→ju C n0 s a w→Q e.zN a w
 | .normal,s,a,w,⟨s',h1,h2⟩,R=>hq .normal s' a w h2 (h1 C a w R)
 | .exit id,s,a,w,hk,R=>hq (.exit id) s a w hk R
 | .ret,s,a,w,hk,R=>hq .ret s a w hk R
theorem VH {P:Program} {n0:Nat} {C:Ctx}:∀ (c:Code) (ac:AC) (K:Ex→St→Prop) (Q:Exit→Act→World→Prop) (s:St) (a:Act) (w:World),comp P C.N c=some ac→W P n0 ac K s→ju C n0 s a w→(∀ e s a w,K e s→ju C n0 s a w→Q e.zN a w)→c.wp P Q a w:=by
 intro c
 induction c with
 | skip=>intro ac K Q s a w hc hw R hq;cases hc;exact wp_skip (hq _ _ _ _ hw R)
 | region id ops draw=>
   intro ac K Q s a w hc hw R hq
   unfold comp at hc
   split at hc
   ·rename_i l hl
    cases hc
    obtain ⟨g1,g2⟩:=Aq hl
    refine wp_region (HR (C:=C) (n0:=n0) (fun s a w hk R=>hq .normal s a w hk R) l _ s a w (by simpa using g1) (fun j i op hi hj=>?_) hw R)
    obtain ⟨o,ho,mw⟩:=g2 j op hj
    have hlt:j<ops.size:=by
     have:=(List.getElem?_eq_some_iff.1 hj).1
     have e:ops.toList.length=ops.size:=by simp
     omega
    rw [List.getElem?_range hlt] at hi
    cases hi
    exact ⟨o,by simpa using ho,mw⟩
   ·rename_i l hl
    split at hc
    ·rename_i hb
     cases hc
     simp only [Bool.and_eq_true] at hb
     obtain ⟨g1,g2⟩:=Aq hl
     exact SX hb.1 (by simpa using g1) (fun j op hj=>by
      obtain ⟨o,ho,mw⟩:=g2 j op hj
      exact ⟨o,by simpa using ho,mw⟩) hb.2 hw R (fun s a w hk R=>hq .normal s a w hk R) id
    ·cases hc
   ·cases hc
 | seq x y BF BG=>
   intro ac K Q s a w hc hw R hq
   unfold comp at hc
   split at hc
   ·rename_i x' y' hx hy
    cases hc
    refine wp_seq (BF x' _ _ s a w hx hw R (fun e s a w hk R=>?_))
    cases e with
    | normal=>exact BG y' K Q s a w hy hk R hq
    | exit id=>exact hq (.exit id) s a w hk R
    | ret=>exact hq .ret s a w hk R
   ·cases hc
 | cond c x y BF BG=>
   intro ac K Q s a w hc hw R hq
   unfold comp at hc
   split at hc
   ·rename_i q x' y' AX hx hy
    have base:∀ (K:Ex→St→Prop),W P n0 (.cond q x' y') K s→(∀ e s a w,K e s→ju C n0 s a w→Q e.zN a w)→(Code.cond c x y).wp P Q a w:=by
     intro K hw hq
     unfold W xU at hw
     split at hw
     ·rename_i t ht
      obtain ⟨aa,RF⟩:=R.rep
      have hA:=xw RF (xs:=[c]) (ys:=[q]) (by simp [tG,AX])
      cases hA with
      | cons h1 _=>
        rw [ht] at h1
        have hb:=sX h1
        refine wp_cond hb ?_
        cases t with
        | true=>exact BF x' K Q s a w hx (by simpa using hw) R hq
        | false=>exact BG y' K Q s a w hy (by simpa using hw) R hq
     ·exact hw.elim
    split at hc
    ·cases hc
     exact base _ hw (Ee hq)
    ·cases hc
     exact base K hw hq
   ·cases hc
 | block id c ih=>
   intro ac K Q s a w hc hw R hq
   unfold comp at hc
   split at hc
   ·rename_i x hx
    cases hc
    have fO:=Ee (P:=P) hq
    refine wp_block (ih x _ _ s a w hx hw R (fun e s a w hk R=>?_))
    cases e with
    | normal=>exact fO .normal s a w hk R
    | exit j=>
      have hk':if j=id then (∃ s',fV n0 s s'∧K .normal s') else K (.exit j) s:=hk
      show if j=id then Q .normal a w else Q (.exit j) a w
      by_cases hj:j=id
      ·rw [if_pos hj] at hk' ⊢;exact fO .normal s a w hk' R
      ·rw [if_neg hj] at hk' ⊢;exact hq (.exit j) s a w hk' R
    | ret=>exact hq .ret s a w hk R
   ·cases hc
 | loop c ih=>
   intro ac K Q s a w hc hw R hq
   unfold comp at hc
   split at hc
   ·rename_i x hx
    cases hc
    obtain ⟨ι,σ,pr,μ,i0,h0,he,hr⟩:=hw
    have key:∀ n i,μ i=n→pr i→∀ a w,ju C n0 (σ i) a w→(Code.loop c).wp P Q a w:=by
     classical
     intro n i hn hi a w R
     let I:Act→World→Prop:=fun a w=>∃ i,pr i∧ju C n0 (σ i) a w
     have hex:∀ a w,I a w→∃ m,∃ i,pr i∧ju C n0 (σ i) a w∧μ i=m:=fun a w ⟨i,h1,h2⟩=>⟨μ i,i,h1,h2,rfl⟩
     have ET:∀ a w,∃ m,I a w→(∃ i,pr i∧ju C n0 (σ i) a w∧μ i=m)∧∀ i,pr i→ju C n0 (σ i) a w→m≤μ i:=fun a w=>by
      by_cases h:I a w
      ·obtain ⟨m,hm,hl⟩:=least (p:=fun m=>∃ i,pr i∧ju C n0 (σ i) a w∧μ i=m) (hex a w h)
       exact ⟨m,fun _=>⟨hm,fun i hi hR=>hl _ ⟨i,hi,hR,rfl⟩⟩⟩
      ·exact ⟨0,fun h'=>absurd h' h⟩
     let M:Act→World→Nat:=fun a w=>(ET a w).choose
     have hM:∀ a w,I a w→(∃ i,pr i∧ju C n0 (σ i) a w∧μ i=M a w)∧∀ i,pr i→ju C n0 (σ i) a w→M a w≤μ i:=fun a w h=>(ET a w).choose_spec h
     refine wp_loop I M ⟨i,hi,R⟩ (fun a w hI=>?_)
     obtain ⟨⟨j,hj,hR,Wi⟩,_⟩:=hM a w hI
     refine ih x _ _ (σ j) a w hx (hr j hj) hR (fun e s' a' w' hk R'=>?_)
     cases e with
     | normal=>
       obtain ⟨j',hj',hlt,Nq⟩:=hk
       have EG:=Nq C a' w' R'
       have EF:I a' w':=⟨j',hj',EG⟩
       refine ⟨EF,?_⟩
       have:=(hM a' w' EF).2 j' hj' EG
       omega
     | exit id=>exact hq (.exit id) s' a' w' hk R'
     | ret=>exact hq .ret s' a' w' hk R'
    exact key _ i0 rfl h0 a w (he C a w R)
   ·cases hc
 | exit id=>intro ac K Q s a w hc hw R hq;cases hc;exact wp_exit (hq _ _ _ _ hw R)
 | ret=>intro ac K Q s a w hc hw R hq;cases hc;exact wp_ret (hq _ _ _ _ hw R)
 | rangeFunc=>intro ac K Q s a w hc;cases hc
 | scope=>intro ac K Q s a w hc;cases hc
 | label=>intro ac K Q s a w hc;cases hc
 | goto=>intro ac K Q s a w hc;cases hc
 | refuse=>intro ac K Q s a w hc;cases hc
end Go.aL

namespace Go.aL
open Go
inductive It where
 | c (a:AC)
 | o (l:List bF)
 | d (aV:List Nat) (acc:List TE) (l:List bF)
 | b (id:Nat)
 | l (m:Nat) (a:AC)
def WL (P:Program) (n0 m:Nat) (a:AC) (K:Ex→St→Prop) (s:St):Prop:=
 ∃ (ι:Type) (σ:ι→St) (pr:ι→Prop) (μ:ι→Nat) (i0:ι),(pr i0∧μ i0≤m)∧fV n0 s (σ i0)∧∀ i,pr i→W P n0 a (nk (fun s'=>∃ i',pr i'∧μ i'<μ i∧fV n0 s' (σ i')) K) (σ i)
theorem JW {P:Program} {n0 m:Nat} {a:AC} {K:Ex→St→Prop} {s:St} (h:WL P n0 m a K s):W P n0 (.loop a) K s:=by
 obtain ⟨ι,σ,pr,μ,i0,⟨h1,_⟩,h2,h3⟩:=h
 exact ⟨ι,σ,pr,μ,i0,h1,h2,h3⟩
theorem JX {P:Program} {n0 m:Nat} {a:AC} {K:Ex→St→Prop} {s:St} (h:W P n0 a (nk (WL P n0 m a K) K) s):WL P n0 (m+1) a K s:=by
 let Inv:St→Nat→Prop:=fun s k=>k≤m∧∃ (ι:Type) (σ:ι→St) (pr:ι→Prop) (μ:ι→Nat) (i:ι),pr i∧σ i=s∧μ i=k∧∀ i,pr i→W P n0 a (nk (fun s'=>∃ i',pr i'∧μ i'<μ i∧fV n0 s' (σ i')) K) (σ i)
 refine ⟨Option (St×Nat),fun o=>(o.map (·.1)).getD s,fun o=>∀ q,o=some q→Inv q.1 q.2,fun o=>match o with | some q=>q.2 | none=>m+1,none,⟨fun q hq=>(by cases hq),Nat.le_refl _⟩,fun _ _ _ R=>R,fun o ho=>?_⟩
 cases o with
 | none=>
   refine qw (fun e s' hs=>?_) h
   revert hs
   refine zM (fun s' hs=>?_) (fun _ _ hk=>hk) e s'
   obtain ⟨ι,σ,pr,μ,i0,⟨h1,h2⟩,h3,h4⟩:=hs
   exact ⟨some (σ i0,μ i0),fun q hq=>(by cases hq;exact ⟨h2,ι,σ,pr,μ,i0,h1,rfl,rfl,h4⟩),Nat.lt_succ_of_le h2,h3⟩
 | some q=>
   obtain ⟨hk,ι,σ,pr,μ,i,h1,h2,h3,h4⟩:=ho q rfl
   have:=h4 i h1
   rw [h2] at this
   refine qw (fun e s' hs=>?_) this
   revert hs
   refine zM (fun s' hs=>?_) (fun _ _ hk=>hk) e s'
   obtain ⟨i',g1,g2,g3⟩:=hs
   exact ⟨some (σ i',μ i'),fun q' hq=>(by cases hq;exact ⟨by omega,ι,σ,pr,μ,i',g1,rfl,rfl,h4⟩),(by show μ i'<q.2;omega),g3⟩
def CI (P:Program) (n0:Nat):List It→(Ex→St→Prop)→Ex→St→Prop
 | [],K=>K
 | .c a::k,K=>nk (W P n0 a (CI P n0 k K)) (CI P n0 k K)
 | .o l::k,K=>nk (RW P (CI P n0 k K .normal) l) (CI P n0 k K)
 | .d aV acc l::k,K=>nk (RD P aV (CI P n0 k K .normal) l acc) (CI P n0 k K)
 | .b id::k,K=>xz id (CI P n0 k K)
 | .l m a::k,K=>nk (WL P n0 m a (CI P n0 k K)) (CI P n0 k K)
def G (P:Program) (n0:Nat) (k:List It) (K:Ex→St→Prop) (env:List (Nat×SV)) (h:List (Option HB)):Prop:=CI P n0 k K .normal ⟨env,h⟩
def GX (P:Program) (n0:Nat) (id:Nat) (k:List It) (K:Ex→St→Prop) (env:List (Nat×SV)) (h:List (Option HB)):Prop:=CI P n0 k K (.exit id) ⟨env,h⟩
def xT (P:Program) (n0:Nat) (a b:AC) (k:List It) (K:Ex→St→Prop) (env:List (Nat×SV)) (h:List (Option HB)):SV→Prop
 | .rv (.bool t)=>if t=true then G P n0 (.c a::k) K env h else G P n0 (.c b::k) K env h
 | _=>False
def rR (P:Program) (n0:Nat) (f:FuncId) (args:List SV) (dst:Option Nat) (r:List bF) (k:List It) (K:Ex→St→Prop) (env:List (Nat×SV)) (h:List (Option HB)):Prop:=
 qu P f args h fun sv h'=>G P n0 (.o r::k) K (gf dst sv env) h'
def Ag (P:Program) (n0:Nat) (dst:Option Nat) (r:List bF) (k:List It) (K:Ex→St→Prop) (env:List (Nat×SV)) (h:List (Option HB)):List SV→Prop
 | .fn f caps::args=>rR P n0 f (args++caps) dst r k K env h
 | .fF f caps::args=>rR P n0 f (caps++args) dst r k K env h
 | _=>False
def yV (P:Program) (n0:Nat) (name:String) (dst:Option Nat) (r:List bF) (k:List It) (K:Ex→St→Prop) (env:List (Nat×SV)) (h:List (Option HB)):List SV→Prop
 | s::args=>match oz s with
   | some (t,x)=>match oB P t name with
     | some (f,none)=>rR P n0 f (x::args) dst r k K env h
     | some (f,some (n,agg))=>match ij n agg (aB h) x with
       | some (p,y,_,_)=>p∧rR P n0 f (y::args) dst r k K env h
       | none=>False
     | none=>False
   | none=>False
 | _=>False
def Ci (P:Program) (n0:Nat) (dst:Option Nat) (r:List bF) (k:List It) (K:Ex→St→Prop) (env:List (Nat×SV)) (h:List (Option HB)):XR→Prop
 | some (p,sv,u,_)=>p∧G P n0 (.o r::k) K (gf dst sv env) (wP h u)
 | none=>False
def sR (P:Program) (n0:Nat) (ao:AO) (args:List SV) (dst:Option Nat) (r:List bF) (k:List It) (K:Ex→St→Prop) (env:List (Nat×SV)) (h:List (Option HB)):Prop:=
 match ao with
 | .call f=>rR P n0 f args dst r k K env h
 | .nZ=>Ag P n0 dst r k K env h args
 | .inv name=>yV P n0 name dst r k K env h args
 | ao=>Ci P n0 dst r k K env h (bY ao args (aB h) h.length)
def so (P:Program) (n0:Nat) (b:Bool) (ao:AO) (xs:List XO) (dst:Option Nat) (r:List bF) (k:List It) (K:Ex→St→Prop) (env:List (Nat×SV)) (h:List (Option HB)):SV→Prop
 | .rv (.bool t)=>if t=b then sR P n0 ao (xs.map (iY (lk env))) dst r k K env h else G P n0 (.o r::k) K (gf dst (.aO []) env) h
 | .aO []=>G P n0 (.o r::k) K (gf dst (.aO []) env) h
 | _=>False
def rS (P:Program) (n0:Nat) (aV:List Nat) (acc:List TE) (fD qZ:List Nat) (f:FuncId) (args:List SV) (dst:Option Nat) (r:List bF) (k:List It) (K:Ex→St→Prop) (env:List (Nat×SV)) (h:List (Option HB)):Prop:=
 oP P f args h fun sv h' pre us=>G P n0 (.d aV (acc++[⟨fD,dst,qZ++pre,us⟩]) r::k) K (gf dst sv env) h'
def Ah (P:Program) (n0:Nat) (aV:List Nat) (acc:List TE) (fD:List Nat) (dst:Option Nat) (r:List bF) (k:List It) (K:Ex→St→Prop) (env:List (Nat×SV)) (h:List (Option HB)):List SV→Prop
 | .fn f caps::args=>rS P n0 aV acc fD [] f (args++caps) dst r k K env h
 | .fF f caps::args=>rS P n0 aV acc fD [] f (caps++args) dst r k K env h
 | _=>False
def yW (P:Program) (n0:Nat) (aV:List Nat) (acc:List TE) (fD:List Nat) (name:String) (dst:Option Nat) (r:List bF) (k:List It) (K:Ex→St→Prop) (env:List (Nat×SV)) (h:List (Option HB)):List SV→Prop
 | s::args=>match oz s with
   | some (t,x)=>match oB P t name with
     | some (f,none)=>rS P n0 aV acc fD [] f (x::args) dst r k K env h
     | some (f,some (n,agg))=>match ij n agg (aB h) x with
       | some (p,y,_,rd)=>p∧rS P n0 aV acc fD rd f (y::args) dst r k K env h
       | none=>False
     | none=>False
   | none=>False
 | _=>False
def Cj (P:Program) (n0:Nat) (aV:List Nat) (acc:List TE) (fD:List Nat) (dst:Option Nat) (r:List bF) (k:List It) (K:Ex→St→Prop) (env:List (Nat×SV)) (h:List (Option HB)):XR→Prop
 | some (p,sv,u,rd)=>p∧G P n0 (.d aV (acc++[⟨fD,dst,rd,CS u⟩]) r::k) K (gf dst sv env) (wP h u)
 | none=>False
def sU (P:Program) (n0:Nat) (aV:List Nat) (acc:List TE) (fD:List Nat) (ao:AO) (args:List SV) (dst:Option Nat) (r:List bF) (k:List It) (K:Ex→St→Prop) (env:List (Nat×SV)) (h:List (Option HB)):Prop:=
 match ao with
 | .call f=>rS P n0 aV acc fD [] f args dst r k K env h
 | .nZ=>Ah P n0 aV acc fD dst r k K env h args
 | .inv name=>yW P n0 aV acc fD name dst r k K env h args
 | ao=>Cj P n0 aV acc fD dst r k K env h (bY ao args (aB h) h.length)
def sq (P:Program) (n0:Nat) (aV:List Nat) (acc:List TE) (fD:List Nat) (b:Bool) (ao:AO) (xs:List XO) (dst:Option Nat) (r:List bF) (k:List It) (K:Ex→St→Prop) (env:List (Nat×SV)) (h:List (Option HB)):SV→Prop
 | .rv (.bool t)=>if t=b then sU P n0 aV acc fD ao (xs.map (iY (lk env))) dst r k K env h else G P n0 (.d aV (acc++[⟨fD,dst,[],[]⟩]) r::k) K (gf dst (.aO []) env) h
 | .aO []=>G P n0 (.d aV (acc++[⟨fD,dst,[],[]⟩]) r::k) K (gf dst (.aO []) env) h
 | _=>False
section
variable {P:Program} {n0:Nat} {k:List It} {K:Ex→St→Prop} {env:List (Nat×SV)} {h:List (Option HB)}
theorem Me:G P n0 [] K env h=K .normal ⟨env,h⟩:=rfl
theorem Mo:G P n0 (.c .skip::k) K env h=G P n0 k K env h:=rfl
theorem Mk {ops:List bF}:G P n0 (.c (.zy ops)::k) K env h=G P n0 (.o ops::k) K env h:=rfl
theorem Ml {aV:List Nat} {ops:List bF}:G P n0 (.c (.zz aV ops)::k) K env h=G P n0 (.d aV [] ops::k) K env h:=rfl
theorem Mn {a b:AC}:G P n0 (.c (.seq a b)::k) K env h=G P n0 (.c a :: .c b::k) K env h:=rfl
theorem LZ {id:Nat} {a:AC}:G P n0 (.c (.block id a)::k) K env h=G P n0 (.c a :: .b id::k) K env h:=rfl
theorem Mc {id:Nat}:G P n0 (.b id::k) K env h=G P n0 k K env h:=rfl
theorem Md {id:Nat}:G P n0 (.c (.exit id)::k) K env h=GX P n0 id k K env h:=rfl
theorem Ma {x:XO} {a b:AC}:G P n0 (.c (.cond x a b)::k) K env h=xT P n0 a b k K env h (iY (lk env) x):=by
 show xU _ _ _=_
 generalize iY (lk env) x=y
 cases y with
 | rv r=>cases r <;> rfl
 | _=>rfl
theorem rK {P:Program} {n0:Nat} {K:Ex→St→Prop} {s:St}:∀ {k:List It},CI P n0 k K .ret s=K .ret s
 | []=>rfl
 | .c a::k=>rK (k:=k)
 | .o a::k=>rK (k:=k)
 | .d a b c::k=>rK (k:=k)
 | .b a::k=>rK (k:=k)
 | .l a b::k=>rK (k:=k)
theorem Mm:G P n0 (.c .ret::k) K env h=K .ret ⟨env,h⟩:=by
 show CI P n0 k K .ret ⟨env,h⟩=_
 exact rK
theorem ME {id:Nat}:GX P n0 id [] K env h=K (.exit id) ⟨env,h⟩:=rfl
theorem MB {id:Nat} {a:AC}:GX P n0 id (.c a::k) K env h=GX P n0 id k K env h:=rfl
theorem MF {id:Nat} {a:List bF}:GX P n0 id (.o a::k) K env h=GX P n0 id k K env h:=rfl
theorem MD {id m:Nat} {a:AC}:GX P n0 id (.l m a::k) K env h=GX P n0 id k K env h:=rfl
theorem jX {a:AC} (m:Nat) (hg:G P n0 (.l m a::k) K env h):G P n0 (.c (.loop a)::k) K env h:=JW (P:=P) (n0:=n0) (m:=m) (a:=a) (K:=CI P n0 k K) (s:=⟨env,h⟩) hg
theorem jW {m:Nat} {a:AC} (hg:G P n0 (.c a :: .l m a::k) K env h):G P n0 (.l (m+1) a::k) K env h:=by
 show WL P n0 (m+1) a (CI P n0 k K) ⟨env,h⟩
 exact JX hg
theorem MA {id j:Nat}:GX P n0 id (.b j::k) K env h=if id=j then G P n0 k K env h else GX P n0 id k K env h:=rfl
theorem Mf:G P n0 (.o []::k) K env h=G P n0 k K env h:=rfl
theorem Mb {aV:List Nat} {acc:List TE}:G P n0 (.d aV acc []::k) K env h=(oW aV 0 acc=true∧G P n0 k K env h):=rfl
theorem SP {dst:Option Nat} {r:List bF} (o:XR):zq h (fun sv h'=>RW P (CI P n0 k K .normal) r ⟨gf dst sv env,h'⟩) o=Ci P n0 dst r k K env h o:=by
 cases o with
 | none=>rfl
 | some q=>obtain ⟨p,sv,u,rd⟩:=q;rfl
theorem GS {dst:Option Nat} {ao:AO} {args:List SV} {r:List bF}:sS P ao args h (fun sv h'=>RW P (CI P n0 k K .normal) r ⟨gf dst sv env,h'⟩)=sR P n0 ao args dst r k K env h:=by
 cases ao
 case call f=>rfl
 case nZ=>
  show xL _ _ _ _=Ag _ _ _ _ _ _ _ _ _
  cases args with
  | nil=>rfl
  | cons x t=>cases x <;> rfl
 case inv name=>
  show vR _ _ _ _ _=yV _ _ _ _ _ _ _ _ _ _
  cases args with
  | nil=>rfl
  | cons x t=>
    simp only [vR,yV]
    cases oz x with
    | none=>rfl
    | some q=>
      obtain ⟨t,y⟩:=q
      simp only
      cases oB P t name with
      | none=>rfl
      | some q=>
        obtain ⟨f,ld⟩:=q
        cases ld with
        | none=>rfl
        | some q=>
          obtain ⟨n,agg⟩:=q
          simp only
          cases ij n agg (aB h) y with
          | none=>rfl
          | some q=>obtain ⟨p,z,u,rd⟩:=q;rfl
 all_goals first | exact SP _ | rfl
theorem Mg {dst:Option Nat} {ao:AO} {xs:List XO} {r:List bF}:G P n0 (.o (⟨dst,ao,xs,none⟩::r)::k) K env h=sR P n0 ao (xs.map (iY (lk env))) dst r k K env h:=GS
theorem Mj {dst:Option Nat} {ao:AO} {xs:List XO} {d:Nat} {b:Bool} {r:List bF}:G P n0 (.o (⟨dst,ao,xs,some (d,b)⟩::r)::k) K env h=so P n0 b ao xs dst r k K env h (lk env d):=by
 show RW P _ _ _=_
 unfold RW
 simp only [kQ]
 generalize lk env d=x
 cases x with
 | rv q=>
   cases q with
   | bool t=>cases t <;> cases b <;> first | exact GS | rfl
   | _=>rfl
 | aO xs=>cases xs <;> rfl
 | _=>rfl
theorem SN {aV:List Nat} {acc:List TE} {fD:List Nat} {dst:Option Nat} {r:List bF} (o:XR):zp h (fun sv h' pre us=>RD P aV (CI P n0 k K .normal) r (acc++[⟨fD,dst,pre,us⟩]) ⟨gf dst sv env,h'⟩) o=Cj P n0 aV acc fD dst r k K env h o:=by
 cases o with
 | none=>rfl
 | some q=>obtain ⟨p,sv,u,rd⟩:=q;rfl
theorem GN {aV:List Nat} {acc:List TE} {fD:List Nat} {dst:Option Nat} {ao:AO} {args:List SV} {r:List bF}:sQ P ao args h (fun sv h' pre us=>RD P aV (CI P n0 k K .normal) r (acc++[⟨fD,dst,pre,us⟩]) ⟨gf dst sv env,h'⟩)=sU P n0 aV acc fD ao args dst r k K env h:=by
 cases ao
 case call f=>rfl
 case nZ=>
  show xK _ _ _ _=Ah _ _ _ _ _ _ _ _ _ _ _ _
  cases args with
  | nil=>rfl
  | cons x t=>cases x <;> rfl
 case inv name=>
  show vQ _ _ _ _ _=yW _ _ _ _ _ _ _ _ _ _ _ _ _
  cases args with
  | nil=>rfl
  | cons x t=>
    simp only [vQ,yW]
    cases oz x with
    | none=>rfl
    | some q=>
      obtain ⟨t,y⟩:=q
      simp only
      cases oB P t name with
      | none=>rfl
      | some q=>
        obtain ⟨f,ld⟩:=q
        cases ld with
        | none=>rfl
        | some q=>
          obtain ⟨n,agg⟩:=q
          simp only
          cases ij n agg (aB h) y with
          | none=>rfl
          | some q=>obtain ⟨p,z,u,rd⟩:=q;rfl
 all_goals first | exact SN _ | rfl
theorem Mh {aV:List Nat} {acc:List TE} {dst:Option Nat} {ao:AO} {xs:List XO} {r:List bF}:G P n0 (.d aV acc (⟨dst,ao,xs,none⟩::r)::k) K env h=sU P n0 aV acc (nO xs) ao (xs.map (iY (lk env))) dst r k K env h:=GN
theorem Mi {aV:List Nat} {acc:List TE} {dst:Option Nat} {ao:AO} {xs:List XO} {d:Nat} {b:Bool} {r:List bF}:G P n0 (.d aV acc (⟨dst,ao,xs,some (d,b)⟩::r)::k) K env h=sq P n0 aV acc (d::nO xs) b ao xs dst r k K env h (lk env d):=by
 show RD P _ _ _ _ _=_
 unfold RD
 simp only [kQ]
 generalize lk env d=x
 cases x with
 | rv q=>
   cases q with
   | bool t=>cases t <;> cases b <;> first | exact GN | rfl
   | _=>rfl
 | aO xs=>cases xs <;> rfl
 | _=>rfl
end
theorem bQ {P:Program} {n0:Nat} {f:FuncId} {args:List SV} {dst:Option Nat} {r:List bF} {k:List It} {K:Ex→St→Prop} {env:List (Nat×SV)} {h:List (Option HB)} {pre us:List (Nat×HB)} {sv:SV}
 (hc:aK P f args pre us sv) (hp:aT (aB h) pre) (hu:aZ pre h us) (hn:G P n0 (.o r::k) K (gf dst sv env) (lZ h us)):rR P n0 f args dst r k K env h:=⟨pre,us,sv,hc,hp,hu,hn⟩
theorem ag {P:Program} {n0:Nat} {f:FuncId} {args:List SV} {dst:Option Nat} {r:List bF} {k:List It} {K:Ex→St→Prop} {env:List (Nat×SV)} {h:List (Option HB)} {sv:SV}
 (hc:aK P f args [] [] sv) (hn:G P n0 (.o r::k) K (gf dst sv env) h):rR P n0 f args dst r k K env h:=⟨[],[],sv,hc,fun q hq=>by simp at hq,trivial,hn⟩
theorem bV {P:Program} {n0:Nat} {aV:List Nat} {acc:List TE} {fD qZ:List Nat} {f:FuncId} {args:List SV} {dst:Option Nat} {r:List bF} {k:List It} {K:Ex→St→Prop} {env:List (Nat×SV)} {h:List (Option HB)} {pre us:List (Nat×HB)} {sv:SV}
 (hc:aK P f args pre us sv) (hp:aT (aB h) pre) (hu:aZ pre h us) (hn:G P n0 (.d aV (acc++[⟨fD,dst,qZ++pre.map (·.1),us.map (·.1)⟩]) r::k) K (gf dst sv env) (lZ h us)):rS P n0 aV acc fD qZ f args dst r k K env h:=⟨pre,us,sv,hc,hp,hu,hn⟩
theorem ah {P:Program} {n0:Nat} {aV:List Nat} {acc:List TE} {fD qZ:List Nat} {f:FuncId} {args:List SV} {dst:Option Nat} {r:List bF} {k:List It} {K:Ex→St→Prop} {env:List (Nat×SV)} {h:List (Option HB)} {sv:SV}
 (hc:aK P f args [] [] sv) (hn:G P n0 (.d aV (acc++[⟨fD,dst,qZ,[]⟩]) r::k) K (gf dst sv env) h):rS P n0 aV acc fD qZ f args dst r k K env h:=⟨[],[],sv,hc,fun q hq=>by simp at hq,trivial,by simpa [lZ] using hn⟩
theorem fH {P:Program} {n0:Nat} {a:AC} {k:List It} {K:Ex→St→Prop} {env:List (Nat×SV)} {h:List (Option HB)} {ι:Type} (en:ι→List (Nat×SV)) (hh:ι→List (Option HB)) (pr:ι→Prop) (μ:ι→Nat) (i0:ι)
 (h0:pr i0) (he:fV n0 ⟨env,h⟩ ⟨en i0,hh i0⟩)
 (hr:∀ i,pr i→∀ K':Ex→St→Prop,(∀ i' e' h',pr i'→μ i'<μ i→fV n0 ⟨e',h'⟩ ⟨en i',hh i'⟩→K' .normal ⟨e',h'⟩)→(∀ id e' h',GX P n0 id k K e' h'→K' (.exit id) ⟨e',h'⟩)→(∀ e' h',K .ret ⟨e',h'⟩→K' .ret ⟨e',h'⟩)→G P n0 [.c a] K' (en i) (hh i)) :
 G P n0 (.c (.loop a)::k) K env h:=by
 refine ⟨ι,fun i=>⟨en i,hh i⟩,pr,μ,i0,h0,he,fun i hi=>?_⟩
 refine hr i hi (nk (fun s'=>∃ i',pr i'∧μ i'<μ i∧fV n0 s' ⟨en i',hh i'⟩) (CI P n0 k K)) (fun i' e' h' h1 h2 h3=>⟨i',h1,h2,h3⟩) (fun id e' h' hx=>hx) (fun e' h' hx=>?_)
 show CI P n0 k K .ret _
 rw [rK];exact hx
theorem aA {P:Program} {n0:Nat} {k:List It} {K:Ex→St→Prop} {env:List (Nat×SV)} {h:List (Option HB)} (hg:G P n0 k K env h):G P n0 (.c .sg::k) K env h:=⟨⟨env,h⟩,fun _ _ _ R=>R,hg⟩
theorem jl {P:Program} {n0:Nat} {k:List It} {K:Ex→St→Prop} {env:List (Nat×SV)} {h:List (Option HB)} (env':List (Nat×SV)) (h':List (Option HB)) (he:fV n0 ⟨env,h⟩ ⟨env',h'⟩) (hg:G P n0 k K env' h'):G P n0 (.c .sg::k) K env h:=⟨⟨env',h'⟩,he,hg⟩
end Go.aL

namespace Go.aL
open Go
inductive Bk (σ:Nat→Option Nat):SV→SV→Prop where
 | dead (y:SV):Bk σ .dead y
 | rv (r:RV):Bk σ (.rv r) (.rv r)
 | ptr (j id off:Nat) (h:σ j=some id):Bk σ (.ptr j off) (.ptr id off)
 | bX (j id az i off:Nat) (h:σ j=some id):Bk σ (.bX j az i off) (.bX id az i off)
 | row (j id az len:Nat) (h:σ j=some id):Bk σ (.row j az len) (.row id az len)
 | win (j id az off len:Nat) (h:σ j=some id):Bk σ (.win j az off len) (.win id az off len)
 | agg (xs ys:List SV) (hl:xs.length=ys.length) (h:∀ (i:Nat) (x y:SV),xs[i]?=some x→ys[i]?=some y→Bk σ x y):Bk σ (.agg xs) (.agg ys)
 | aO (xs ys:List SV) (hl:xs.length=ys.length) (h:∀ (i:Nat) (x y:SV),xs[i]?=some x→ys[i]?=some y→Bk σ x y):Bk σ (.aO xs) (.aO ys)
 | fn (f:FuncId) (xs ys:List SV) (hl:xs.length=ys.length) (h:∀ (i:Nat) (x y:SV),xs[i]?=some x→ys[i]?=some y→Bk σ x y):Bk σ (.fn f xs) (.fn f ys)
 | fF (f:FuncId) (xs ys:List SV) (hl:xs.length=ys.length) (h:∀ (i:Nat) (x y:SV),xs[i]?=some x→ys[i]?=some y→Bk σ x y):Bk σ (.fF f xs) (.fF f ys)
 | bU (t:TypeId) (x y:SV) (h:Bk σ x y):Bk σ (.bU t x) (.bU t y)
def rJ (σ:Nat→Option Nat) (xs ys:List SV):Prop:=xs.length=ys.length∧∀ (i:Nat) (x y:SV),xs[i]?=some x→ys[i]?=some y→Bk σ x y
inductive mN (σ:Nat→Option Nat):HB→HB→Prop where
 | var (xs ys:List SV) (h:rJ σ xs ys):mN σ (.var xs) (.var ys)
 | row (e az:Nat) (xs ys:List (List SV)) (hl:xs.length=ys.length) (h:∀ (i:Nat) (x y:List SV),xs[i]?=some x→ys[i]?=some y→rJ σ x y):mN σ (.row e az xs) (.row e az ys)
section entry
variable {w:World} {ok fN:Nat→Prop} {aa aJ:Nat→Option Nat} {hp aD:Hp} {σ:Nat→Option Nat}
theorem Rp.back (hro:∀ b,ok b→fN b) (hs:∀ j id,σ j=some id→aJ j=aa id∧((hp id).isSome=true→(aD j).isSome=true)∧(∀ cs,aD j=some (.var cs)→∃ cs',hp id=some (.var cs'))∧∀ e az xs,aD j=some (.row e az xs)→∃ xs',hp id=some (.row e az xs')) {x y:SV} {v:Value} (hr:Rp w ok aa hp y v) (hb:Bk σ x y):Rp w fN aJ aD x v:=by
 induction hb generalizing v with
 | dead y=>exact .dead v
 | rv r=>cases hr with | rv _ _ h=>exact .rv r v (h.mono fun b hb _=>⟨hro b hb,rfl⟩)
 | ptr j id off hj=>
   obtain ⟨g1,g2,g3,g4⟩:=hs j id hj
   cases hr with
   | ptr _ _ _ h1 h0 h=>
     refine .ptr j off v h1 (g2 h0) (fun cs hc=>?_)
     obtain ⟨cs',nB⟩:=g3 cs hc
     rw [g1];exact h cs' nB
 | bX j id az i off hj=>
   obtain ⟨g1,g2,g3,g4⟩:=hs j id hj
   cases hr with
   | bX _ _ _ _ _ h1 h0 hv h=>
     refine .bX j az i off v h1 (g2 h0) (fun e fY xs hx=>?_) (fun e xs hx=>?_)
     ·obtain ⟨xs',hx'⟩:=g4 e fY xs hx;exact hv e fY xs' hx'
     ·obtain ⟨xs',hx'⟩:=g4 e az xs hx;rw [g1];exact h e xs' hx'
 | row j id az len hj=>
   obtain ⟨g1,g2,g3,g4⟩:=hs j id hj
   cases hr with
   | row _ _ _ _ h1 h0 hv h=>
     refine .row j az len v h1 (g2 h0) (fun e fY xs hx=>?_) (fun e xs hx=>?_)
     ·obtain ⟨xs',hx'⟩:=g4 e fY xs hx;exact hv e fY xs' hx'
     ·obtain ⟨xs',hx'⟩:=g4 e az xs hx;rw [g1];exact h e xs' hx'
 | win j id az off len hj=>
   obtain ⟨g1,g2,g3,g4⟩:=hs j id hj
   cases hr with
   | win _ _ _ _ _ h1 h0 hv hr hc=>
     refine .win j az off len v h1 (g2 h0) (fun e fY xs hx=>?_) (fun e xs hx=>?_) (fun cs hx=>?_)
     ·obtain ⟨xs',hx'⟩:=g4 e fY xs hx;exact hv e fY xs' hx'
     ·obtain ⟨xs',hx'⟩:=g4 e az xs hx;rw [g1];exact hr e xs' hx'
     ·obtain ⟨cs',hx'⟩:=g3 cs hx;rw [g1];exact hc cs' hx'
 | agg xs ys hl h ih=>
   cases hr with
   | agg _ vs hvl h1 hy=>
     refine .agg xs vs (by omega) h1 (fun j x hx=>?_)
     have hlt:=(List.getElem?_eq_some_iff.1 hx).1
     have fL:=List.getElem?_eq_getElem (l:=ys) (i:=j) (by omega)
     exact ih j x _ hx fL (hy j _ fL)
 | aO xs ys hl h ih=>
   cases hr with
   | aO _ vs hvl hy=>
     refine .aO xs vs (by omega) (fun j x hx=>?_)
     have hlt:=(List.getElem?_eq_some_iff.1 hx).1
     have fL:=List.getElem?_eq_getElem (l:=ys) (i:=j) (by omega)
     exact ih j x _ hx fL (hy j _ fL)
 | fn f xs ys hl h ih=>
   cases hr with
   | fn _ _ vs hvl hy=>
     refine .fn f xs vs (by omega) (fun j x hx=>?_)
     have hlt:=(List.getElem?_eq_some_iff.1 hx).1
     have fL:=List.getElem?_eq_getElem (l:=ys) (i:=j) (by omega)
     exact ih j x _ hx fL (hy j _ fL)
 | fF f xs ys hl h ih=>
   cases hr with
   | fF _ _ vs hvl hy=>
     refine .fF f xs vs (by omega) (fun j x hx=>?_)
     have hlt:=(List.getElem?_eq_some_iff.1 hx).1
     have fL:=List.getElem?_eq_getElem (l:=ys) (i:=j) (by omega)
     exact ih j x _ hx fL (hy j _ fL)
 | bU t x y h ih=>cases hr with | bU _ _ v0 h0=>exact .bU t x v0 (ih h0)
theorem gE.back (hro:∀ b,ok b→fN b) (hs:∀ j id,σ j=some id→aJ j=aa id∧((hp id).isSome=true→(aD j).isSome=true)∧(∀ cs,aD j=some (.var cs)→∃ cs',hp id=some (.var cs'))∧∀ e az xs,aD j=some (.row e az xs)→∃ xs',hp id=some (.row e az xs')) {cur:Array Value} {off:Nat} {xs ys:List SV} (h:gE w ok aa hp cur off ys) (hb:rJ σ xs ys):gE w fN aJ aD cur off xs:=fun j x hx=>by
 obtain ⟨hl,hb⟩:=hb
 have hlt:=(List.getElem?_eq_some_iff.1 hx).1
 have fL:=List.getElem?_eq_getElem (l:=ys) (i:=j) (by omega)
 obtain ⟨v,h1,h2,h3⟩:=h j _ fL
 exact ⟨v,h1,h2,h3.back hro hs (hb j x _ hx fL)⟩
theorem mb.back (hro:∀ b,ok b→fN b) (hs:∀ j id,σ j=some id→aJ j=aa id∧((hp id).isSome=true→(aD j).isSome=true)∧(∀ cs,aD j=some (.var cs)→∃ cs',hp id=some (.var cs'))∧∀ e az xs,aD j=some (.row e az xs)→∃ xs',hp id=some (.row e az xs')) {j id:Nat} (hj:σ j=some id) {x y:HB} (h:mb w ok aa hp id y) (hb:mN σ x y):mb w fN aJ aD j x:=by
 have g1:=(hs j id hj).1
 rcases h with ⟨h1,e,az,rfl⟩ | ⟨b,cur,t,h1,h2,h3⟩
 ·cases hb with
  | row _ _ xs _ hl _=>
    have:xs=[]:=List.eq_nil_of_length_eq_zero (by simpa using hl)
    subst this
    exact .inl ⟨g1.trans h1,e,az,rfl⟩
 ·refine .inr ⟨b,cur,t,g1.trans h1,h2,?_⟩
  cases hb with
  | var xs ys hb=>exact ⟨by rw [h3.1,hb.1],h3.2.back hro hs hb⟩
  | row e az xs ys hl hb=>
    obtain ⟨a1,a2,a3⟩:=h3
    refine ⟨fun x hx=>?_,by rw [hl];exact a2,fun i x hx=>?_⟩
    ·obtain ⟨i,hi,rfl⟩:=List.mem_iff_getElem.1 hx
     have hy:=List.getElem?_eq_getElem (l:=ys) (i:=i) (by omega)
     rw [(hb i _ _ (List.getElem?_eq_getElem hi) hy).1]
     exact a1 _ (List.getElem_mem _)
    ·have hlt:=(List.getElem?_eq_some_iff.1 hx).1
     have hy:=List.getElem?_eq_getElem (l:=ys) (i:=i) (by omega)
     exact (a3 i _ hy).back hro hs (hb i x _ hx hy)
end entry
inductive Fz (τ:Nat→Option Nat) (h:Hp):SV→RV→Prop where
 | rv (r:RV):Fz τ h (.rv r) r
 | ptr (j:Nat) (cs:List SV) (rs:List RV) (hj:τ j=none) (hh:h j=some (.var cs)) (hl:cs.length=rs.length) (h1:∀ (i:Nat) (r:RV),rs[i]?=some r→r.one=true) (hf:∀ (i:Nat) (x:SV) (r:RV),cs[i]?=some x→rs[i]?=some r→Fz τ h x r):Fz τ h (.ptr j 0) (.rop rs)
 | row (j e az len:Nat) (xs:List (List SV)) (rs:List (List RV)) (hj:τ j=none) (hh:h j=some (.row e az xs)) (hl:rs.length=len) (hx:len≤xs.length) (hm:∀ (i:Nat) (x:List SV) (r:List RV),xs[i]?=some x→rs[i]?=some r→x.length=r.length)
    (h1:∀ (i:Nat) (r:List RV) (k:Nat) (q:RV),rs[i]?=some r→r[k]?=some q→q.one=true) (hf:∀ (i:Nat) (x:List SV) (r:List RV) (k:Nat) (y:SV) (q:RV),xs[i]?=some x→rs[i]?=some r→x[k]?=some y→r[k]?=some q→Fz τ h y q):Fz τ h (.row j az len) (.sl e rs)
 | win (j az off e len:Nat) (cs:List SV) (rs:List (List RV)) (hj:τ j=none) (hh:h j=some (.var cs)) (hl:rs.length=len) (hx:off+len*e≤cs.length) (hm:∀ r∈rs,r.length=e)
    (h1:∀ (i:Nat) (r:List RV) (k:Nat) (q:RV),rs[i]?=some r→r[k]?=some q→q.one=true) (hf:∀ (i:Nat) (r:List RV) (k:Nat) (y:SV) (q:RV),rs[i]?=some r→cs[off+(i*e+k)]?=some y→r[k]?=some q→Fz τ h y q):Fz τ h (.win j az off len) (.sl e rs)
 | agg (cs:List SV) (rs:List RV) (hl:cs.length=rs.length) (h1:∀ (i:Nat) (r:RV),rs[i]?=some r→r.one=true) (hf:∀ (i:Nat) (x:SV) (r:RV),cs[i]?=some x→rs[i]?=some r→Fz τ h x r):Fz τ h (.agg cs) (.agg rs)
 | fn (f:FuncId) (cs:List SV) (rs:List RV) (hl:cs.length=rs.length) (hf:∀ (i:Nat) (x:SV) (r:RV),cs[i]?=some x→rs[i]?=some r→Fz τ h x r):Fz τ h (.fn f cs) (.fn f rs)
 | bU (t:TypeId) (x:SV) (r:RV) (hf:Fz τ h x r):Fz τ h (.bU t x) (.bU t r)
inductive Rn (τ:Nat→Option Nat) (h:Hp):SV→SV→Prop where
 | dead (x:SV):Rn τ h x .dead
 | fz (x:SV) (r:RV) (hf:Fz τ h x r):Rn τ h x (.rv r)
 | ptr (j id off:Nat) (hj:τ j=some id):Rn τ h (.ptr j off) (.ptr id off)
 | bX (j id az i off:Nat) (hj:τ j=some id):Rn τ h (.bX j az i off) (.bX id az i off)
 | row (j id az len:Nat) (hj:τ j=some id):Rn τ h (.row j az len) (.row id az len)
 | win (j id az off len:Nat) (hj:τ j=some id):Rn τ h (.win j az off len) (.win id az off len)
 | agg (xs ys:List SV) (hl:xs.length=ys.length) (hf:∀ (i:Nat) (x y:SV),xs[i]?=some x→ys[i]?=some y→Rn τ h x y):Rn τ h (.agg xs) (.agg ys)
 | aO (xs ys:List SV) (hl:xs.length=ys.length) (hf:∀ (i:Nat) (x y:SV),xs[i]?=some x→ys[i]?=some y→Rn τ h x y):Rn τ h (.aO xs) (.aO ys)
 | fn (f:FuncId) (xs ys:List SV) (hl:xs.length=ys.length) (hf:∀ (i:Nat) (x y:SV),xs[i]?=some x→ys[i]?=some y→Rn τ h x y):Rn τ h (.fn f xs) (.fn f ys)
 | fF (f:FuncId) (xs ys:List SV) (hl:xs.length=ys.length) (hf:∀ (i:Nat) (x y:SV),xs[i]?=some x→ys[i]?=some y→Rn τ h x y):Rn τ h (.fF f xs) (.fF f ys)
 | bU (t:TypeId) (x y:SV) (hf:Rn τ h x y):Rn τ h (.bU t x) (.bU t y)
def rO (τ:Nat→Option Nat) (h:Hp) (xs ys:List SV):Prop:=xs.length=ys.length∧∀ (i:Nat) (x y:SV),xs[i]?=some x→ys[i]?=some y→Rn τ h x y
inductive oS (τ:Nat→Option Nat) (h:Hp):HB→HB→Prop where
 | var (xs ys:List SV) (hf:rO τ h xs ys):oS τ h (.var xs) (.var ys)
 | row (e az:Nat) (xs ys:List (List SV)) (hl:xs.length=ys.length) (hf:∀ (i:Nat) (x y:List SV),xs[i]?=some x→ys[i]?=some y→rO τ h x y):oS τ h (.row e az xs) (.row e az ys)
section leave
variable {w:World} {ok fN:Nat→Prop} {aa aJ:Nat→Option Nat} {hp aD:Hp} {τ:Nat→Option Nat}
theorem Fz.ro (hro:∀ b,fN b→ok b) (hfz:∀ j b,τ j=none→(aD j).isSome=true→aJ j=some b→ok b) (hmem:∀ j hb,aD j=some hb→mb w fN aJ aD j hb) {x:SV} {r:RV} {v:Value} (hr:Rp w fN aJ aD x v) (hf:Fz τ aD x r):RO w ok r v:=by
 induction hf generalizing v with
 | rv r=>cases hr with | rv _ _ h=>exact h.mono fun b hb _=>⟨hro b hb,rfl⟩
 | ptr j cs rs hj hh hl ho hf ih=>
   cases hr with
   | ptr _ _ _ h1 h0 h=>
     obtain ⟨b,hb,rfl⟩:=h cs hh
     rcases hmem j _ hh with ⟨h1,_⟩ | ⟨b',cur,t,h1,h2,h3⟩
     ·rw [hb] at h1;cases h1
     ·rw [hb] at h1;cases h1
      have hcell:∀ (i:Nat) (r:RV),rs[i]?=some r→∃ u,w.cell? ((⟨b,0,none⟩:Addr).add i)=some u∧RO w ok r u∧r.one=true:=fun i r hi=>by
       have hlt:=(List.getElem?_eq_some_iff.1 hi).1
       have hx:=List.getElem?_eq_getElem (l:=cs) (i:=i) (by omega)
       obtain ⟨u,a1,a2,a3⟩:=h3.2 i _ hx
       refine ⟨u,?_,ih i _ r hx hi a3,ho i r hi⟩
       rw [add_lit,pS h2];exact a1
      refine .rop rs ⟨b,0,none⟩ (fun i=>(w.cell? ((⟨b,0,none⟩:Addr).add i)).getD undef) (fun i r hi=>?_) (fun i r hi=>?_) (fun i r hi=>?_)
      ·obtain ⟨u,a1,_⟩:=hcell i r hi
       exact ⟨hfz j b hj (by simp [hh]) hb,by rw [a1];rfl⟩
      ·obtain ⟨u,_,_,a3⟩:=hcell i r hi;exact a3
      ·obtain ⟨u,a1,a2,_⟩:=hcell i r hi;rw [a1];exact a2
 | row j e az len xs rs hj hh hl hx hm ho hf ih=>
   cases hr with
   | row _ _ _ _ h1 h0 hv h=>
     rcases h e xs hh with ⟨g1,rfl,g3⟩ | ⟨b,cap,cur,t,g1,rfl,g3,g4,g5,g6⟩
     ·have:rs=[]:=List.eq_nil_of_length_eq_zero (by omega)
      subst this
      exact .sl e [] none 0 (fun _ _=>undef) (fun _=>⟨rfl,rfl⟩) (by simp) (by simp [maxLen]) (by simp) (fun i x j y hx=>by simp at hx) (fun i x j y hx=>by simp at hx) (fun i x j y hx=>by simp at hx)
     ·rcases hmem j _ hh with ⟨h1,_⟩ | ⟨b',cur',t',k1,k2,k3⟩
      ·rw [g1] at h1;cases h1
      ·rw [g1] at k1;cases k1
       rw [g3] at k2;cases k2
       obtain ⟨a1,a2,a3⟩:=k3
       have hlen:∀ (i:Nat) (r:List RV),rs[i]?=some r→∃ x,xs[i]?=some x∧x.length=e∧x.length=r.length:=fun i r hi=>by
        have hlt:=(List.getElem?_eq_some_iff.1 hi).1
        have ke:=List.getElem?_eq_getElem (l:=xs) (i:=i) (by omega)
        exact ⟨_,ke,a1 _ (List.getElem_mem _),hm i _ r ke hi⟩
       have hcell:∀ (i:Nat) (r:List RV) (k:Nat) (q:RV),rs[i]?=some r→r[k]?=some q→∃ u,w.cell? ((⟨b,0,none⟩:Addr).add (i*e+k))=some u∧RO w ok q u∧q.one=true:=fun i r k q hi hk=>by
        obtain ⟨x,ke,qM,Wp⟩:=hlen i r hi
        have hlt:=(List.getElem?_eq_some_iff.1 hk).1
        have hy:=List.getElem?_eq_getElem (l:=x) (i:=k) (by omega)
        obtain ⟨u,b1,b2,b3⟩:=a3 i x ke k _ hy
        refine ⟨u,?_,ih i x r k _ q ke hi hy hk b3,ho i r k q hi hk⟩
        rw [add_lit,pS g3,Nat.zero_add];exact b1
       rw [← hl]
       refine .sl e rs (some ⟨b,0,none⟩) cap (fun i k=>(w.cell? ((⟨b,0,none⟩:Addr).add (i*e+k))).getD undef) (fun h=>by cases h) (by omega) g5 (fun r hr=>?_) (fun i r k q hi hk=>?_) (fun i r k q hi hk=>?_) (fun i r k q hi hk=>?_)
       ·obtain ⟨i,hi,rfl⟩:=List.mem_iff_getElem.1 hr
        obtain ⟨x,_,b1,b2⟩:=hlen i _ (List.getElem?_eq_getElem hi)
        omega
       ·obtain ⟨u,b1,_⟩:=hcell i r k q hi hk
        exact ⟨_,rfl,hfz j b hj (by simp [hh]) g1,by rw [b1];rfl⟩
       ·obtain ⟨u,_,_,b3⟩:=hcell i r k q hi hk;exact b3
       ·obtain ⟨u,b1,b2,_⟩:=hcell i r k q hi hk;rw [b1];exact b2
 | win j az off e len cs rs hj hh hl hx hm ho hf ih=>
   cases hr with
   | win _ _ _ _ _ h1 h0 hv hr hc=>
     obtain ⟨ad,cap,rfl,g1,g2,g3,g4⟩:=hc cs hh
     rw [← hl]
     have key:∀ (i:Nat) (r:List RV) (k:Nat) (q:RV),rs[i]?=some r→r[k]?=some q→∃ a u,ad=some a∧ok a.block∧w.cell? (a.add (i*e+k))=some u∧RO w ok q u:=fun i r k q hi hk=>by
      have hlt:=(List.getElem?_eq_some_iff.1 hi).1
      have Wk:=hm r (List.mem_of_getElem? hi)
      have gI:=(List.getElem?_eq_some_iff.1 hk).1
      obtain ⟨b,hb,rfl⟩:=g4 (by omega)
      rcases hmem j _ hh with ⟨h1,_,_,h2⟩ | ⟨b',cur,t,a1,a2,a3⟩
      ·cases h2
      ·rw [hb] at a1;cases a1
       have hik:i*e+k<len*e:=by
        have:(i+1)*e≤len*e:=Nat.mul_le_mul_right _ (by omega)
        rw [Nat.add_mul] at this;omega
       have hy:=List.getElem?_eq_getElem (l:=cs) (i:=off+(i*e+k)) (by omega)
       obtain ⟨u,b1,b2,b3⟩:=a3.2 _ _ hy
       refine ⟨⟨b,off,none⟩,u,rfl,hfz j b hj (by simp [hh]) hb,?_,ih i r k _ q hi hy hk b3⟩
       rw [add_lit,pS a2];simpa using b1
     refine .sl e rs ad cap (fun i k=>match ad with | some a=>(w.cell? (a.add (i*e+k))).getD undef | none=>undef) (fun h=>?_) (by omega) g2 hm (fun i r k q hi hk=>?_) ho (fun i r k q hi hk=>?_)
     ·have:=g3 h;exact ⟨List.eq_nil_of_length_eq_zero (by omega),this⟩
     ·obtain ⟨a,u,rfl,b1,b2,b3⟩:=key i r k q hi hk
      exact ⟨a,rfl,b1,by simp only [b2];rfl⟩
     ·obtain ⟨a,u,rfl,b1,b2,b3⟩:=key i r k q hi hk
      simp only [b2];exact b3
 | agg cs rs hl ho hf ih=>
   cases hr with
   | agg _ vs hvl h1 hy=>
     refine .agg rs vs (by omega) (fun i r hi=>?_) (fun i r hi=>?_)
     ·have hlt:=(List.getElem?_eq_some_iff.1 hi).1
      exact ho i r hi
     ·have hlt:=(List.getElem?_eq_some_iff.1 hi).1
      have hx:=List.getElem?_eq_getElem (l:=cs) (i:=i) (by omega)
      exact ih i _ r hx hi (hy i _ hx)
 | fn f cs rs hl hf ih=>
   cases hr with
   | fn _ _ vs hvl hy=>
     refine .fn f rs vs (by omega) (fun i r hi=>?_)
     have hlt:=(List.getElem?_eq_some_iff.1 hi).1
     have hx:=List.getElem?_eq_getElem (l:=cs) (i:=i) (by omega)
     exact ih i _ r hx hi (hy i _ hx)
 | bU t x r hf ih=>cases hr with | bU _ _ v0 h0=>exact .bU t r v0 (ih h0)
theorem Rp.leave (hro:∀ b,fN b→ok b) (hfz:∀ j b,τ j=none→(aD j).isSome=true→aJ j=some b→ok b) (hmem:∀ j hb,aD j=some hb→mb w fN aJ aD j hb)
 (hs:∀ j id,τ j=some id→aJ j=aa id∧((aD j).isSome=true→(hp id).isSome=true)∧(∀ cs,hp id=some (.var cs)→∃ cs',aD j=some (.var cs'))∧∀ e az xs,hp id=some (.row e az xs)→∃ xs',aD j=some (.row e az xs'))
 {x y:SV} {v:Value} (hr:Rp w fN aJ aD x v) (hf:Rn τ aD x y):Rp w ok aa hp y v:=by
 induction hf generalizing v with
 | dead x=>exact .dead v
 | fz x r hf=>exact .rv r v (Fz.ro hro hfz hmem hr hf)
 | ptr j id off hj=>
   obtain ⟨g1,g2,g3,g4⟩:=hs j id hj
   cases hr with
   | ptr _ _ _ h1 h0 h=>
     refine .ptr id off v h1 (g2 h0) (fun cs hc=>?_)
     obtain ⟨cs',nB⟩:=g3 cs hc
     rw [← g1];exact h cs' nB
 | bX j id az i off hj=>
   obtain ⟨g1,g2,g3,g4⟩:=hs j id hj
   cases hr with
   | bX _ _ _ _ _ h1 h0 hv h=>
     refine .bX id az i off v h1 (g2 h0) (fun e fY xs hx=>?_) (fun e xs hx=>?_)
     ·obtain ⟨xs',hx'⟩:=g4 e fY xs hx;exact hv e fY xs' hx'
     ·obtain ⟨xs',hx'⟩:=g4 e az xs hx;rw [← g1];exact h e xs' hx'
 | row j id az len hj=>
   obtain ⟨g1,g2,g3,g4⟩:=hs j id hj
   cases hr with
   | row _ _ _ _ h1 h0 hv h=>
     refine .row id az len v h1 (g2 h0) (fun e fY xs hx=>?_) (fun e xs hx=>?_)
     ·obtain ⟨xs',hx'⟩:=g4 e fY xs hx;exact hv e fY xs' hx'
     ·obtain ⟨xs',hx'⟩:=g4 e az xs hx;rw [← g1];exact h e xs' hx'
 | win j id az off len hj=>
   obtain ⟨g1,g2,g3,g4⟩:=hs j id hj
   cases hr with
   | win _ _ _ _ _ h1 h0 hv hr hc=>
     refine .win id az off len v h1 (g2 h0) (fun e fY xs hx=>?_) (fun e xs hx=>?_) (fun cs hx=>?_)
     ·obtain ⟨xs',hx'⟩:=g4 e fY xs hx;exact hv e fY xs' hx'
     ·obtain ⟨xs',hx'⟩:=g4 e az xs hx;rw [← g1];exact hr e xs' hx'
     ·obtain ⟨cs',hx'⟩:=g3 cs hx;rw [← g1];exact hc cs' hx'
 | agg xs ys hl h ih=>
   cases hr with
   | agg _ vs hvl h1 hy=>
     refine .agg ys vs (by omega) h1 (fun j y fL=>?_)
     have hlt:=(List.getElem?_eq_some_iff.1 fL).1
     have hx:=List.getElem?_eq_getElem (l:=xs) (i:=j) (by omega)
     exact ih j _ y hx fL (hy j _ hx)
 | aO xs ys hl h ih=>
   cases hr with
   | aO _ vs hvl hy=>
     refine .aO ys vs (by omega) (fun j y fL=>?_)
     have hlt:=(List.getElem?_eq_some_iff.1 fL).1
     have hx:=List.getElem?_eq_getElem (l:=xs) (i:=j) (by omega)
     exact ih j _ y hx fL (hy j _ hx)
 | fn f xs ys hl h ih=>
   cases hr with
   | fn _ _ vs hvl hy=>
     refine .fn f ys vs (by omega) (fun j y fL=>?_)
     have hlt:=(List.getElem?_eq_some_iff.1 fL).1
     have hx:=List.getElem?_eq_getElem (l:=xs) (i:=j) (by omega)
     exact ih j _ y hx fL (hy j _ hx)
 | fF f xs ys hl h ih=>
   cases hr with
   | fF _ _ vs hvl hy=>
     refine .fF f ys vs (by omega) (fun j y fL=>?_)
     have hlt:=(List.getElem?_eq_some_iff.1 fL).1
     have hx:=List.getElem?_eq_getElem (l:=xs) (i:=j) (by omega)
     exact ih j _ y hx fL (hy j _ hx)
 | bU t x y h ih=>cases hr with | bU _ _ v0 h0=>exact .bU t y v0 (ih h0)
theorem gE.leave (hro:∀ b,fN b→ok b) (hfz:∀ j b,τ j=none→(aD j).isSome=true→aJ j=some b→ok b) (hmem:∀ j hb,aD j=some hb→mb w fN aJ aD j hb)
 (hs:∀ j id,τ j=some id→aJ j=aa id∧((aD j).isSome=true→(hp id).isSome=true)∧(∀ cs,hp id=some (.var cs)→∃ cs',aD j=some (.var cs'))∧∀ e az xs,hp id=some (.row e az xs)→∃ xs',aD j=some (.row e az xs'))
 {cur:Array Value} {off:Nat} {xs ys:List SV} (h:gE w fN aJ aD cur off xs) (hb:rO τ aD xs ys):gE w ok aa hp cur off ys:=fun j y fL=>by
 obtain ⟨hl,hb⟩:=hb
 have hlt:=(List.getElem?_eq_some_iff.1 fL).1
 have hx:=List.getElem?_eq_getElem (l:=xs) (i:=j) (by omega)
 obtain ⟨v,h1,h2,h3⟩:=h j _ hx
 exact ⟨v,h1,h2,h3.leave hro hfz hmem hs (hb j _ y hx fL)⟩
theorem mb.leave (hro:∀ b,fN b→ok b) (hfz:∀ j b,τ j=none→(aD j).isSome=true→aJ j=some b→ok b) (hmem:∀ j hb,aD j=some hb→mb w fN aJ aD j hb)
 (hs:∀ j id,τ j=some id→aJ j=aa id∧((aD j).isSome=true→(hp id).isSome=true)∧(∀ cs,hp id=some (.var cs)→∃ cs',aD j=some (.var cs'))∧∀ e az xs,hp id=some (.row e az xs)→∃ xs',aD j=some (.row e az xs'))
 {j id:Nat} (hj:τ j=some id) {x y:HB} (h:mb w fN aJ aD j x) (hb:oS τ aD x y):mb w ok aa hp id y:=by
 have g1:=(hs j id hj).1
 rcases h with ⟨h1,e,az,rfl⟩ | ⟨b,cur,t,h1,h2,h3⟩
 ·cases hb with
  | row _ _ _ ys hl _=>
    have:ys=[]:=List.eq_nil_of_length_eq_zero (by simpa using hl.symm)
    subst this
    exact .inl ⟨g1.symm.trans h1,e,az,rfl⟩
 ·refine .inr ⟨b,cur,t,g1.symm.trans h1,h2,?_⟩
  cases hb with
  | var xs ys hb=>exact ⟨h3.1.trans hb.1,h3.2.leave hro hfz hmem hs hb⟩
  | row e az xs ys hl hb=>
    obtain ⟨a1,a2,a3⟩:=h3
    refine ⟨fun y hy=>?_,by rw [← hl];exact a2,fun i y hy=>?_⟩
    ·obtain ⟨i,hi,rfl⟩:=List.mem_iff_getElem.1 hy
     have hx:=List.getElem?_eq_getElem (l:=xs) (i:=i) (by omega)
     rw [← (hb i _ _ hx (List.getElem?_eq_getElem hi)).1]
     exact a1 _ (List.getElem_mem _)
    ·have hlt:=(List.getElem?_eq_some_iff.1 hy).1
     have hx:=List.getElem?_eq_getElem (l:=xs) (i:=i) (by omega)
     exact (a3 i _ hx).leave hro hfz hmem hs (hb i _ y hx hy)
end leave
end Go.aL

namespace Go.aL
open Go
inductive RR where
 | t (n:Nat)
 | c (a n:Nat) (agg:Bool)
 deriving DecidableEq
def qD (P:Program):List ResultVar→Option (List RR)
 | []=>some []
 | .tmp t::r=>match qD P r with
   | some l=>some (.t t::l)
   | none=>none
 | .cell a t::r=>match cg P t,fC P t,qD P r with
   | some n,some agg,some l=>some (.c a n agg::l)
   | _,_,_=>none
def aQ (en:Nat→SV) (hp:Hp):List RR→Option (Prop×List SV)
 | []=>some (True,[])
 | .t n::r=>match aQ en hp r with
   | some (p,xs)=>some (p,en n::xs)
   | none=>none
 | .c a n agg::r=>match ij n agg hp (en a),aQ en hp r with
   | some (q,x,_,_),some (p,xs)=>some (q∧p,x::xs)
   | _,_=>none
def aX:List SV→SV
 | [x]=>x
 | xs=>.aO xs
def nJ:Nat→List SV→List (Nat×SV)
 | _,[]=>[]
 | n,x::r=>(n,x)::nJ (n+1) r
theorem Gl:∀ (xs:List SV) (n m:Nat),lk (nJ n xs) m=if n≤m then (xs[m - n]?).getD .dead else .dead
 | [],n,m=>by simp [nJ,lk]
 | x::r,n,m=>by
   unfold nJ lk
   by_cases h:n=m
   ·subst h;simp
   ·rw [if_neg h,Gl r (n+1) m]
    by_cases h1:n+1≤m
    ·rw [if_pos h1,if_pos (by omega)]
     rw [show m - n=(m - (n+1))+1 by omega,List.getElem?_cons_succ]
    ·rw [if_neg h1,if_neg (by omega)]
structure Fin (σ:List Nat) (pre us:List (Nat×HB)) (rs:List RR) (sv:SV) (env:List (Nat×SV)) (h:List (Option HB)) (τ:Nat→Option Nat):Prop where
 inj:∀ i j id,τ i=some id→τ j=some id→i=j
 old:∀ (j id:Nat),σ[j]?=some id→τ j=some id
 new:∀ j id,τ j=some id→σ.length≤j→id∈us.map (·.1)∧∀ q∈pre,q.1≠id
 has:∀ j id,τ j=some id→∃ hb hb',aB h j=some hb∧oS τ (aB h) hb hb'∧∀ hp,aT hp pre→bM hp us id=some hb'
 all:∀ q∈us,∃ j,τ j=some q.1
 res:∃ p xs,aQ (lk env) (aB h) rs=some (p,xs)∧p∧Rn τ (aB h) (aX xs) sv
theorem zS {hp:Hp}:∀ {us:List (Nat×HB)} {id:Nat},id∉us.map (·.1)→bM hp us id=hp id
 | us,id,h=>td (fun q hq he=>h (List.mem_map.2 ⟨q,hq,he⟩))
def Cp (vs:List Value):Value:=match vs with
 | [v]=>v
 | vs=>.tuple vs.toArray
theorem Tc {w:World} {ok:Nat→Prop} {aa:Nat→Option Nat} {hp:Hp} {xs:List SV} {vs:List Value} (hl:vs.length=xs.length) (h:∀ (j:Nat) (x:SV),xs[j]?=some x→Rp w ok aa hp x (vs.getD j undef)):Rp w ok aa hp (aX xs) (Cp vs):=by
 match xs,vs with
 | [],[]=>exact .aO [] [] rfl h
 | [x],[v]=>exact h 0 x rfl
 | x::y::r,u::v::s=>exact .aO _ _ hl h
theorem RP {P:Program} {t:TypeId} {v x:Value} {w w':World} (h:(Instr.loadAt t v).run P w = .ok x w'):(do loadVar t (← asAddr v):Sem Value).run P w = .ok x w':=by
 cases v with
 | pointer a=>
   cases a with
   | some a=>exact h
   | none=>simp [Instr.loadAt,Instr.sureAddr,stuck,Result.andThen] at h
 | _=>simp [Instr.loadAt,Instr.sureAddr,stuck,Result.andThen] at h
theorem Tl {P:Program} {C:Ctx} {hp:Hp} {w:World} {aa:Nat→Option Nat} (R:cm C hp w aa) {en:Nat→SV} {tmps:Array Value} (he:∀ n,Rp w (aH C aa hp) aa hp (en n) (tmps.getD n undef)) {fn:Func} {rs:List RR} (h:qD P fn.results.toList=some rs) {p:Prop} {xs:List SV} (hr:aQ en hp rs=some (p,xs)) (aD:p) :
 ∃ vs,(results fn tmps).run P w = .ok (Cp vs) w∧Rp w (aH C aa hp) aa hp (aX xs) (Cp vs):=by
 have key:∀ (l:List ResultVar) (rs:List RR) (p:Prop) (xs:List SV),qD P l=some rs→aQ en hp rs=some (p,xs)→p→∃ vs,vs.length=xs.length∧(∀ (j:Nat) (x:SV),xs[j]?=some x→Rp w (aH C aa hp) aa hp x (vs.getD j undef))∧(l.mapM fun r=>(match r with
  | .tmp t=>pure (tmps.getD t undef)
  | .cell a t=>do loadVar t (← asAddr (tmps.getD a undef)):Sem Value)).run P w = .ok vs w:=by
  intro l
  induction l with
  | nil=>intro rs p xs h hr hp;cases h;cases hr;exact ⟨[],rfl,fun j x hx=>by simp at hx,rfl⟩
  | cons x r ih=>
    intro rs p xs h hr hp
    cases x with
    | tmp t=>
      unfold qD at h
      split at h
      ·rename_i l hl
       cases h
       unfold aQ at hr
       split at hr
       ·rename_i p0 gC yN
        cases hr
        obtain ⟨vs,h1,h2,h3⟩:=ih l p gC hl yN hp
        refine ⟨tmps.getD t undef::vs,by simp [h1],fun j x hx=>?_,?_⟩
        ·cases j with
         | zero=>simp at hx;subst hx;exact he t
         | succ j=>exact h2 j x (by simpa using hx)
        ·simp only [List.mapM_cons,Sem.run_bind,Sem.run_pure,h3,Result.andThen]
       ·cases hr
      ·cases h
    | cell a t=>
      unfold qD at h
      split at h
      ·rename_i n agg l hs ha hl
       cases h
       unfold aQ at hr
       split at hr
       ·rename_i q x u rd p0 gC hE yN
        cases hr
        obtain ⟨vs,h1,h2,h3⟩:=ih l p0 gC hl yN hp.2
        obtain ⟨_,y,hy1,yO⟩:=BW R hs ha (he a) hE hp.1
        refine ⟨y::vs,by simp [h1],fun j x hx=>?_,?_⟩
        ·cases j with
         | zero=>simp at hx;subst hx;exact yO
         | succ j=>exact h2 j x (by simpa using hx)
        ·have:=RP hy1
         rw [List.mapM_cons,Sem.run_bind]
         refine (congrArg (fun r=>Result.andThen r _) this).trans ?_
         simp only [Result.andThen,Sem.run_bind,h3,Sem.run_pure]
       ·cases hr
      ·cases h
 obtain ⟨vs,h1,h2,h3⟩:=key _ _ _ _ h hr aD
 have hm:(fn.results.mapM fun r=>(match r with
  | .tmp t=>pure (tmps.getD t undef)
  | .cell a t=>do loadVar t (← asAddr (tmps.getD a undef)):Sem Value)).run P w = .ok vs.toArray w:=by
  rw [Array.mapM_eq_mapM_toList,Sem.run_map,h3]
  rfl
 refine ⟨vs,?_,Tc h1 h2⟩
 unfold results
 rw [Sem.run_bind]
 refine (congrArg (fun r=>Result.andThen r _) hm).trans ?_
 show (pure _:Sem Value).run P w=_
 rw [Sem.run_pure]
 match vs with
 | []=>rfl
 | [t]=>rfl
 | t::u::r=>rfl
section
variable {P:Program} {C:Ctx} {hp:Hp} {w:World} {aa:Nat→Option Nat}
def inner (C:Ctx) (aa:Nat→Option Nat) (hp:Hp) (w:World) (N:Nat) (σ:List Nat) (hs0:List (Option HB)):Ctx:=
 ⟨w,aH C aa hp,fun b=>∃ (j:Nat) (id:Nat),σ[j]?=some id∧aa id=some b,N,fun j=>(σ[j]?).bind aa,aB hs0⟩
theorem pn {hs:List (Option HB)} {j:Nat} {hb:HB}:aB hs j=some hb↔hs[j]?=some (some hb):=by
 unfold aB
 cases h:hs[j]? with
 | none=>simp
 | some x=>simp
theorem Lv (R:cm C hp w aa) {N:Nat} {σ:List Nat} {hs0:List (Option HB)} {pre:List (Nat×HB)} (hpre:aT hp pre) (hl:hs0.length=σ.length) (hinj:∀ (i j id:Nat),σ[i]?=some id→σ[j]?=some id→i=j)
 (ox:∀ (j id:Nat),σ[j]?=some id→∃ hb hb',hs0[j]?=some (some hb)∧(id,hb')∈pre∧mN (fun j=>σ[j]?) hb hb') :
 cm (inner C aa hp w N σ hs0) (aB hs0) w (fun j=>(σ[j]?).bind aa)∧(∀ b,aH C aa hp b→aH (inner C aa hp w N σ hs0) (fun j=>(σ[j]?).bind aa) (aB hs0) b)∧
 (∀ {x y:SV} {v:Value},Rp w (aH C aa hp) aa hp y v→Bk (fun j=>σ[j]?) x y→Rp w (aH (inner C aa hp w N σ hs0) (fun j=>(σ[j]?).bind aa) (aB hs0)) (fun j=>(σ[j]?).bind aa) (aB hs0) x v):=by
 have at_:∀ j hb,aB hs0 j=some hb→∃ id hb',σ[j]?=some id∧hp id=some hb'∧mN (fun j=>σ[j]?) hb hb':=fun j hb h=>by
  rw [pn] at h
  have hlt:=(List.getElem?_eq_some_iff.1 h).1
  have hid:=List.getElem?_eq_getElem (l:=σ) (i:=j) (by omega)
  obtain ⟨hb0,hb',h1,h2,h3⟩:=ox j _ hid
  rw [h] at h1;cases h1
  exact ⟨_,hb',hid,hpre _ h2,h3⟩
 have hro:∀ b,aH C aa hp b→aH (inner C aa hp w N σ hs0) (fun j=>(σ[j]?).bind aa) (aB hs0) b:=fun b hb=>by
  refine ⟨.inl hb,fun j hj=>?_⟩
  obtain ⟨x,hx⟩:=Option.isSome_iff_exists.1 hj
  obtain ⟨id,hb',h1,h2,h3⟩:=at_ j x hx
  simp only [h1,Option.bind_some]
  exact hb.2 id (by simp [h2])
 have hs:∀ (j id:Nat),σ[j]?=some id→(σ[j]?).bind aa=aa id∧((hp id).isSome=true→(aB hs0 j).isSome=true)∧(∀ cs,aB hs0 j=some (.var cs)→∃ cs',hp id=some (.var cs'))∧∀ e az xs,aB hs0 j=some (.row e az xs)→∃ xs',hp id=some (.row e az xs'):=fun j id h=>by
  obtain ⟨hb0,hb',h1,h2,h3⟩:=ox j id h
  refine ⟨by rw [h];rfl,fun _=>by rw [pn.2 h1];rfl,fun cs hc=>?_,fun e az xs hc=>?_⟩
  ·rw [pn.2 h1] at hc;cases hc
   cases h3 with
   | var _ ys _=>exact ⟨ys,hpre _ h2⟩
  ·rw [pn.2 h1] at hc;cases hc
   cases h3 with
   | row _ _ _ ys _ _=>exact ⟨ys,hpre _ h2⟩
 refine ⟨⟨fun j hb h=>?_,fun i j b h1 h2 h3 h4=>?_,fun j b h1 h2=>?_,⟨rfl,rfl,rfl,Nat.le_refl _,fun b _ _=>rfl⟩,fun j hb hb0 h1 h2=>?_⟩,hro,fun hr hb=>hr.back hro hs hb⟩
 ·obtain ⟨id,hb',h1,h2,h3⟩:=at_ j hb h
  exact (R.heap id hb' h2).back hro hs h1 h3
 ·obtain ⟨x,hx⟩:=Option.isSome_iff_exists.1 h1
  obtain ⟨y,hy⟩:=Option.isSome_iff_exists.1 h2
  obtain ⟨id,_,a1,a2,_⟩:=at_ i x hx
  obtain ⟨id',_,b1,b2,_⟩:=at_ j y hy
  simp only [a1,b1,Option.bind_some] at h3 h4
  obtain rfl:=R.inj id id' b (by simp [a2]) (by simp [b2]) h3 h4
  exact hinj i j id a1 b1
 ·obtain ⟨x,hx⟩:=Option.isSome_iff_exists.1 h1
  obtain ⟨id,_,a1,a2,_⟩:=at_ j x hx
  simp only [a1,Option.bind_some] at h2
  exact ⟨.inl ⟨h1,by simp only [inner,a1,Option.bind_some];exact h2,j,id,a1,h2⟩,(R.own id b (by simp [a2]) h2).2⟩
 ·have qb:aB hs0 j=some hb0:=h2
  rw [h1] at qb;cases qb
  exact js.refl _ _ _
theorem Rw (R:cm C hp w aa) {N:Nat} {σ:List Nat} {hs0:List (Option HB)} {pre us:List (Nat×HB)} (hpre:aT hp pre) (hnew:rM C hp pre us)
 (ox:∀ (j id:Nat),σ[j]?=some id→∃ hb hb',hs0[j]?=some (some hb)∧(id,hb')∈pre∧mN (fun j=>σ[j]?) hb hb')
 {w':World} {aJ:Nat→Option Nat} {h:List (Option HB)} (R':cm (inner C aa hp w N σ hs0) (aB h) w' aJ) {rs:List RR} {sv:SV} {env:List (Nat×SV)} {τ:Nat→Option Nat} (F:Fin σ pre us rs sv env h τ) :
 ∃ gu,Step C hp (bM hp us) w w' aa gu∧∀ (x y:SV) (v:Value),Rp w' (aH (inner C aa hp w N σ hs0) aJ (aB h)) aJ (aB h) x v→Rn τ (aB h) x y→Rp w' (aH C gu (bM hp us)) gu (bM hp us) y v:=by
 classical
 let gu:Nat→Option Nat:=fun id=>if h:∃ j,τ j=some id then aJ h.choose else aa id
 have rT:∀ j id,τ j=some id→gu id=aJ j:=fun j id hj=>by
  have hex:∃ j,τ j=some id:=⟨j,hj⟩
  show (if h:∃ j,τ j=some id then aJ h.choose else aa id)=_
  rw [dif_pos hex,F.inj _ _ _ hex.choose_spec hj]
 have rN:∀ id,(¬ ∃ j,τ j=some id)→gu id=aa id:=fun id hj=>by
  show (if h:∃ j,τ j=some id then aJ h.choose else aa id)=_
  rw [dif_neg hj]
 have hT:∀ j id,τ j=some id→∃ hb hb',aB h j=some hb∧oS τ (aB h) hb hb'∧bM hp us id=some hb':=fun j id hj=>by
  obtain ⟨hb,hb',h1,h2,h3⟩:=F.has j id hj
  exact ⟨hb,hb',h1,h2,h3 hp hpre⟩
 have hN:∀ id,(¬ ∃ j,τ j=some id)→bM hp us id=hp id:=fun id hj=>td (fun q hq he=>hj (by rw [← he];exact F.all q hq))
 have hold:∀ j id,τ j=some id→(hp id).isSome=true→σ[j]?=some id:=fun j id hj hs=>by
  by_cases hlt:j<σ.length
  ·have hid:=List.getElem?_eq_getElem hlt
   have:=F.old j _ hid
   rw [hj] at this;cases this
   exact hid
  ·obtain ⟨hu,hq⟩:=F.new j id hj (by omega)
   obtain ⟨q,Bt,nc⟩:=List.mem_map.1 hu
   rcases hnew q Bt with ⟨hb,hm⟩ | ⟨hn,_⟩
   ·exact absurd nc (hq (q.1,hb) hm)
   ·rw [nc] at hn;rw [hn] at hs;cases hs
 have hnone:∀ j id,τ j=some id→hp id=none→C.h0 id=none:=fun j id hj hn=>by
  by_cases hlt:j<σ.length
  ·have hid:=List.getElem?_eq_getElem hlt
   have:=F.old j _ hid
   rw [hj] at this;cases this
   obtain ⟨hb,hb',_,h2,_⟩:=ox j _ hid
   rw [hpre _ h2] at hn;cases hn
  ·obtain ⟨hu,hq⟩:=F.new j id hj (by omega)
   obtain ⟨q,Bt,nc⟩:=List.mem_map.1 hu
   rcases hnew q Bt with ⟨hb,hm⟩ | ⟨_,hn⟩
   ·exact absurd nc (hq (q.1,hb) hm)
   ·rw [← nc];exact hn
 have hsz:w.heap.size≤w'.heap.size:=R'.fr.size
 have iD:∀ b,b<w.heap.size→(∀ j id,σ[j]?=some id→aa id≠some b)→w'.heap[b]?=w.heap[b]?:=fun b hb hn=>R'.fr.block b hb (fun ⟨j,id,h1,h2⟩=>hn j id h1 h2)
 have hin:∀ (j id:Nat),σ[j]?=some id→(hp id).isSome=true:=fun j id hj=>by
  obtain ⟨hb,hb',_,h2,_⟩:=ox j id hj
  rw [hpre _ h2];rfl
 have vr:∀ j id,τ j=some id→(aB h j).isSome=true:=fun j id hj=>by
  obtain ⟨hb,_,h1,_⟩:=hT j id hj
  rw [h1];rfl
 have zm:∀ j id b,τ j=some id→aJ j=some b→((σ[j]?=some id∧aa id=some b)∨w.heap.size≤b)∧b<w'.heap.size:=fun j id b hj hb=>by
  obtain ⟨h1,h2⟩:=R'.own j b (vr j id hj) hb
  refine ⟨?_,h2⟩
  rcases h1 with ⟨a1,a2,_⟩ | a
  ·left
   have rP:(σ[j]?).bind aa=some b:=a2
   cases hid:σ[j]? with
   | none=>rw [hid] at rP;cases rP
   | some id'=>
     rw [hid] at rP
     have:=F.old j id' hid
     rw [hj] at this;cases this
     exact ⟨rfl,rP⟩
  ·exact .inr a
 have wA:∀ b,aH (inner C aa hp w N σ hs0) aJ (aB h) b→aH C gu (bM hp us) b:=fun b hb=>by
  obtain ⟨h1,h2⟩:=hb
  have hb0:C.wz b∨C.w0.heap.size≤b:=by
   rcases h1 with a | a
   ·exact a.1
   ·exact .inr (Nat.le_trans R.fr.size a)
  refine ⟨hb0,fun id hid he=>?_⟩
  by_cases hr:∃ j,τ j=some id
  ·obtain ⟨j,hj⟩:=hr
   rw [rT j id hj] at he
   exact h2 j (vr j id hj) he
  ·rw [hN id hr] at hid
   rw [rN id hr] at he
   rcases h1 with a | a
   ·exact a.2 id hid he
   ·have:=(R.own id b hid he).2
    have a':w.heap.size≤b:=a
    omega
 have wB:∀ j b,τ j=none→(aB h j).isSome=true→aJ j=some b→aH C gu (bM hp us) b:=fun j b hj hs hb=>by
  have hbw:w.heap.size≤b:=by
   rcases (R'.own j b hs hb).1 with ⟨a1,a2,_⟩ | a
   ·have rP:(σ[j]?).bind aa=some b:=a2
    cases hid:σ[j]? with
    | none=>rw [hid] at rP;cases rP
    | some id'=>rw [F.old j id' hid] at hj;cases hj
   ·exact a
  refine ⟨.inr (Nat.le_trans R.fr.size hbw),fun id hid he=>?_⟩
  by_cases hr:∃ j,τ j=some id
  ·obtain ⟨i,hi⟩:=hr
   rw [rT i id hi] at he
   have:=R'.inj i j b (vr i id hi) hs he hb
   subst this
   rw [hi] at hj;cases hj
  ·rw [hN id hr] at hid
   rw [rN id hr] at he
   have:=(R.own id b hid he).2
   omega
 have hs:∀ j id,τ j=some id→aJ j=gu id∧((aB h j).isSome=true→(bM hp us id).isSome=true)∧(∀ cs,bM hp us id=some (.var cs)→∃ cs',aB h j=some (.var cs'))∧∀ e az xs,bM hp us id=some (.row e az xs)→∃ xs',aB h j=some (.row e az xs'):=fun j id hj=>by
  obtain ⟨hb,hb',h1,h2,h3⟩:=hT j id hj
  refine ⟨(rT j id hj).symm,fun _=>by rw [h3];rfl,fun cs hc=>?_,fun e az xs hc=>?_⟩
  ·rw [h3] at hc;cases hc
   cases h2 with
   | var xs _ _=>exact ⟨xs,h1⟩
  ·rw [h3] at hc;cases hc
   cases h2 with
   | row _ _ xs _ _ _=>exact ⟨xs,h1⟩
 have sP:∀ b,aH C aa hp b→b<w.heap.size→aH C gu (bM hp us) b∧w'.heap[b]?=w.heap[b]?:=fun b hb hlt=>by
  refine ⟨⟨hb.1,fun id hid he=>?_⟩,iD b hlt (fun j id hj he=>hb.2 id (hin j id hj) he)⟩
  by_cases hr:∃ j,τ j=some id
  ·obtain ⟨j,hj⟩:=hr
   rw [rT j id hj] at he
   rcases (zm j id b hj he).1 with ⟨a1,a2⟩ | a
   ·exact hb.2 id (hin j id a1) a2
   ·omega
  ·rw [hN id hr] at hid
   rw [rN id hr] at he
   exact hb.2 id hid he
 have Eg:∀ id hb,hp id=some hb→∃ hb',bM hp us id=some hb'∧js w w' (aa id) (gu id) hb hb':=fun id hb hq=>by
  by_cases hr:∃ j,τ j=some id
  ·obtain ⟨j,hj⟩:=hr
   obtain ⟨yz,hb',h1,h2,h3⟩:=hT j id hj
   refine ⟨hb',h3,?_⟩
   have hid:=hold j id hj (by rw [hq];rfl)
   obtain ⟨hb0,We,g1,g2,g3⟩:=ox j id hid
   have:=hpre _ g2
   rw [hq] at this;cases this
   have ev:=R'.jG j yz hb0 h1 (pn.2 g1)
   have ev':js w w' (aa id) (aJ j) hb0 yz:=by
    have e:(inner C aa hp w N σ hs0).Cr j=aa id:=by show (σ[j]?).bind aa=_;rw [hid];rfl
    rw [e] at ev;exact ev
   rw [rT j id hj]
   cases g3 with
   | var xs ys hb=>
     cases h2 with
     | var uJ VK hf=>exact ev'
     | row=>exact ev'.elim
   | row e az xs ys hl hb=>
     cases h2 with
     | var=>exact ev'.elim
     | row e2 zT uJ VK vu hf=>exact ev'
  ·refine ⟨hb,by rw [hN id hr];exact hq,?_⟩
   rw [rN id hr]
   cases hb with
   | var cs=>rfl
   | row e az xs=>
     refine ⟨Nat.le_refl _,fun _=>⟨rfl,rfl,fun b hb cur t hc=>⟨cur,t,?_,rfl⟩⟩⟩
     rw [iD b ((R.own id b (by rw [hq];rfl) hb).2) (fun j id' hj he=>?_)];exact hc
     obtain rfl:=R.inj id id' b (by rw [hq];rfl) (hin j id' hj) hb he
     exact hr ⟨j,F.old j id hj⟩
 have E:iW w w' (aH C aa hp) (aH C gu (bM hp us)) aa gu hp (bM hp us):=iW.of sP Eg
 refine ⟨gu,⟨⟨fun id hb hq=>?_,fun i j b h1 h2 h3 h4=>?_,fun id b h1 h2=>?_,⟨R'.fr.os.trans R.fr.os,R'.fr.tape.trans R.fr.tape,R'.fr.output.trans R.fr.output,Nat.le_trans R.fr.size hsz,fun b h1 h2=>?_⟩,fun id hb hb0 h1 h2=>?_⟩,E⟩,fun x y v hr hf=>hr.leave wA wB (fun j hb hj=>R'.heap j hb hj) hs hf⟩
 ·by_cases hr:∃ j,τ j=some id
  ·obtain ⟨j,hj⟩:=hr
   obtain ⟨yz,hb',h1,h2,h3⟩:=hT j id hj
   rw [hq] at h3;cases h3
   exact (R'.heap j yz h1).leave wA wB (fun j hb hj=>R'.heap j hb hj) hs hj h2
  ·rw [hN id hr] at hq
   rcases R.heap id hb hq with ⟨a1,a2⟩ | ⟨b,cur,t,a1,a2,a3⟩
   ·exact .inl ⟨(rN id hr).trans a1,a2⟩
   ·refine .inr ⟨b,cur,t,(rN id hr).trans a1,?_,a3.mono E⟩
    rw [iD b ((R.own id b (by rw [hq];rfl) a1).2) (fun j id' hj he=>?_)];exact a2
    obtain rfl:=R.inj id id' b (by rw [hq];rfl) (hin j id' hj) a1 he
    exact hr ⟨j,F.old j id hj⟩
 ·by_cases hi:∃ k,τ k=some i <;> by_cases hj:∃ k,τ k=some j
  ·obtain ⟨k,hk⟩:=hi
   obtain ⟨l,hl⟩:=hj
   rw [rT k i hk] at h3
   rw [rT l j hl] at h4
   have:=R'.inj k l b (vr k i hk) (vr l j hl) h3 h4
   subst this
   rw [hk] at hl;cases hl;rfl
  ·obtain ⟨k,hk⟩:=hi
   rw [rT k i hk] at h3
   rw [rN j hj] at h4
   rw [hN j hj] at h2
   rcases (zm k i b hk h3).1 with ⟨a1,a2⟩ | a
   ·exact R.inj i j b (hin k i a1) h2 a2 h4
   ·have:=(R.own j b h2 h4).2;omega
  ·obtain ⟨k,hk⟩:=hj
   rw [rT k j hk] at h4
   rw [rN i hi] at h3
   rw [hN i hi] at h1
   rcases (zm k j b hk h4).1 with ⟨a1,a2⟩ | a
   ·exact R.inj i j b h1 (hin k j a1) h3 a2
   ·have:=(R.own i b h1 h3).2;omega
  ·rw [rN i hi] at h3;rw [hN i hi] at h1
   rw [rN j hj] at h4;rw [hN j hj] at h2
   exact R.inj i j b h1 h2 h3 h4
 ·by_cases hr:∃ j,τ j=some id
  ·obtain ⟨j,hj⟩:=hr
   rw [rT j id hj] at h2
   obtain ⟨a,a'⟩:=zm j id b hj h2
   refine ⟨?_,a'⟩
   rcases a with ⟨a1,a2⟩ | a
   ·exact (R.own id b (hin j id a1) a2).1
   ·exact .inr (Nat.le_trans R.fr.size a)
  ·rw [hN id hr] at h1
   rw [rN id hr] at h2
   obtain ⟨a,a'⟩:=R.own id b h1 h2
   exact ⟨a,by omega⟩
 ·rw [iD b (by have:=R.fr.size;omega) (fun j id hj he=>?_)]
  ·exact R.fr.block b h1 h2
  ·rcases (R.own id b (hin j id hj) he).1 with a | a
   ·exact h2 a.2.2
   ·omega
 ·by_cases hq:∃ kG,hp id=some kG
  ·obtain ⟨kG,hq⟩:=hq
   obtain ⟨hb',a1,a2⟩:=Eg id kG hq
   rw [h1] at a1;cases a1
   exact (R.jG id kG hb0 hq h2).trans a2
  ·have hn:hp id=none:=by cases nc:hp id with
    | none=>rfl
    | some x=>exact absurd ⟨x,nc⟩ hq
   by_cases hr:∃ j,τ j=some id
   ·obtain ⟨j,hj⟩:=hr
    rw [hnone j id hj hn] at h2;cases h2
   ·rw [hN id hr,hn] at h1;cases h1
end
structure aU (P:Program) (f:FuncId) (N:Nat) (ac:AC) (rs:List RR):Prop where
 call:tC P f=true
 ex:∃ fn c,P.funcs[f]?=some fn∧fn.body=some c∧fn.ntmps=N∧comp P N c=some ac∧qD P fn.results.toList=some rs
def yo (P:Program) (f:FuncId) (N:Nat) (rs:List RR):Option AC:=match P.funcs[f]? with
 | some fn=>if tC P f && fn.ntmps == N then match fn.body,qD P fn.results.toList with
   | some c,some rs'=>if rs'=rs then comp P N c else none
   | _,_=>none
   else none
 | none=>none
theorem LU {P:Program} {f:FuncId} {N:Nat} {ac:AC} {rs:List RR} (h:yo P f N rs=some ac):aU P f N ac rs:=by
 unfold yo at h
 split at h
 ·rename_i fn hf
  split at h
  ·rename_i hc
   simp only [Bool.and_eq_true,beq_iff_eq] at hc
   split at h
   ·rename_i c rs' hb hr
    split at h
    ·rename_i he;subst he
     exact ⟨hc.1,fn,c,hf,hb,hc.2,h,hr⟩
    ·cases h
   ·cases h
  ·cases h
 ·cases h
theorem xJ {P:Program} {f:FuncId} {N:Nat} {ac:AC} {rs:List RR} (H:aU P f N ac rs) {args:List SV} {pre us:List (Nat×HB)} {sv:SV} (σ:List Nat) (hs0:List (Option HB)) (iO:List SV)
 (hargs:args.length≤N) (hA:rJ (fun j=>σ[j]?) iO args) (hl:hs0.length=σ.length) (hinj:∀ (i j id:Nat),σ[i]?=some id→σ[j]?=some id→i=j)
 (ox:∀ (j id:Nat),σ[j]?=some id→∃ hb hb',hs0[j]?=some (some hb)∧(id,hb')∈pre∧mN (fun j=>σ[j]?) hb hb')
 (hrun:∀ K:Ex→St→Prop,(∀ env h env' h' τ,fV σ.length ⟨env,h⟩ ⟨env',h'⟩→Fin σ pre us rs sv env' h' τ→K .normal ⟨env,h⟩∧K .ret ⟨env,h⟩)→G P σ.length [.c ac] K (nJ 0 iO) hs0):aK P f args pre us sv:=by
 obtain ⟨Ni,fn,c,hf,hb,hN,hc,hr⟩:=H
 subst hN
 refine ⟨Ni,fun C hp w aa vs hpre hnew R hvl hvs=>?_⟩
 obtain ⟨R0,hro,Ng⟩:=Lv R (N:=fn.ntmps) hpre hl hinj ox
 refine calls_of_wp hf hb ?_
 have hG:=hrun (fun e s=>(∀ id,e≠.exit id)∧∃ s' τ,fV σ.length s s'∧Fin σ pre us rs sv s'.env s'.h τ) (fun env h env' h' τ hE hF=>⟨⟨by simp,⟨env',h'⟩,τ,hE,hF⟩,⟨by simp,⟨env',h'⟩,τ,hE,hF⟩⟩)
 have R1:ju (inner C aa hp w fn.ntmps σ hs0) σ.length ⟨nJ 0 iO,hs0⟩ { tmps:=vs.toArray++Array.replicate (fn.ntmps - vs.toArray.size) undef,defers:=[] } w:=by
  refine ⟨⟨_,R0,fun n=>?_,?_,rfl⟩,by rw [← hl];exact Nat.le_refl _,fun id hid=>?_⟩
  ·show Rp _ _ _ _ (lk (nJ 0 iO) n) _
   rw [Gl,if_pos (Nat.zero_le _),Nat.sub_zero]
   cases hx:iO[n]? with
   | none=>exact .dead _
   | some x=>
     have hlt:=(List.getElem?_eq_some_iff.1 hx).1
     have hy:=List.getElem?_eq_getElem (l:=args) (i:=n) (by have:=hA.1;omega)
     have hv:=Ng (hvs n _ hy) (hA.2 n x _ hx hy)
     have:(vs.toArray++Array.replicate (fn.ntmps - vs.toArray.size) undef).getD n undef=vs.getD n undef:=by
      have hn:n<vs.length:=by have:=hA.1;omega
      simp [Array.getD_eq_getD_getElem?,List.getD_eq_getElem?_getD,Array.getElem?_append,hn]
     rw [this];exact hv
  ·show (vs.toArray++Array.replicate (fn.ntmps - vs.toArray.size) undef).size=fn.ntmps
   simp;omega
  ·show aB hs0 id=none
   unfold aB
   rw [List.getElem?_eq_none (by omega)]
 refine VH c ac _ _ _ _ _ hc hG R1 (fun e s a w' hk RS=>?_)
 obtain ⟨hne,s',τ,hE,F⟩:=hk
 obtain ⟨⟨aJ,RF⟩,_,_⟩:=hE _ _ _ RS
 obtain ⟨gu,hS,hL⟩:=Rw R hpre hnew ox RF.mem F
 obtain ⟨p,xs,r1,r2,r3⟩:=F.res
 obtain ⟨vs,v1,v2⟩:=Tl RF.mem RF.env hr r1 r2
 have hres:=hL _ _ _ v2 r3
 cases e with
 | normal=>exact ⟨RF.defers,_,v1,_,gu,rfl,hS,hres⟩
 | exit id=>exact absurd rfl (hne id)
 | ret=>exact ⟨RF.defers,_,v1,_,gu,rfl,hS,hres⟩
end Go.aL

namespace Go.aL
open Go
theorem AE {n0:Nat} {env env':List (Nat×SV)} {h h':List (Option HB)} (τ:Nat→Option Nat) (hn:n0≤h'.length)
 (hid:∀ j i,τ j=some i→i=j) (hkeep:∀ j,τ j=none→n0≤j)
 (hh:∀ j,(∃ hb hb',τ j=some j∧aB h j=some hb∧aB h' j=some hb'∧oS τ (aB h) hb hb')∨(aB h' j=none∧(τ j=none∨aB h j=none)))
 (he:∀ n,Rn τ (aB h) (lk env n) (lk env' n)):fV n0 ⟨env,h⟩ ⟨env',h'⟩:=by
 intro C a w R
 obtain ⟨⟨aa,RF⟩,_,h0⟩:=R
 have hsub:∀ j hb',aB h' j=some hb'→τ j=some j∧∃ hb,aB h j=some hb∧oS τ (aB h) hb hb':=fun j hb' hj=>by
  rcases hh j with ⟨hb,hb2,a1,a2,a3,a4⟩ | ⟨a1,_⟩
  ·rw [hj] at a3;cases a3;exact ⟨a1,hb,a2,a4⟩
  ·rw [hj] at a1;cases a1
 have hsome:∀ j,(aB h' j).isSome=true→(aB h j).isSome=true:=fun j hj=>by
  obtain ⟨hb',hb2⟩:=Option.isSome_iff_exists.1 hj
  obtain ⟨_,hb,h1,_⟩:=hsub j hb' hb2
  rw [h1];rfl
 have M:=RF.mem
 have wA:∀ b,aH C aa (aB h) b→aH C aa (aB h') b:=fun b hb=>⟨hb.1,fun id hid=>hb.2 id (hsome id hid)⟩
 have wB:∀ j b,τ j=none→(aB h j).isSome=true→aa j=some b→aH C aa (aB h') b:=fun j b hj hs hb=>by
  refine ⟨?_,fun id hid he=>?_⟩
  ·rcases (M.own j b hs hb).1 with ⟨a1,_⟩ | a
   ·rw [h0 j (hkeep j hj)] at a1;cases a1
   ·exact .inr a
  ·have:=M.inj id j b (hsome id hid) hs he hb
   subst this
   obtain ⟨hb',hb2⟩:=Option.isSome_iff_exists.1 hid
   obtain ⟨h1,_⟩:=hsub id hb' hb2
   rw [h1] at hj;cases hj
 have hs:∀ j i,τ j=some i→aa j=aa i∧((aB h j).isSome=true→(aB h' i).isSome=true)∧(∀ cs,aB h' i=some (.var cs)→∃ cs',aB h j=some (.var cs'))∧∀ e az xs,aB h' i=some (.row e az xs)→∃ xs',aB h j=some (.row e az xs'):=fun j i hj=>by
  obtain rfl:=hid j i hj
  refine ⟨rfl,fun hi=>?_,fun cs hc=>?_,fun e az xs hc=>?_⟩
  ·rcases hh i with ⟨hb,hb2,a1,a2,a3,a4⟩ | ⟨_,a1 | a1⟩
   ·rw [a3];rfl
   ·rw [a1] at hj;cases hj
   ·rw [a1] at hi;cases hi
  ·obtain ⟨_,hb,h1,h2⟩:=hsub i _ hc
   cases h2 with
   | var xs _ _=>exact ⟨xs,h1⟩
  ·obtain ⟨_,hb,h1,h2⟩:=hsub i _ hc
   cases h2 with
   | row _ _ xs _ _ _=>exact ⟨xs,h1⟩
 refine ⟨⟨aa,⟨⟨fun j hb' hj=>?_,fun i j b h1 h2=>M.inj i j b (hsome i h1) (hsome j h2),fun j b h1 h2=>M.own j b (hsome j h1) h2,M.fr,fun j hb' hb0 h1 h2=>?_⟩,fun n=>(RF.env n).leave wA wB (fun j hb hj=>M.heap j hb hj) hs (he n),RF.size,RF.defers⟩⟩,hn,h0⟩
 ·obtain ⟨a1,hb,a2,a3⟩:=hsub j hb' hj
  exact (M.heap j hb a2).leave wA wB (fun j hb hj=>M.heap j hb hj) hs a1 a3
 ·obtain ⟨a1,hb,a2,a3⟩:=hsub j hb' h1
  have ev:=M.jG j hb hb0 a2 h2
  cases a3 with
  | var xs ys _=>cases hb0 <;> exact ev
  | row e az xs ys _ _=>cases hb0 <;> exact ev
theorem wh {P:SV→SV→Prop} (hd:∀ x,P x .dead) {env:List (Nat×SV)}:∀ {env':List (Nat×SV)},(∀ p∈env',P (lk env p.1) p.2)→∀ n,P (lk env n) (lk env' n)
 | [],_,n=>hd _
 | (m,v)::r,h,n=>by
   show P (lk env n) (if m=n then v else lk r n)
   by_cases he:m=n
   ·rw [if_pos he,← he];exact h (m,v) (by simp)
   ·rw [if_neg he];exact wh hd (fun p hp=>h p (List.mem_cons_of_mem _ hp)) n
theorem gM (n0:Nat) (s:St):fV n0 s s:=fun _ _ _ R=>R
theorem fV.trans {n0:Nat} {s s1 s2:St} (h:fV n0 s s1) (k:fV n0 s1 s2):fV n0 s s2:=fun C a w R=>k C a w (h C a w R)
theorem bg {n0:Nat} {env env':List (Nat×SV)} {h:List (Option HB)} (he:∀ p∈env',p.2 = .dead∨lk env p.1=p.2):fV n0 ⟨env,h⟩ ⟨env',h⟩:=by
 intro C a w R
 obtain ⟨⟨aa,RF⟩,h1,h0⟩:=R
 refine ⟨⟨aa,RF.mem,fun n=>?_,RF.size,RF.defers⟩,h1,h0⟩
 have:=wh (P:=fun x y=>y = .dead∨x=y) (fun x=>.inl rfl) he n
 rcases this with h | h
 ·show Rp _ _ _ _ (lk env' n) _
  rw [h];exact .dead _
 ·show Rp _ _ _ _ (lk env' n) _
  rw [← h];exact RF.env n
inductive jt:RV→Prop where
 | int (k:IntKind) (n:Int):jt (.int k n)
 | bool (b:Bool):jt (.bool b)
 | str (s:ByteArray):jt (.str s)
 | lD:jt .lD
 | cw:jt .cw
 | nK:jt .nK
 | oI:jt .oI
 | bU (t:TypeId) (r:RV) (h:jt r):jt (.bU t r)
 | agg (rs:List RV) (h:∀ (j:Nat) (r:RV),rs[j]?=some r→jt r):jt (.agg rs)
 | fn (f:FuncId) (rs:List RV) (h:∀ (j:Nat) (r:RV),rs[j]?=some r→jt r):jt (.fn f rs)
theorem RO.flat {w w':World} {ok fN:Nat→Prop} {r:RV} {v:Value} (hr:RO w ok r v) (hf:jt r):RO w' fN r v:=by
 induction hf generalizing v with
 | int k n=>cases hr;exact .int k n
 | bool b=>cases hr;exact .bool b
 | str s=>cases hr;exact .str s
 | lD=>cases hr;exact .lD
 | cw=>cases hr;exact .cw
 | nK=>cases hr;exact .nK
 | oI=>cases hr;exact .oI
 | bU t r h ih=>cases hr with | bU _ _ v h=>exact .bU t r v (ih h)
 | agg rs h ih=>cases hr with | agg _ vs hl h1 hy=>exact .agg rs vs hl h1 (fun j y hj=>ih j y hj (hy j y hj))
 | fn f rs h ih=>cases hr with | fn _ _ vs hl hy=>exact .fn f rs vs hl (fun j y hj=>ih j y hj (hy j y hj))
inductive iH:SV→Prop where
 | dead:iH .dead
 | rv (r:RV) (h:jt r):iH (.rv r)
 | ptr (id off:Nat):iH (.ptr id off)
 | bX (id az i off:Nat):iH (.bX id az i off)
 | row (id az len:Nat):iH (.row id az len)
 | win (id az off len:Nat):iH (.win id az off len)
 | agg (cs:List SV) (h:∀ (j:Nat) (y:SV),cs[j]?=some y→iH y):iH (.agg cs)
 | aO (cs:List SV) (h:∀ (j:Nat) (y:SV),cs[j]?=some y→iH y):iH (.aO cs)
 | fn (f:FuncId) (cs:List SV) (h:∀ (j:Nat) (y:SV),cs[j]?=some y→iH y):iH (.fn f cs)
 | bU (t:TypeId) (x:SV) (h:iH x):iH (.bU t x)
inductive oQ:HB→Prop where
 | var (cs:List SV) (h:∀ (j:Nat) (y:SV),cs[j]?=some y→iH y):oQ (.var cs)
 | row (e az:Nat) (xs:List (List SV)) (h:∀ (i:Nat) (x:List SV) (j:Nat) (y:SV),xs[i]?=some x→x[j]?=some y→iH y):oQ (.row e az xs)
section
variable {w:World} {ok fN:Nat→Prop} {aa aJ:Nat→Option Nat} {hp aD:Hp}
theorem Rp.flat (hs:∀ j,(hp j).isSome=true→aD j=hp j∧aJ j=aa j) {s:SV} {v:Value} (hr:Rp w ok aa hp s v) (hf:iH s):Rp w fN aJ aD s v:=by
 induction hf generalizing v with
 | dead=>exact .dead v
 | rv r h=>cases hr with | rv _ _ hr=>exact .rv r v (hr.flat h)
 | ptr id off=>cases hr with | ptr _ _ _ h1 h0 h=>obtain ⟨a,b⟩:=hs id h0;exact .ptr id off v h1 (by rw [a];exact h0) (by rw [a,b];exact h)
 | bX id az i off=>cases hr with | bX _ _ _ _ _ h1 h0 hv h=>obtain ⟨a,b⟩:=hs id h0;exact .bX id az i off v h1 (by rw [a];exact h0) (by rw [a];exact hv) (by rw [a,b];exact h)
 | row id az len=>cases hr with | row _ _ _ _ h1 h0 hv h=>obtain ⟨a,b⟩:=hs id h0;exact .row id az len v h1 (by rw [a];exact h0) (by rw [a];exact hv) (by rw [a,b];exact h)
 | win id az off len=>cases hr with | win _ _ _ _ _ h1 h0 hv hr hc=>obtain ⟨a,b⟩:=hs id h0;exact .win id az off len v h1 (by rw [a];exact h0) (by rw [a];exact hv) (by rw [a,b];exact hr) (by rw [a,b];exact hc)
 | agg cs h ih=>cases hr with | agg _ vs hl h1 hy=>exact .agg cs vs hl h1 (fun j y hj=>ih j y hj (hy j y hj))
 | aO cs h ih=>cases hr with | aO _ vs hl hy=>exact .aO cs vs hl (fun j y hj=>ih j y hj (hy j y hj))
 | fn f cs h ih=>cases hr with | fn _ _ vs hl hy=>exact .fn f cs vs hl (fun j y hj=>ih j y hj (hy j y hj))
 | bU t x h ih=>cases hr with | bU _ _ v0 h0=>exact .bU t x v0 (ih h0)
theorem gE.flat (hs:∀ j,(hp j).isSome=true→aD j=hp j∧aJ j=aa j) {cur:Array Value} {off:Nat} {cs:List SV} (h:gE w ok aa hp cur off cs) (hf:∀ (j:Nat) (y:SV),cs[j]?=some y→iH y):gE w fN aJ aD cur off cs:=fun j y hy=>by
 obtain ⟨v,h1,h2,h3⟩:=h j y hy
 exact ⟨v,h1,h2,h3.flat hs (hf j y hy)⟩
theorem mb.flat (hs:∀ j,(hp j).isSome=true→aD j=hp j∧aJ j=aa j) {id:Nat} {hb:HB} (hid:(hp id).isSome=true) (h:mb w ok aa hp id hb) (hf:oQ hb):mb w fN aJ aD id hb:=by
 have hr:=(hs id hid).2
 rcases h with ⟨h1,h2⟩ | ⟨b,cur,t,h1,h2,h3⟩
 ·exact .inl ⟨hr.trans h1,h2⟩
 ·refine .inr ⟨b,cur,t,hr.trans h1,h2,?_⟩
  cases hf with
  | var cs hf=>exact ⟨h3.1,h3.2.flat hs hf⟩
  | row e az xs hf=>exact ⟨h3.1,h3.2.1,fun i x hx=>(h3.2.2 i x hx).flat hs (fun j y hy=>hf i x j y hx hy)⟩
end
theorem nR {us:List (Nat×HB)} {id:Nat}:(bM (fun _=>none) us id).isSome=true↔id∈us.map (·.1):=by
 have gen:∀ (us:List (Nat×HB)) (hp:Hp),(bM hp us id).isSome=true↔(hp id).isSome=true∨id∈us.map (·.1):=by
  intro us
  induction us with
  | nil=>intro hp;simp [bM]
  | cons q r ih=>
    intro hp
    obtain ⟨i,hb⟩:=q
    rw [bM,ih]
    by_cases h:id=i
    ·subst h;simp
    ·rw [gi _ _ h];simp [h]
 rw [gen];simp
theorem IY {us:List (Nat×HB)} {id:Nat} {hb:HB}:∀ {hp:Hp},bM hp us id=some hb→hp id=some hb∨(id,hb)∈us:=by
 induction us with
 | nil=>intro hp h;exact .inl h
 | cons q r ih=>
   intro hp h
   obtain ⟨i,hb0⟩:=q
   rcases ih h with h | h
   ·by_cases he:id=i
    ·subst he;rw [cq] at h;cases h;exact .inr (by simp)
    ·rw [gi _ _ he] at h;exact .inl h
   ·exact .inr (by simp [h])
theorem KI {P:Program} {f:FuncId} {rs:List RV} {args:List SV} {pre us:List (Nat×HB)} {sv:SV} (H:aK P f (rs.map .rv) [] us sv) (hl:args.length=rs.length)
 (hz:∀ hp,aT hp pre→∀ (j:Nat) (y:SV) (r:RV),args[j]?=some y→rs[j]?=some r→Fz (fun _=>none) hp y r) (hfl:iH sv) (jZ:∀ q∈us,oQ q.2∧∀ p∈pre,p.1≠q.1):aK P f args pre us sv:=by
 refine ⟨H.1,fun C hp w aa vs hpre hnew R hvl hvs=>?_⟩
 let C2:Ctx:=⟨w,fun b=>aH C aa hp b∨∃ id,(hp id).isSome=true∧aa id=some b,fun _=>False,C.N,fun _=>none,fun _=>none⟩
 have sH:∀ b,C2.wz b→aH C2 (fun _=>none) (fun _=>none) b:=fun b hb=>⟨.inl hb,fun id hid=>by simp at hid⟩
 have R2:cm C2 (fun _=>none) w (fun _=>none):=⟨fun id hb h=>(by cases h),fun i j b h=>(by simp at h),fun i b h=>(by simp at h),⟨rfl,rfl,rfl,Nat.le_refl _,fun b _ _=>rfl⟩,fun id hb hb0 h=>(by cases h)⟩
 have qe:∀ id,id∈us.map (·.1)→hp id=none∧C.h0 id=none:=fun id hid=>by
  obtain ⟨q,hq,rfl⟩:=List.mem_map.1 hid
  rcases hnew q hq with ⟨hb,hm⟩ | h
  ·exact absurd rfl ((jZ q hq).2 (q.1,hb) hm)
  ·exact h
 refine (H.2 C2 (fun _=>none) w (fun _=>none) vs (fun q hq=>by simp at hq) (fun q hq=>.inr ⟨rfl,rfl⟩) R2 (by simp [hvl,hl]) (fun j s hj=>?_)).mono ?_
 ·rw [List.getElem?_map] at hj
  cases hr:rs[j]? with
  | none=>simp [hr] at hj
  | some r=>
    simp [hr] at hj
    subst hj
    have hlt:=(List.getElem?_eq_some_iff.1 hr).1
    have hy:=List.getElem?_eq_getElem (l:=args) (i:=j) (by omega)
    refine .rv _ _ (Fz.ro (τ:=fun _=>none) (fun b hb=>sH b (.inl hb)) (fun i b _ hi hb=>sH b (.inr ⟨i,hi,hb⟩)) (fun i hb hi=>R.heap i hb hi) (hvs j _ hy) (hz hp hpre j _ r hy hr))
 ·rintro e w' ⟨v,aJ,rfl,S,hR⟩
  have R':=S.mem
  have iD:∀ b,b<w.heap.size→w'.heap[b]?=w.heap[b]?:=fun b hb=>R'.fr.block b hb (fun h=>h)
  have hsz:w.heap.size≤w'.heap.size:=R'.fr.size
  have qf:∀ id b,id∈us.map (·.1)→aJ id=some b→w.heap.size≤b∧b<w'.heap.size:=fun id b hid hb=>by
   obtain ⟨h1,h2⟩:=R'.own id b (nR.2 hid) hb
   rcases h1 with ⟨a,_⟩ | a
   ·cases a
   ·exact ⟨a,h2⟩
  let gu:Nat→Option Nat:=fun id=>if id∈us.map (·.1) then aJ id else aa id
  have rT:∀ id,id∈us.map (·.1)→gu id=aJ id:=fun id h=>if_pos h
  have rN:∀ id,id∉us.map (·.1)→gu id=aa id:=fun id h=>if_neg h
  have hN:∀ id,id∉us.map (·.1)→bM hp us id=hp id:=fun id h=>zS h
  have hT:∀ id,id∈us.map (·.1)→bM hp us id=bM (fun _=>none) us id:=fun id h=>wQ h
  have hs:∀ j,(bM (fun _=>none) us j).isSome=true→bM hp us j=bM (fun _=>none) us j∧gu j=aJ j:=fun j hj=>⟨hT j (nR.1 hj),rT j (nR.1 hj)⟩
  have sP:∀ b,aH C aa hp b→b<w.heap.size→aH C gu (bM hp us) b∧w'.heap[b]?=w.heap[b]?:=fun b hb hlt=>by
   refine ⟨⟨hb.1,fun id hid he=>?_⟩,iD b hlt⟩
   by_cases hm:id∈us.map (·.1)
   ·rw [rT id hm] at he
    have:=(qf id b hm he).1;omega
   ·rw [hN id hm] at hid
    rw [rN id hm] at he
    exact hb.2 id hid he
  have E:iW w w' (aH C aa hp) (aH C gu (bM hp us)) aa gu hp (bM hp us):=iW.of sP (fun id hb hq=>by
   have hm:id∉us.map (·.1):=fun hm=>by rw [(qe id hm).1] at hq;cases hq
   refine ⟨hb,by rw [hN id hm];exact hq,?_⟩
   rw [rN id hm]
   cases hb with
   | var cs=>rfl
   | row e az xs=>exact ⟨Nat.le_refl _,fun _=>⟨rfl,rfl,fun b hb cur t hc=>⟨cur,t,by rw [iD b (R.own id b (by rw [hq];rfl) hb).2];exact hc,rfl⟩⟩⟩)
  refine ⟨v,gu,rfl,⟨⟨fun id hb hq=>?_,fun i j b h1 h2 h3 h4=>?_,fun id b h1 h2=>?_,⟨R'.fr.os.trans R.fr.os,R'.fr.tape.trans R.fr.tape,R'.fr.output.trans R.fr.output,Nat.le_trans R.fr.size hsz,fun b h1 h2=>?_⟩,fun id hb hb0 h1 h2=>?_⟩,E⟩,hR.flat hs hfl⟩
  ·by_cases hm:id∈us.map (·.1)
   ·rw [hT id hm] at hq
    have Bg:oQ hb:=by
     rcases IY hq with h | h
     ·cases h
     ·exact (jZ _ h).1
    exact (R'.heap id hb hq).flat hs (nR.2 hm) Bg
   ·rw [hN id hm] at hq
    rcases R.heap id hb hq with ⟨a1,a2⟩ | ⟨b,cur,t,a1,a2,a3⟩
    ·exact .inl ⟨(rN id hm).trans a1,a2⟩
    ·refine .inr ⟨b,cur,t,(rN id hm).trans a1,?_,a3.mono E⟩
     rw [iD b (R.own id b (by rw [hq];rfl) a1).2];exact a2
  ·by_cases hi:i∈us.map (·.1) <;> by_cases hj:j∈us.map (·.1)
   ·rw [rT i hi] at h3;rw [rT j hj] at h4
    exact R'.inj i j b (nR.2 hi) (nR.2 hj) h3 h4
   ·rw [rT i hi] at h3;rw [rN j hj] at h4;rw [hN j hj] at h2
    have h5:=qf i b hi h3;have h6:=R.own j b h2 h4;omega
   ·rw [rN i hi] at h3;rw [rT j hj] at h4;rw [hN i hi] at h1
    have h5:=qf j b hj h4;have h6:=R.own i b h1 h3;omega
   ·rw [rN i hi] at h3;rw [rN j hj] at h4;rw [hN i hi] at h1;rw [hN j hj] at h2
    exact R.inj i j b h1 h2 h3 h4
  ·by_cases hm:id∈us.map (·.1)
   ·rw [rT id hm] at h2
    obtain ⟨a1,a2⟩:=qf id b hm h2
    exact ⟨.inr (Nat.le_trans R.fr.size a1),a2⟩
   ·rw [hN id hm] at h1;rw [rN id hm] at h2
    obtain ⟨a1,a2⟩:=R.own id b h1 h2
    exact ⟨a1,by omega⟩
  ·rw [iD b (by have:=R.fr.size;omega)];exact R.fr.block b h1 h2
  ·by_cases hm:id∈us.map (·.1)
   ·rw [(qe id hm).2] at h2;cases h2
   ·rw [hN id hm] at h1
    have ev:=R.jG id hb hb0 h1 h2
    obtain ⟨hb',g1,g2⟩:∃ hb',bM hp us id=some hb'∧js w w' (aa id) (gu id) hb hb':=by
     refine ⟨hb,by rw [hN id hm];exact h1,?_⟩
     rw [rN id hm]
     cases hb with
     | var cs=>rfl
     | row e az xs=>exact ⟨Nat.le_refl _,fun _=>⟨rfl,rfl,fun b hb cur t hc=>⟨cur,t,by rw [iD b (R.own id b (by rw [h1];rfl) hb).2];exact hc,rfl⟩⟩⟩
    rw [hN id hm,h1] at g1;cases g1
    exact ev.trans g2
end Go.aL

namespace Go.aL
open Go
def aF (τ:Nat→Option Nat) (h:Hp):List SV→List SV→Prop
 | [],[]=>True
 | x::xs,y::ys=>Rn τ h x y∧aF τ h xs ys
 | _,_=>False
theorem uw {τ:Nat→Option Nat} {h:Hp}:∀ {xs ys:List SV},aF τ h xs ys↔rO τ h xs ys
 | [],[]=>⟨fun _=>⟨rfl,fun i x y hx=>by simp at hx⟩,fun _=>trivial⟩
 | [],_::_=>⟨fun h=>h.elim,fun h=>by simp [rO] at h⟩
 | _::_,[]=>⟨fun h=>h.elim,fun h=>by simp [rO] at h⟩
 | x::xs,y::ys=>by
   unfold aF
   rw [uw (xs:=xs) (ys:=ys)]
   constructor
   ·rintro ⟨h1,h2,h3⟩
    refine ⟨by simp [h2],fun i a b ha hb=>?_⟩
    cases i with
    | zero=>simp at ha hb;subst ha;subst hb;exact h1
    | succ i=>exact h3 i a b (by simpa using ha) (by simpa using hb)
   ·rintro ⟨h2,h3⟩
    exact ⟨h3 0 x y rfl rfl,by simpa using h2,fun i a b ha hb=>h3 (i+1) a b (by simpa using ha) (by simpa using hb)⟩
section
variable {τ:Nat→Option Nat} {h:Hp}
theorem aG {r r':RV}:Rn τ h (.rv r) (.rv r')↔r=r':=⟨fun hr=>by cases hr with | fz _ _ hf=>cases hf;rfl,fun e=>by subst e;exact .fz _ _ (.rv _)⟩
theorem iF {x:SV}:Rn τ h x .dead↔True:=⟨fun _=>trivial,fun _=>.dead _⟩
theorem gX {i j o o':Nat}:Rn τ h (.ptr i o) (.ptr j o')↔τ i=some j∧o=o':=⟨fun hr=>by cases hr with | ptr _ _ _ hj=>exact ⟨hj,rfl⟩,fun ⟨e,e'⟩=>by subst e';exact .ptr _ _ _ e⟩
theorem gw {i j v v' l l':Nat}:Rn τ h (.row i v l) (.row j v' l')↔τ i=some j∧v=v'∧l=l':=⟨fun hr=>by cases hr with | row _ _ _ _ hj=>exact ⟨hj,rfl,rfl⟩,fun ⟨e,e',e2⟩=>by subst e';subst e2;exact .row _ _ _ _ e⟩
theorem aI {xs ys:List SV}:Rn τ h (.agg xs) (.agg ys)↔aF τ h xs ys:=by rw [uw];exact ⟨fun hr=>by cases hr with | agg _ _ hl hf=>exact ⟨hl,hf⟩,fun ⟨e,e'⟩=>.agg _ _ e e'⟩
theorem bn {xs ys:List SV}:Rn τ h (.aO xs) (.aO ys)↔aF τ h xs ys:=by rw [uw];exact ⟨fun hr=>by cases hr with | aO _ _ hl hf=>exact ⟨hl,hf⟩,fun ⟨e,e'⟩=>.aO _ _ e e'⟩
theorem Ta {f f':FuncId} {xs ys:List SV}:Rn τ h (.fF f xs) (.fF f' ys)↔f=f'∧aF τ h xs ys:=by rw [uw];exact ⟨fun hr=>by cases hr with | fF _ _ _ hl hf=>exact ⟨rfl,hl,hf⟩,fun ⟨e,e',e2⟩=>by subst e;exact .fF _ _ _ e' e2⟩
theorem iG {t t':TypeId} {x y:SV}:Rn τ h (.bU t x) (.bU t' y)↔t=t'∧Rn τ h x y:=⟨fun hr=>by cases hr with | bU _ _ _ hf=>exact ⟨rfl,hf⟩,fun ⟨e,e'⟩=>by subst e;exact .bU _ _ _ e'⟩
end
def aS (τ:Nat→Option Nat) (h:Hp) (sv:SV):Option (Prop×List SV)→Prop
 | some (p,xs)=>p∧Rn τ h (aX xs) sv
 | none=>False
theorem KH {P:Program} {f:FuncId} {N:Nat} {ac:AC} {rs:List RR} (H:aU P f N ac rs) (lp:List RV) (sv:SV) (hN:lp.length≤N)
 (hrun:∀ K:Ex→St→Prop,(∀ env h,aS (fun _=>none) (aB h) sv (aQ (lk env) (aB h) rs)→K .normal ⟨env,h⟩∧K .ret ⟨env,h⟩)→G P 0 [.c ac] K (nJ 0 (lp.map .rv)) []):aK P f (lp.map .rv) [] [] sv:=by
 refine xJ H [] [] (lp.map .rv) (by simpa using hN) ⟨rfl,fun i x y hx hy=>?_⟩ rfl (by simp) (by simp) (fun K hK=>hrun K (fun env h hr=>?_))
 ·rw [hx] at hy;cases hy
  rw [List.getElem?_map] at hx
  cases hr:lp[i]? with
  | none=>simp [hr] at hx
  | some r=>simp [hr] at hx;subst hx;exact .rv r
 ·unfold aS at hr
  split at hr
  ·rename_i p xs hres
   exact hK env h env h (fun _=>none) (gM _ _) ⟨by simp,by simp,by simp,by simp,by simp,p,xs,hres,hr.1,hr.2⟩
  ·exact hr.elim
theorem wrap_i64 {n:Int} (h1 : -9223372036854775808≤n) (h2:n<9223372036854775808):IntKind.i64.wrap n=n:=by
 unfold IntKind.wrap
 simp only [IntKind.signed,IntKind.bits]
 by_cases h:(9223372036854775808:Int)≤n % 18446744073709551616 <;> simp [h] <;> omega
end Go.aL

namespace Go.aL
open Go
def ve (P:Program) (rec:TypeId→Bool):Nat→List Field→Option Nat
 | off,[]=>some off
 | off,f::r=>if f.offset=off && rec f.type then ve P rec (off+P.cellsOf f.type) r else none
def oc (P:Program):Nat→TypeId→Bool
 | 0,_=>false
 | n+1,t=>match P.underlying t with
   | some .bool | some (.int _) | some .string=>P.cellsOf t == 1
   | some (.slice e)=>P.cellsOf t == 1 && oc P n e
   | some (.struct fs)=>ve P (oc P n) 0 fs.toList == some (P.cellsOf t)
   | some (.array m e)=>oc P n e && P.cellsOf t == m*P.cellsOf e
   | _=>false
def uF (P:Program) (rec:TypeId→List RV→Prop):List Field→List RV→Prop
 | [],rs=>rs=[]
 | f::r,rs=>∃ a b,rs=a++b∧rec f.type a∧uF P rec r b
def kL (P:Program):Nat→TypeId→List RV→Prop
 | 0,_,_=>False
 | n+1,t,rs=>match P.underlying t with
   | some .bool=>∃ b,rs=[.bool b]
   | some (.int k)=>∃ i,rs=[.int k i]∧(Lit.int k i).wf=true
   | some .string=>∃ s,rs=[.str s]∧s.size≤maxLen
   | some (.slice e)=>∃ xs,rs=[.sl (P.cellsOf e) xs]∧xs.length≤maxLen∧∀ x∈xs,kL P n e x
   | some (.struct fs)=>uF P (kL P n) fs.toList rs
   | some (.array m e)=>∃ xs:List (List RV),rs=xs.flatten∧xs.length=m∧∀ x∈xs,kL P n e x
   | _=>False
def mc (w:World) (ok:Nat→Prop) (vs:List Value) (rs:List RV):Prop:=vs.length=rs.length∧∀ (j:Nat) (r:RV),rs[j]?=some r→r.one=true∧RO w ok r (vs.getD j undef)
theorem mc.append {w:World} {ok:Nat→Prop} {vs us:List Value} {rs qs:List RV} (h:mc w ok vs rs) (k:mc w ok us qs):mc w ok (vs++us) (rs++qs):=by
 refine ⟨by simp [h.1,k.1],fun j r hj=>?_⟩
 by_cases hlt:j<rs.length
 ·rw [List.getElem?_append_left hlt] at hj
  have:=h.2 j r hj
  rw [List.getD_eq_getElem?_getD,List.getElem?_append_left (by rw [h.1];exact hlt),← List.getD_eq_getElem?_getD]
  exact this
 ·rw [List.getElem?_append_right (by omega)] at hj
  have:=k.2 _ r hj
  rw [List.getD_eq_getElem?_getD,List.getElem?_append_right (by rw [h.1];omega),h.1,← List.getD_eq_getElem?_getD]
  exact this
theorem mc.one {w:World} {ok:Nat→Prop} {v:Value} {r:RV} (h:RO w ok r v) (h1:r.one=true):mc w ok [v] [r]:=
 ⟨rfl,fun j q hj=>by
  cases j with
  | zero=>simp at hj;subst hj;exact ⟨h1,h⟩
  | succ j=>simp at hj⟩
section
variable {P:Program} {H:Type} {enc:TypeId×Value→H} {w:World} {base:Nat} {spare:Nat→Bool} {held:Bool}
theorem IW (ok:Nat→Prop) {n m:Nat} (IH:∀ t,oc P n t=true→∀ cs x,DataW.trod enc P w base spare held m t cs=some x→∃ rs,kL P n t rs∧mc w ok cs rs∧cs.length=P.cellsOf t) :
 ∀ (fs:List Field) (off tot:Nat) (cs:List Value),ve P (oc P n) off fs=some tot→cs.length=tot→(∀ f∈fs,∃ x,DataW.trod enc P w base spare held m f.type ((cs.drop f.offset).take (P.cellsOf f.type))=some x)→
 ∃ rs,uF P (kL P n) fs rs∧mc w ok (cs.drop off) rs
 | [],off,tot,cs,h,hl,_=>by
   simp only [ve,Option.some.injEq] at h
   subst h
   refine ⟨[],rfl,?_⟩
   rw [List.drop_of_length_le (by omega)]
   exact ⟨rfl,fun j r hj=>by simp at hj⟩
 | f::fs,off,tot,cs,h,hl,hx=>by
   unfold ve at h
   split at h
   ·rename_i hf
    simp only [Bool.and_eq_true,decide_eq_true_eq] at hf
    obtain ⟨x,hx0⟩:=hx f (by simp)
    obtain ⟨a,AS,yw,MY⟩:=IH f.type hf.2 _ _ hx0
    obtain ⟨b,hb1,hb2⟩:=IW ok IH fs (off+P.cellsOf f.type) tot cs h hl (fun g hg=>hx g (by simp [hg]))
    refine ⟨a++b,⟨a,b,rfl,AS,hb1⟩,?_⟩
    rw [hf.1] at yw
    have:cs.drop off=(cs.drop off).take (P.cellsOf f.type)++cs.drop (off+P.cellsOf f.type):=by
     rw [← List.drop_drop,List.take_append_drop]
    rw [this]
    exact yw.append hb2
   ·cases h
theorem IV (ok:Nat→Prop) {n m:Nat} {e:TypeId} (IH:∀ cs x,DataW.trod enc P w base spare held m e cs=some x→∃ rs,kL P n e rs∧mc w ok cs rs∧cs.length=P.cellsOf e) :
 ∀ (k i:Nat) (cs:List Value),cs.length=(i+k)*P.cellsOf e→(∀ j,i≤j→j<i+k→∃ x,DataW.trod enc P w base spare held m e ((cs.drop (j*P.cellsOf e)).take (P.cellsOf e))=some x)→
 ∃ xs:List (List RV),xs.length=k∧(∀ x∈xs,kL P n e x)∧mc w ok (cs.drop (i*P.cellsOf e)) xs.flatten
 | 0,i,cs,hl,_=>by
   refine ⟨[],rfl,by simp,?_⟩
   rw [List.drop_of_length_le (by simp at hl;omega)]
   exact ⟨rfl,fun j r hj=>by simp at hj⟩
 | k+1,i,cs,hl,hx=>by
   obtain ⟨x,hx0⟩:=hx i (Nat.le_refl _) (by omega)
   obtain ⟨a,AS,yw,MY⟩:=IH _ _ hx0
   obtain ⟨xs,h1,h2,h3⟩:=IV ok IH k (i+1) cs (by rw [hl];congr 1;omega) (fun j h1 h2=>hx j (by omega) (by omega))
   refine ⟨a::xs,by simp [h1],fun x hx=>?_,?_⟩
   ·rcases List.mem_cons.1 hx with rfl | hx
    ·exact AS
    ·exact h2 x hx
   ·have:cs.drop (i*P.cellsOf e)=(cs.drop (i*P.cellsOf e)).take (P.cellsOf e)++cs.drop ((i+1)*P.cellsOf e):=by
     rw [Nat.add_mul,Nat.one_mul,← List.drop_drop,List.take_append_drop]
    rw [this,List.flatten_cons]
    exact yw.append h3
theorem KR {a:Addr} {n:Nat} {cs:List Value} (h:w.cells? base a n=some cs):cs.length=n∧∀ j,j<n→w.cell? (a.add j)=some (cs.getD j undef):=by
 unfold World.cells? at h
 split at h
 ·obtain ⟨h1,h2⟩:=mapM_some_get _ _ _ h
  refine ⟨by simpa using h1,fun j hj=>?_⟩
  have hr:(List.range n)[j]?=some j:=List.getElem?_range hj
  obtain ⟨h3,h4⟩:=h2 j j hr
  have hlt:j<cs.length:=by rw [h1];simpa using hj
  rw [List.getD_eq_getElem?_getD,List.getElem?_eq_getElem hlt,Option.getD_some,← h3,List.getElem?_eq_getElem hlt]
 ·cases h
theorem typed (ok:Nat→Prop) (hok:∀ b,b<w.heap.size→ok b):∀ (n:Nat) (t:TypeId),oc P n t=true→∀ (fuel:Nat) (cs:List Value) (x:DataW H×List MemPlace),DataW.trod enc P w base spare held fuel t cs=some x→∃ rs,kL P n t rs∧mc w ok cs rs∧cs.length=P.cellsOf t
 | 0,t,h,_,_,_,_=>by cases h
 | n+1,t,h,fuel,cs,x,hx=>by
   unfold oc at h
   unfold kL
   split at h
   ·rename_i hu
    obtain ⟨b,rfl,_⟩:=DataW.trod_bool hu hx
    try simp only [hu]
    exact ⟨[.bool b],⟨b,rfl⟩,.one (.bool b) rfl,by simp at h;simp [h]⟩
   ·rename_i k hu
    obtain ⟨i,rfl,_,hw⟩:=DataW.trod_int hu hx
    try simp only [hu]
    exact ⟨[.int k i],⟨i,rfl,hw⟩,.one (.int k i) rfl,by simp at h;simp [h]⟩
   ·rename_i hu
    obtain ⟨s,rfl,_,hs⟩:=DataW.trod_string hu hx
    try simp only [hu]
    exact ⟨[.str s],⟨s,rfl,hs⟩,.one (.str s) rfl,by simp at h;simp [h]⟩
   ·rename_i e hu
    simp only [Bool.and_eq_true,beq_iff_eq] at h
    try simp only [hu]
    rcases DataW.trod_slice hu hx with ⟨rfl,_⟩ | ⟨a,len,cap,elems,rest,m,rfl,rfl,_,hb,hl,hm,hel,hcell,_,_⟩
    ·refine ⟨[.sl (P.cellsOf e) []],⟨[],rfl,by simp,by simp⟩,.one ?_ rfl,by simpa using h.1.symm⟩
     exact .sl _ [] none 0 (fun _ _=>undef) (fun _=>⟨rfl,rfl⟩) (by simp) (by simp [maxLen]) (by simp) (fun i x j y hx=>by simp at hx) (fun i x j y hx=>by simp at hx) (fun i x j y hx=>by simp at hx)
    ·have key:∀ i,i<len→∃ (ci:List Value) (r:List RV),kL P n e r∧mc w ok ci r∧ci.length=P.cellsOf e∧∀ j,j<P.cellsOf e→w.cell? ((a.add (i*P.cellsOf e)).add j)=some (ci.getD j undef):=fun i hi=>by
      have h1:=hcell i hi
      rw [List.getElem?_eq_getElem (by omega)] at h1
      simp only [Option.bind_eq_some_iff] at h1
      obtain ⟨ci,h2,h3⟩:=h1
      obtain ⟨r,g1,g2,g3⟩:=typed ok hok n e h.2 m ci _ h3
      exact ⟨ci,r,g1,g2,g3,(KR h2).2⟩
     classical
     let cf:Nat→List Value:=fun i=>if h:i<len then (key i h).choose else []
     let rf:Nat→List RV:=fun i=>if h:i<len then (key i h).choose_spec.choose else []
     have hf:∀ i,i<len→kL P n e (rf i)∧mc w ok (cf i) (rf i)∧(cf i).length=P.cellsOf e∧∀ j,j<P.cellsOf e→w.cell? ((a.add (i*P.cellsOf e)).add j)=some ((cf i).getD j undef):=fun i hi=>by
      have h1:cf i=(key i hi).choose:=dif_pos hi
      have h2:rf i=(key i hi).choose_spec.choose:=dif_pos hi
      rw [h1,h2]
      exact (key i hi).choose_spec.choose_spec
     have hlen:((List.range len).map rf).length=len:=by simp
     have aB:∀ (i:Nat) (x:List RV),((List.range len).map rf)[i]?=some x→i<len∧x=rf i:=fun i x hi=>by
      rw [List.getElem?_map] at hi
      cases hr:(List.range len)[i]? with
      | none=>simp [hr] at hi
      | some j=>
        have hlt:=(List.getElem?_eq_some_iff.1 hr).1
        simp at hlt
        rw [List.getElem?_range hlt] at hr
        cases hr
        rw [List.getElem?_range hlt] at hi
        simp at hi
        exact ⟨hlt,hi.symm⟩
     refine ⟨[.sl (P.cellsOf e) ((List.range len).map rf)],⟨_,rfl,by rw [hlen];omega,fun x hx=>?_⟩,.one ?_ rfl,by simpa using h.1.symm⟩
     ·obtain ⟨i,hi,rfl⟩:=List.mem_map.1 hx
      exact (hf i (by simpa using hi)).1
     ·have hcs:∀ (i:Nat) (x:List RV) (j:Nat) (y:RV),((List.range len).map rf)[i]?=some x→x[j]?=some y→i<len∧(rf i)[j]?=some y∧w.cell? (a.add (i*P.cellsOf e+j))=some ((cf i).getD j undef):=fun i x j y hi hj=>by
       obtain ⟨h1,rfl⟩:=aB i x hi
       obtain ⟨_,g2,g3,g4⟩:=hf i h1
       have hlt:=(List.getElem?_eq_some_iff.1 hj).1
       have:=g4 j (by rw [← g3,g2.1];exact hlt)
       rw [xk] at this
       exact ⟨h1,hj,this⟩
      have:=RO.sl (w:=w) (ok:=ok) (P.cellsOf e) ((List.range len).map rf) (some a) cap (fun i j=>(cf i).getD j undef) (fun h=>by cases h) (by rw [hlen];exact hl) hm (fun x hx=>by
       obtain ⟨i,hi,rfl⟩:=List.mem_map.1 hx
       obtain ⟨_,g2,g3,_⟩:=hf i (by simpa using hi)
       rw [← g2.1,g3]) (fun i x j y hi hj=>by
       obtain ⟨_,_,h3⟩:=hcs i x j y hi hj
       exact ⟨a,rfl,hok _ (by have:=World.block_lt_of_cell? w _ h3;rwa [xm] at this),h3⟩) (fun i x j y hi hj=>by
       obtain ⟨h1,h2,_⟩:=hcs i x j y hi hj
       exact ((hf i h1).2.1.2 j y h2).1) (fun i x j y hi hj=>by
       obtain ⟨h1,h2,_⟩:=hcs i x j y hi hj
       exact ((hf i h1).2.1.2 j y h2).2)
      rw [hlen] at this
      exact this
   ·rename_i fs hu
    simp only [beq_iff_eq] at h
    try simp only [hu]
    obtain ⟨xs,m,rfl,_,hl,BC,hf⟩:=DataW.trod_struct hu hx
    obtain ⟨rs,g1,g2⟩:=IW (enc:=enc) (m:=m) ok (fun t ht cs x hx=>typed ok hok n t ht m cs x hx) fs.toList 0 (P.cellsOf t) cs h hl (fun f Nr=>by
     obtain ⟨i,hi,he⟩:=List.mem_iff_getElem.1 Nr
     have hi':i<fs.size:=by simpa using hi
     have pg:fs[i]?=some f:=by rw [Array.getElem?_eq_getElem hi'];simp at he;rw [he]
     have:=hf i f pg
     rw [List.getElem?_eq_getElem (by omega)] at this
     exact ⟨_,this⟩)
    exact ⟨rs,g1,by simpa using g2,hl⟩
   ·rename_i k e hu
    simp only [Bool.and_eq_true,beq_iff_eq] at h
    try simp only [hu]
    obtain ⟨xs,m,rfl,_,hl,BC,hf⟩:=DataW.trod_array hu hx
    obtain ⟨ys,g1,g2,g3⟩:=IV (enc:=enc) (m:=m) ok (fun cs x hx=>typed ok hok n e h.1 m cs x hx) k 0 cs (by rw [hl,h.2];congr 1;omega) (fun j _ hj=>by
     have:=hf j (by omega)
     rw [List.getElem?_eq_getElem (by omega)] at this
     exact ⟨_,this⟩)
    exact ⟨ys.flatten,⟨ys,rfl,g1,g2⟩,by simpa using g3,hl⟩
   ·cases h
end
def nt (P:Program) (t:TypeId) (rs:List RV):SV:=match fC P t with
 | some true=>.agg (rs.map .rv)
 | _=>.rv (rs.headD .lD)
theorem SD {P:Program} {H:Type} {enc:TypeId×Value→H} {w:World} {r:Reach} {b0 n:Nat} {t:TypeId} {v:Value} {d:DataW H} {ps:List MemPlace} (hf:oc P n t=true) (hval:Value.okWide P w r b0 t v) (hd:DataW.Trod enc P w 0 (fun _=>true) true t v d ps) (C:Ctx) (aa:Nat→Option Nat) :
 ∃ rs,kL P n t rs∧∀ (ok:Nat→Prop) (aa:Nat→Option Nat) (hp:Hp),(∀ b,b<w.heap.size→ok b)→Rp w ok aa hp (nt P t rs) v:=by
 obtain ⟨fuel,hx⟩:=hd
 obtain ⟨rs,h1,h2,h3⟩:=typed (enc:=enc) (fun b=>b<w.heap.size) (fun b hb=>hb) n t hf fuel _ _ hx
 refine ⟨rs,h1,fun ok aa hp hok=>?_⟩
 have qb:mc w ok v.cells.toList rs:=⟨h2.1,fun j q hj=>⟨(h2.2 j q hj).1,(h2.2 j q hj).2.mono fun b hb _=>⟨hok b hb,rfl⟩⟩⟩
 unfold nt
 cases hu:P.underlying t with
 | none=>cases n <;> simp [oc,hu] at hf
 | some kd=>
   have scalar:(fC P t=some false)→v.cells = #[v]→Rp w ok aa hp (.rv (rs.headD .lD)) v:=fun _ hc=>by
    have hl:=qb.1
    rw [hc] at hl qb
    obtain ⟨q,rfl⟩:=List.length_eq_one_iff.1 hl.symm
    exact .rv _ _ (qb.2 0 q rfl).2
   have Kf:(∃ cs,v = .agg cs)→Rp w ok aa hp (.agg (rs.map .rv)) v:=fun ⟨cs,hv⟩=>by
    subst hv
    have hl:=qb.1
    have:Rp w ok aa hp (.agg (rs.map .rv)) (.agg cs.toList.toArray):=by
     refine .agg _ _ (by simpa [Value.cells] using hl) (fun j u hj=>?_) (fun j y hj=>?_)
     ·have hlt:=(List.getElem?_eq_some_iff.1 hj).1
      have hr:=List.getElem?_eq_getElem (l:=rs) (i:=j) (by simp [Value.cells] at hl;simp at hlt;omega)
      have:=qb.2 j _ hr
      have hu:(Value.cells (.agg cs)).toList.getD j undef=u:=by rw [List.getD_eq_getElem?_getD];show (cs.toList[j]?).getD undef=u;rw [hj];rfl
      rw [hu] at this
      exact this.2.wC this.1
     ·rw [List.getElem?_map] at hj
      cases hr:rs[j]? with
      | none=>simp [hr] at hj
      | some q=>simp [hr] at hj;subst hj;exact .rv _ _ (qb.2 j q hr).2
    simpa using this
   have Nk:(∀ cs,v≠.agg cs)→v.cells = #[v]:=fun h=>by cases v <;> first | rfl | exact absurd rfl (h _)
   cases n with
   | zero=>cases hf
   | succ n=>
     unfold oc at hf
     unfold Value.okWide at hval
     cases kd <;> simp only [hu] at hf hval <;> first
      | (cases hf;done)
      | (have ha:fC P t=some true:=by simp [fC,hu]
         simp only [ha]
         obtain ⟨cs,hv,_⟩:=hval
         exact Kf ⟨cs,hv⟩)
      | (have ha:fC P t=some false:=by simp [fC,hu]
         simp only [ha]
         refine scalar ha (Nk (fun cs hv=>?_))
         subst hv
         simp [Cell.okWide,hu,Cell.ok] at hval)
theorem Rt {P:Program} {f:FuncId} {ss:List SV} (h:aK P f ss [] [] (.rv (.bool true))) {w:World} {vs:List Value} (hl:vs.length=ss.length)
 (ha:∀ (j:Nat) (s:SV),ss[j]?=some s→∀ (ok:Nat→Prop) (aa:Nat→Option Nat) (hp:Hp),(∀ b,b<w.heap.size→ok b)→Rp w ok aa hp s (vs.getD j undef)) :
 Calls P f vs.toArray w fun e w'=>e = .returned (.bool true)∧RowKit.Below w.heap.size w w':=by
 let C:Ctx:=⟨w,fun _=>True,fun _=>False,0,fun _=>none,fun _=>none⟩
 have R:cm C (fun _=>none) w (fun _=>none):=⟨fun id hb h=>(by cases h),fun i j b h=>(by simp at h),fun i b h=>(by simp at h),⟨rfl,rfl,rfl,Nat.le_refl _,fun b _ _=>rfl⟩,fun id hb hb0 h=>(by cases h)⟩
 refine (h.2 C (fun _=>none) w (fun _=>none) vs (fun q hq=>by simp at hq) (fun q hq=>by simp at hq) R hl (fun j s hj=>ha j s hj _ _ _ (fun b hb=>⟨.inl trivial,fun id hid=>by simp at hid⟩))).mono ?_
 rintro e w' ⟨v,aJ,rfl,S,hR⟩
 refine ⟨by rw [sX hR],S.mem.fr.os,S.mem.fr.tape,S.mem.fr.output,S.mem.fr.size,fun k hk=>S.mem.fr.block k hk (fun h=>h)⟩
end Go.aL

namespace Go.aL
open Go
def aN (xs:List (List RV)):List (List SV):=xs.map (List.map SV.rv)
section
variable {xs ys:List (List RV)}
theorem Cw:xs.map (List.map SV.rv)=aN xs:=rfl
theorem au:(aN xs).length=xs.length:=by simp [aN]
theorem Tq {i:Nat}:((aN xs)[i]?).getD []=((xs[i]?).getD []).map SV.rv:=by
 unfold aN
 rw [List.getElem?_map]
 cases xs[i]? <;> rfl
theorem Ts {n:Nat}:(aN xs).take n=aN (xs.take n):=by simp [aN]
theorem HP:aN xs++aN ys=aN (xs++ys):=by simp [aN]
theorem map_inj {α β:Type} {f:α→β} (hf:∀ x y,f x=f y→x=y):∀ {a b:List α},a.map f=b.map f→a=b
 | [],[],_=>rfl
 | [],_::_,h=>by simp at h
 | _::_,[],h=>by simp at h
 | x::a,y::b,h=>by
   simp only [List.map_cons,List.cons.injEq] at h
   rw [hf x y h.1,map_inj hf h.2]
theorem nP:aN xs=aN ys↔xs=ys:=by
 constructor
 ·intro h
  exact map_inj (fun a b h=>map_inj (fun x y h=>by cases h;rfl) h) h
 ·rintro rfl;rfl
end
def zZ (τ:Nat→Option Nat) (h:Hp) (xs ys:List (List SV)):Prop:=xs.length=ys.length∧∀ (i:Nat) (x y:List SV),xs[i]?=some x→ys[i]?=some y→rO τ h x y
theorem gW {τ:Nat→Option Nat} {h:Hp} {xs ys:List (List RV)}:zZ τ h (aN xs) (aN ys)↔xs=ys:=by
 constructor
 ·rintro ⟨hl,hr⟩
  refine List.ext_getElem? (fun i=>?_)
  rw [au,au] at hl
  by_cases hi:i<xs.length
  ·have h1:=List.getElem?_eq_getElem hi
   have h2:=List.getElem?_eq_getElem (l:=ys) (i:=i) (by omega)
   have:=hr i (xs[i].map SV.rv) ((ys[i]'(by omega)).map SV.rv) (by simp [aN,h1]) (by simp [aN,h2])
   rw [h1,h2]
   obtain ⟨k1,k2⟩:=this
   simp at k1
   congr 1
   refine List.ext_getElem? (fun j=>?_)
   by_cases hj:j<(xs[i]).length
   ·have g1:=List.getElem?_eq_getElem hj
    have g2:=List.getElem?_eq_getElem (l:=ys[i]'(by omega)) (i:=j) (by omega)
    have:=k2 j _ _ (by rw [List.getElem?_map,g1];rfl) (by rw [List.getElem?_map,g2];rfl)
    rw [g1,g2,aG.1 this]
   ·rw [List.getElem?_eq_none (by omega),List.getElem?_eq_none (by omega)]
  ·rw [List.getElem?_eq_none (by omega),List.getElem?_eq_none (by omega)]
 ·rintro rfl
  refine ⟨rfl,fun i x y hx hy=>?_⟩
  rw [hx] at hy;cases hy
  refine ⟨rfl,fun j a b ha hb=>?_⟩
  rw [ha] at hb;cases hb
  unfold aN at hx
  rw [List.getElem?_map] at hx
  cases hq:xs[i]? with
  | none=>simp [hq] at hx
  | some q=>
    simp [hq] at hx
    subst hx
    rw [List.getElem?_map] at ha
    cases hr:q[j]? with
    | none=>simp [hr] at ha
    | some r=>simp [hr] at ha;subst ha;exact aG.2 rfl
def fW (τ:Nat→Option Nat) (h:Hp):Option HB→Option HB→Prop
 | some (.var xs),some (.var ys)=>aF τ h xs ys
 | some (.row e v xs),some (.row e' v' ys)=>e=e'∧v=v'∧zZ τ h xs ys
 | _,_=>False
theorem fW.get {τ:Nat→Option Nat} {h:Hp} {x y:Option HB} (hr:fW τ h x y):∃ a b,x=some a∧y=some b∧oS τ h a b:=by
 unfold fW at hr
 split at hr
 ·exact ⟨_,_,rfl,rfl,.var _ _ (uw.1 hr)⟩
 ·obtain ⟨rfl,rfl,h1,h2⟩:=hr
  exact ⟨_,_,rfl,rfl,.row _ _ _ _ h1 h2⟩
 ·exact hr.elim
def gk:List (Nat×HB)→Nat→Option HB
 | [],_=>none
 | (i,hb)::r,id=>if id=i then some hb else gk r id
def fZ:Option HB→List (Nat×HB)→Nat→Option HB
 | b,[],_=>b
 | b,(i,hb)::r,id=>fZ (if id=i then some hb else b) r id
theorem IX {id:Nat}:∀ {us:List (Nat×HB)} {hp:Hp},bM hp us id=fZ (hp id) us id
 | [],hp=>rfl
 | (i,hb)::r,hp=>by
   rw [bM,IX,fZ]
   unfold up
   rfl
theorem El {id:Nat} {hb:HB}:∀ {us:List (Nat×HB)} {a:Option HB},fZ none us id=some hb→fZ a us id=some hb
 | [],a,h=>by cases h
 | (i,hb0)::r,a,h=>by
   unfold fZ at h ⊢
   by_cases hi:id=i
   ·rw [if_pos hi] at h ⊢;exact h
   ·rw [if_neg hi] at h ⊢;exact El h
theorem Gm {id:Nat} {hb:HB}:∀ {pre:List (Nat×HB)},gk pre id=some hb→(id,hb)∈pre
 | [],h=>by cases h
 | (i,hb0)::r,h=>by
   unfold gk at h
   split at h
   ·rename_i hi;cases h;subst hi;simp
   ·exact List.mem_cons_of_mem _ (Gm h)
theorem LB {pre us:List (Nat×HB)} {id:Nat} {hb:HB} (h:fZ (gk pre id) us id=some hb) (hp:Hp) (hpre:aT hp pre):bM hp us id=some hb:=by
 rw [IX]
 cases hl:gk pre id with
 | none=>rw [hl] at h;exact El h
 | some b=>
   rw [hl] at h
   rw [hpre (id,b) (Gm hl)];exact h
def gN (τ:Nat→Option Nat) (h:Hp) (pre us:List (Nat×HB)):Nat→List (Option Nat)→Prop
 | _,[]=>True
 | j,none::r=>gN τ h pre us (j+1) r
 | j,some id::r=>fW τ h (h j) (fZ (gk pre id) us id)∧gN τ h pre us (j+1) r
theorem Ga {τ:Nat→Option Nat} {h:Hp} {pre us:List (Nat×HB)}:∀ {l:List (Option Nat)} {j:Nat},gN τ h pre us j l→∀ (i id:Nat),l[i]?=some (some id)→fW τ h (h (j+i)) (fZ (gk pre id) us id)
 | [],j,_,i,id,hi=>by simp at hi
 | x::r,j,hk,i,id,hi=>by
   cases i with
   | zero=>
     simp at hi
     subst hi
     exact hk.1
   | succ i=>
     have hk':gN τ h pre us (j+1) r:=by cases x with | none=>exact hk | some q=>exact hk.2
     have:=Ga hk' i id (by simpa using hi)
     rwa [show j+1+i=j+(i+1) by omega] at this
def gB (tf:List (Option Nat)) (j:Nat):Option Nat:=(tf[j]?).getD none
def bW:List (Option Nat)→Prop
 | []=>True
 | none::r=>bW r
 | some x::r=>some x∉r∧bW r
theorem zi:∀ {l:List (Option Nat)},bW l→∀ (i j id:Nat),l[i]?=some (some id)→l[j]?=some (some id)→i=j
 | [],_,i,j,id,h,_=>by simp at h
 | x::r,hn,i,j,id,h1,h2=>by
   have hn':bW r:=by cases x with | none=>exact hn | some q=>exact hn.2
   cases i with
   | zero=>
     simp at h1
     subst h1
     cases j with
     | zero=>rfl
     | succ j=>exact absurd (List.mem_of_getElem? (by simpa using h2)) hn.1
   | succ i=>
     cases j with
     | zero=>
       simp at h2
       subst h2
       exact absurd (List.mem_of_getElem? (by simpa using h1)) hn.1
     | succ j=>rw [zi hn' i j id (by simpa using h1) (by simpa using h2)]
def newL (pre us:List (Nat×HB)):List (Option Nat)→Prop
 | []=>True
 | none::r=>newL pre us r
 | some id::r=>id∈us.map (·.1)∧id∉pre.map (·.1)∧newL pre us r
theorem GF {pre us:List (Nat×HB)}:∀ {l:List (Option Nat)},newL pre us l→∀ (i id:Nat),l[i]?=some (some id)→id∈us.map (·.1)∧id∉pre.map (·.1)
 | [],_,i,id,h=>by simp at h
 | x::r,hn,i,id,h=>by
   have hn':newL pre us r:=by cases x with | none=>exact hn | some q=>exact hn.2.2
   cases i with
   | zero=>simp at h;subst h;exact ⟨hn.1,hn.2.1⟩
   | succ i=>exact GF hn' i id (by simpa using h)
def gY (tf:List (Option Nat)):List (Nat×HB)→Prop
 | []=>True
 | (i,_)::r=>some i∈tf∧gY tf r
theorem Dc {tf:List (Option Nat)}:∀ {us:List (Nat×HB)},gY tf us→∀ q∈us,some q.1∈tf
 | [],_,q,h=>by simp at h
 | (i,hb)::r,hu,q,h=>by
   rcases List.mem_cons.1 h with rfl | h
   ·exact hu.1
   ·exact Dc hu.2 q h
def gV (σ:List Nat) (pre us:List (Nat×HB)) (rs:List RR) (sv:SV) (env:List (Nat×SV)) (h:List (Option HB)) (kM:List (Option Nat)):Prop:=
 bW (σ.map some++kM)∧newL pre us kM∧gY (σ.map some++kM) us∧gN (gB (σ.map some++kM)) (aB h) pre us 0 (σ.map some++kM)∧aS (gB (σ.map some++kM)) (aB h) sv (aQ (lk env) (aB h) rs)
theorem Em {σ:List Nat} {pre us:List (Nat×HB)} {rs:List RR} {sv:SV} {env:List (Nat×SV)} {h:List (Option HB)} {kM:List (Option Nat)} (hr:gV σ pre us rs sv env h kM):Fin σ pre us rs sv env h (gB (σ.map some++kM)):=by
 obtain ⟨h1,h2,h3,h4,h5⟩:=hr
 have yJ:∀ j id,gB (σ.map some++kM) j=some id→(σ.map some++kM)[j]?=some (some id):=fun j id hj=>by
  unfold gB at hj
  cases hq:(σ.map some++kM)[j]? with
  | none=>rw [hq] at hj;cases hj
  | some x=>rw [hq] at hj;simp at hj;rw [hj]
 refine ⟨fun i j id hi hj=>zi h1 i j id (yJ i id hi) (yJ j id hj),fun j id hj=>?_,fun j id hj hl=>?_,fun j id hj=>?_,fun q hq=>?_,?_⟩
 ·unfold gB
  rw [List.getElem?_append_left (by have:=(List.getElem?_eq_some_iff.1 hj).1;simpa using this),List.getElem?_map,hj];rfl
 ·have:=yJ j id hj
  rw [List.getElem?_append_right (by simpa using hl)] at this
  obtain ⟨g1,g2⟩:=GF h2 _ id this
  exact ⟨g1,fun q hq he=>g2 (List.mem_map.2 ⟨q,hq,he⟩)⟩
 ·have:=Ga h4 j id (yJ j id hj)
  rw [Nat.zero_add] at this
  obtain ⟨a,b,g1,g2,g3⟩:=this.get
  exact ⟨a,b,g1,g3,fun hp hpre=>LB g2 hp hpre⟩
 ·obtain ⟨j,hj,he⟩:=List.mem_iff_getElem.1 (Dc h3 q hq)
  refine ⟨j,?_⟩
  unfold gB
  rw [List.getElem?_eq_getElem hj,he];rfl
 ·unfold aS at h5
  split at h5
  ·rename_i p xs hres;exact ⟨p,xs,hres,h5.1,h5.2⟩
  ·exact h5.elim
def aP (σ:Nat→Option Nat):List SV→List SV→Prop
 | [],[]=>True
 | x::xs,y::ys=>Bk σ x y∧aP σ xs ys
 | _,_=>False
theorem lH {σ:Nat→Option Nat}:∀ {xs ys:List SV},aP σ xs ys↔rJ σ xs ys
 | [],[]=>⟨fun _=>⟨rfl,fun i x y hx=>by simp at hx⟩,fun _=>trivial⟩
 | [],_::_=>⟨fun h=>h.elim,fun h=>by simp [rJ] at h⟩
 | _::_,[]=>⟨fun h=>h.elim,fun h=>by simp [rJ] at h⟩
 | x::xs,y::ys=>by
   unfold aP
   rw [lH (xs:=xs) (ys:=ys)]
   constructor
   ·rintro ⟨h1,h2,h3⟩
    refine ⟨by simp [h2],fun i a b ha hb=>?_⟩
    cases i with
    | zero=>simp at ha hb;subst ha;subst hb;exact h1
    | succ i=>exact h3 i a b (by simpa using ha) (by simpa using hb)
   ·rintro ⟨h2,h3⟩
    exact ⟨h3 0 x y rfl rfl,by simpa using h2,fun i a b ha hb=>h3 (i+1) a b (by simpa using ha) (by simpa using hb)⟩
section
variable {σ:Nat→Option Nat}
theorem aW {r r':RV}:Bk σ (.rv r) (.rv r')↔r=r':=⟨fun hr=>by cases hr;rfl,fun e=>by subst e;exact .rv _⟩
theorem nV {x:SV}:Bk σ .dead x↔True:=⟨fun _=>trivial,fun _=>.dead _⟩
theorem lI {i j o o':Nat}:Bk σ (.ptr i o) (.ptr j o')↔σ i=some j∧o=o':=⟨fun hr=>by cases hr with | ptr _ _ _ hj=>exact ⟨hj,rfl⟩,fun ⟨e,e'⟩=>by subst e';exact .ptr _ _ _ e⟩
theorem lu {i j v v' l l':Nat}:Bk σ (.row i v l) (.row j v' l')↔σ i=some j∧v=v'∧l=l':=⟨fun hr=>by cases hr with | row _ _ _ _ hj=>exact ⟨hj,rfl,rfl⟩,fun ⟨e,e',e2⟩=>by subst e';subst e2;exact .row _ _ _ _ e⟩
theorem aY {xs ys:List SV}:Bk σ (.agg xs) (.agg ys)↔aP σ xs ys:=by rw [lH];exact ⟨fun hr=>by cases hr with | agg _ _ hl hf=>exact ⟨hl,hf⟩,fun ⟨e,e'⟩=>.agg _ _ e e'⟩
theorem nX {xs ys:List SV}:Bk σ (.aO xs) (.aO ys)↔aP σ xs ys:=by rw [lH];exact ⟨fun hr=>by cases hr with | aO _ _ hl hf=>exact ⟨hl,hf⟩,fun ⟨e,e'⟩=>.aO _ _ e e'⟩
theorem bk {f f':FuncId} {xs ys:List SV}:Bk σ (.fn f xs) (.fn f' ys)↔f=f'∧aP σ xs ys:=by rw [lH];exact ⟨fun hr=>by cases hr with | fn _ _ _ hl hf=>exact ⟨rfl,hl,hf⟩,fun ⟨e,e',e2⟩=>by subst e;exact .fn _ _ _ e' e2⟩
theorem Dq {f f':FuncId} {xs ys:List SV}:Bk σ (.fF f xs) (.fF f' ys)↔f=f'∧aP σ xs ys:=by rw [lH];exact ⟨fun hr=>by cases hr with | fF _ _ _ hl hf=>exact ⟨rfl,hl,hf⟩,fun ⟨e,e',e2⟩=>by subst e;exact .fF _ _ _ e' e2⟩
theorem nW {t t':TypeId} {x y:SV}:Bk σ (.bU t x) (.bU t' y)↔t=t'∧Bk σ x y:=⟨fun hr=>by cases hr with | bU _ _ _ hf=>exact ⟨rfl,hf⟩,fun ⟨e,e'⟩=>by subst e;exact .bU _ _ _ e'⟩
theorem bq {rs:List RV}:aP σ (rs.map .rv) (rs.map .rv)↔True:=⟨fun _=>trivial,fun _=>lH.2 ⟨rfl,fun i x y hx hy=>by
 rw [hx] at hy;cases hy
 rw [List.getElem?_map] at hx
 cases hr:rs[i]? with
 | none=>simp [hr] at hx
 | some r=>simp [hr] at hx;subst hx;exact .rv r⟩⟩
end
theorem fX {τ:Nat→Option Nat} {h:Hp} {rs qs:List RV}:aF τ h (rs.map .rv) (qs.map .rv)↔rs=qs:=by
 induction rs generalizing qs with
 | nil=>cases qs <;> simp [aF]
 | cons r rs ih=>cases qs with
   | nil=>simp [aF]
   | cons q qs=>simp [aF,aG,ih]
def hD (σ:Nat→Option Nat):List HB→List HB→Prop
 | [],[]=>True
 | .var xs::r,.var ys::q=>aP σ xs ys∧hD σ r q
 | .row e v xs::r,.row e' v' ys::q=>e=e'∧v=v'∧(xs=ys∧∃ zs,xs=aN zs)∧hD σ r q
 | _,_=>False
theorem hD.get {σ:Nat→Option Nat}:∀ {a b:List HB},hD σ a b→a.length=b.length∧∀ (j:Nat) (x y:HB),a[j]?=some x→b[j]?=some y→mN σ x y
 | [],[],_=>⟨rfl,fun j x y hx=>by simp at hx⟩
 | .var xs::r,.var ys::q,h=>by
   obtain ⟨g1,g2⟩:=hD.get h.2
   refine ⟨by simp [g1],fun j x y hx hy=>?_⟩
   cases j with
   | zero=>simp at hx hy;subst hx;subst hy;exact .var _ _ (lH.1 h.1)
   | succ j=>exact g2 j x y (by simpa using hx) (by simpa using hy)
 | .row e v xs::r,.row e' v' ys::q,h=>by
   obtain ⟨rfl,rfl,⟨rfl,zs,rfl⟩,h4⟩:=h
   obtain ⟨g1,g2⟩:=hD.get h4
   refine ⟨by simp [g1],fun j x y hx hy=>?_⟩
   cases j with
   | zero=>
     simp at hx hy;subst hx;subst hy
     refine .row _ _ _ _ rfl (fun i x y hx hy=>?_)
     rw [hx] at hy;cases hy
     unfold aN at hx
     rw [List.getElem?_map] at hx
     cases hq:zs[i]? with
     | none=>simp [hq] at hx
     | some z=>simp [hq] at hx;subst hx;exact lH.1 (bq.2 trivial)
   | succ j=>exact g2 j x y (by simpa using hx) (by simpa using hy)
 | [],_::_,h=>h.elim
 | .var _::_,[],h=>h.elim
 | .row .. :: _,[],h=>h.elim
 | .var _::_,.row .. :: _,h=>h.elim
 | .row .. :: _,.var _::_,h=>h.elim
theorem mU {P:Program} {f:FuncId} {N:Nat} {ac:AC} {rs:List RR} (H:aU P f N ac rs) (σ:List Nat) (mo mq:List HB) (iO args:List SV) (us:List (Nat×HB)) (sv:SV) (hN:args.length≤N) (hA:aP (fun j=>σ[j]?) iO args) (hl:mo.length=σ.length) (yH:bW (σ.map some)) (hB:hD (fun j=>σ[j]?) mo mq)
 (hrun:∀ K:Ex→St→Prop,(∀ env h env' h' kM,fV σ.length ⟨env,h⟩ ⟨env',h'⟩→gV σ (σ.zip mq) us rs sv env' h' kM→K .normal ⟨env,h⟩∧K .ret ⟨env,h⟩)→G P σ.length [.c ac] K (nJ 0 iO) (mo.map some)):aK P f args (σ.zip mq) us sv:=by
 obtain ⟨g1,g2⟩:=hB.get
 refine xJ H σ (mo.map some) iO hN (lH.1 hA) (by simpa using hl) (fun i j id h1 h2=>zi yH i j id (by simp [h1]) (by simp [h2])) (fun j id hj=>?_) (fun K hK=>hrun K (fun env h env' h' kM hE hr=>hK env h env' h' _ hE (Em hr)))
 have hlt:=(List.getElem?_eq_some_iff.1 hj).1
 have h1:=List.getElem?_eq_getElem (l:=mo) (i:=j) (by omega)
 have h2:=List.getElem?_eq_getElem (l:=mq) (i:=j) (by omega)
 refine ⟨_,_,by rw [List.getElem?_map,h1];rfl,?_,g2 j _ _ h1 h2⟩
 have hz:(σ.zip mq)[j]?=some (id,mq[j]'(by omega)):=by
  rw [List.getElem?_zip_eq_some];exact ⟨hj,h2⟩
 exact List.mem_of_getElem? hz
theorem iz {x:Option HB} {r:List (Option HB)}:aB (x::r) 0=x:=rfl
theorem iy {x:Option HB} {r:List (Option HB)} {n:Nat}:aB (x::r) (n+1)=aB r n:=rfl
theorem MC {P:Program} {n0:Nat} {k:List It} {K:Ex→St→Prop} {env:List (Nat×SV)} {h:List (Option HB)} {id:Nat} {a:List Nat} {b:List TE} {c:List bF}:GX P n0 id (.d a b c::k) K env h=GX P n0 id k K env h:=rfl
theorem Vi {α:Type} {o:Nat} {x l:List α}:splice l o x=l.take o++x++l.drop (o+x.length):=rfl
def th (τ:Nat→Option Nat) (h:Hp):List SV→List RV→Prop
 | [],[]=>True
 | x::xs,r::rs=>Fz τ h x r∧th τ h xs rs
 | _,_=>False
theorem th.get {τ:Nat→Option Nat} {h:Hp}:∀ {xs:List SV} {rs:List RV},th τ h xs rs→xs.length=rs.length∧∀ (j:Nat) (x:SV) (r:RV),xs[j]?=some x→rs[j]?=some r→Fz τ h x r
 | [],[],_=>⟨rfl,fun j x r hx=>by simp at hx⟩
 | x::xs,r::rs,hf=>by
   obtain ⟨g1,g2⟩:=th.get hf.2
   refine ⟨by simp [g1],fun j y q hy hq=>?_⟩
   cases j with
   | zero=>simp at hy hq;subst hy;subst hq;exact hf.1
   | succ j=>exact g2 j y q (by simpa using hy) (by simpa using hq)
 | [],_::_,h=>h.elim
 | _::_,[],h=>h.elim
theorem og {τ:Nat→Option Nat} {h:Hp} {j e az len:Nat} {xs:List (List RV)} (hj:h j=some (.row e az (aN xs))) (lO:τ j=none) (hl:len≤xs.length) (h1:∀ x∈xs,∀ r∈x,r.one=true):Fz τ h (.row j az len) (.sl e (xs.take len)):=by
 have at_:∀ (i:Nat) (x:List SV) (r:List RV),(aN xs)[i]?=some x→(xs.take len)[i]?=some r→x=r.map .rv∧r∈xs:=fun i x r hx hr=>by
  have h1:=List.mem_of_mem_take (List.mem_of_getElem? hr)
  have hlt:=(List.getElem?_eq_some_iff.1 hr).1
  rw [List.getElem?_take,if_pos (by simp at hlt;omega)] at hr
  unfold aN at hx
  rw [List.getElem?_map,hr] at hx
  simp at hx
  exact ⟨hx.symm,h1⟩
 refine .row j e az len (aN xs) (xs.take len) lO hj (by simp;omega) (by rw [au];exact hl) (fun i x r hx hr=>?_) (fun i r k q hr hq=>?_) (fun i x r k y q hx hr hy hq=>?_)
 ·rw [(at_ i x r hx hr).1];simp
 ·exact h1 r (List.mem_of_mem_take (List.mem_of_getElem? hr)) q (List.mem_of_getElem? hq)
 ·rw [(at_ i x r hx hr).1,List.getElem?_map,hq] at hy
  simp at hy
  subst hy
  exact .rv q
theorem xI {P:Program} {f:FuncId} {rs:List RV} {args:List SV} {pre us:List (Nat×HB)} {sv:SV} (H:aK P f (rs.map .rv) [] us sv)
 (hz:∀ hp,aT hp pre→th (fun _=>none) hp args rs) (hl:args.length=rs.length) (hfl:iH sv) (jZ:∀ q∈us,oQ q.2∧∀ p∈pre,p.1≠q.1):aK P f args pre us sv:=
 KI H hl (fun hp hpre j y r hy hr=>(hz hp hpre).get.2 j y r hy hr) hfl jZ
theorem cm.EC {C:Ctx} {hp:Hp} {w:World} {aa:Nat→Option Nat} (R:cm C hp w aa) {i0 m o:Nat} {cs:List SV} (e:Nat) (hi:hp i0=some (.var cs)) (ho:cs[o]?=some (.rv .cw)) (hm:hp m=none) (hm0:C.h0 m=none) :
 ∃ aJ,Step C hp (up (up hp m (some (.row e 0 []))) i0 (some (.var (cs.set o (.row m 0 0))))) w w aa aJ:=by
 have S:=R.ghost m e 0 (.inl ⟨hm,hm0⟩)
 have hne:i0≠m:=fun h=>by subst h;rw [hm] at hi;cases hi
 have hi':(up hp m (some (.row e 0 []))) i0=some (.var cs):=by rw [gi _ _ hne];exact hi
 rcases S.mem.heap i0 _ hi' with ⟨_,e',az,hc⟩ | ⟨b,cur,t,h1,h2,h3⟩
 ·cases hc
 ·have S2:=S.mem.replace i0 (.var (cs.set o (.row m 0 0))) b cur t rfl rfl rfl (Nat.le_refl _) h2 (fun k _ _=>rfl) (.inl ⟨by rw [hi'];rfl,h1⟩) (fun hb hq=>by rw [hi'] at hq;cases hq;exact h1.symm) (fun hq=>by rw [hi'] at hq;cases hq) ⟨by rw [List.length_set];exact h3.1,fun j y hy=>by
   rw [List.getElem?_set] at hy
   split at hy
   ·rename_i hj
    subst hj
    split at hy
    ·cases hy
     obtain ⟨v,v1,v2,v3⟩:=h3.2 _ _ ho
     refine ⟨v,v1,v2,?_⟩
     cases v3 with
     | rv _ _ hr=>
       cases hr
       exact .row _ _ _ _ rfl (by rw [cq];rfl) (fun e fY xs hx=>by rw [cq] at hx;cases hx;exact Nat.le_refl _) (fun e xs hx=>.inl ⟨cq _ _ _,rfl,rfl⟩)
    ·cases hy
   ·exact h3.2 j y hy⟩
  exact ⟨_,S.trans S2 (Nat.le_refl _)⟩
theorem KJ {P:Program} {f:FuncId} {args:List SV} {pre us:List (Nat×HB)} {sv:SV} {i0 m e o:Nat} {cs:List SV} (ho:cs[o]?=some (.rv .cw)) (hm:∀ q∈pre,q.1≠m∧q.1≠i0) (hne:m≠i0) (h1:i0∈us.map (·.1)) (h2:m∈us.map (·.1))
 (H:aK P f args ((i0,.var (cs.set o (.row m 0 0)))::(m,.row e 0 [])::pre) us sv):aK P f args ((i0,.var cs)::pre) us sv:=by
 refine ⟨H.1,fun C hp w aa vs hpre hnew R hvl hvs=>?_⟩
 have hi:hp i0=some (.var cs):=hpre (i0,.var cs) (by simp)
 obtain ⟨hmn,hm0⟩:hp m=none∧C.h0 m=none:=by
  obtain ⟨q,hq,rfl⟩:=List.mem_map.1 h2
  rcases hnew q hq with ⟨hb,hmem⟩ | h
  ·rcases List.mem_cons.1 hmem with he | hmem
   ·cases he;exact absurd rfl hne
   ·exact absurd rfl (hm _ hmem).1
  ·exact h
 obtain ⟨zA,S⟩:=R.EC e hi ho hmn hm0
 have hE:∀ id,id≠m→id≠i0→(up (up hp m (some (.row e 0 []))) i0 (some (.var (cs.set o (.row m 0 0))))) id=hp id:=fun id a b=>by rw [gi _ _ b,gi _ _ a]
 have NT:bM (up (up hp m (some (.row e 0 []))) i0 (some (.var (cs.set o (.row m 0 0))))) us=bM hp us:=by
  funext id
  by_cases hid:id∈us.map (·.1)
  ·exact wQ hid
  ·rw [zS hid,zS hid,hE id (fun h=>hid (h▸h2)) (fun h=>hid (h▸h1))]
 refine (H.2 C _ w zA vs (fun q hq=>?_) (fun q hq=>?_) S.mem hvl (fun j s hj=>(hvs j s hj).mono S.jG)).mono ?_
 ·rcases List.mem_cons.1 hq with rfl | hq
  ·exact cq _ _ _
  ·rcases List.mem_cons.1 hq with rfl | hq
   ·show (up (up hp m _) i0 _) m=_
    rw [gi _ _ hne,cq]
   ·rw [hE _ (hm q hq).1 (hm q hq).2];exact hpre q (by simp [hq])
 ·rcases hnew q hq with ⟨hb,hmem⟩ | ⟨a,b⟩
  ·rcases List.mem_cons.1 hmem with he | hmem
   ·exact .inl ⟨_,by rw [(Prod.mk.inj he).1];exact .head _⟩
   ·exact .inl ⟨hb,by simp [hmem]⟩
  ·by_cases Fj:q.1=m
   ·exact .inl ⟨.row e 0 [],by rw [Fj];simp⟩
   ·refine .inr ⟨?_,b⟩
    rw [hE _ Fj (fun h=>by rw [h,hi] at a;cases a)];exact a
 ·rintro e' w' ⟨v,aJ,rfl,S2,hR⟩
  rw [NT] at S2 hR
  exact ⟨v,aJ,rfl,S.trans S2 (Nat.le_refl _),hR⟩
theorem KB:(true != true)=false:=rfl
theorem KA:(true != false)=true:=rfl
theorem Kz:(false != true)=true:=rfl
theorem Ky:(false != false)=false:=rfl
end Go.aL

namespace Go.aL
open Go
def gD (k j:Nat):Option Nat:=if j<k then some j else none
def qk (τ:Nat→Option Nat) (h:Hp):Nat→List (Option HB)→Prop
 | _,[]=>True
 | _,none::_=>False
 | j,some hb::r=>fW τ h (h j) (some hb)∧qk τ h (j+1) r
theorem FZ {τ:Nat→Option Nat} {h:Hp}:∀ {l:List (Option HB)} {j:Nat},qk τ h j l→∀ i,i<l.length→∃ hb hb',l[i]?=some (some hb')∧h (j+i)=some hb∧oS τ h hb hb'
 | [],j,_,i,hi=>by simp at hi
 | none::_,j,hk,i,hi=>hk.elim
 | some x::r,j,hk,i,hi=>by
   cases i with
   | zero=>
     obtain ⟨a,b,g1,g2,g3⟩:=hk.1.get
     cases g2
     exact ⟨a,x,rfl,g1,g3⟩
   | succ i=>
     obtain ⟨a,b,g1,g2,g3⟩:=FZ hk.2 i (by simpa using hi)
     exact ⟨a,b,by simpa using g1,by rwa [show j+(i+1)=j+1+i by omega],g3⟩
theorem tK {n0:Nat} {env env':List (Nat×SV)} {h:List (Option HB)} (h':List (Option HB)) (hn:n0≤h'.length) (hk:qk (gD h'.length) (aB h) 0 h')
 (he:∀ p∈env',Rn (gD h'.length) (aB h) (lk env p.1) p.2):fV n0 ⟨env,h⟩ ⟨env',h'⟩:=by
 refine AE (gD h'.length) hn (fun j i hj=>?_) (fun j hj=>?_) (fun j=>?_) (wh (fun x=>.dead x) he)
 ·unfold gD at hj;split at hj <;> cases hj;rfl
 ·unfold gD at hj;split at hj
  ·cases hj
  ·omega
 ·by_cases hj:j<h'.length
  ·obtain ⟨hb,hb',g1,g2,g3⟩:=FZ hk j hj
   rw [Nat.zero_add] at g2
   exact .inl ⟨hb,hb',by simp [gD,hj],g2,pn.2 g1,g3⟩
  ·refine .inr ⟨?_,.inl (by simp [gD,hj])⟩
   unfold aB
   rw [List.getElem?_eq_none (by omega)]
theorem pN {τ:Nat→Option Nat} {h:Hp} {j e az len:Nat} {xs:List (List RV)} (hj:h j=some (.row e az (aN xs))) (lO:τ j=none) (hl:len=xs.length) (h1:∀ x∈xs,∀ r∈x,r.one=true):Rn τ h (.row j az len) (.rv (.sl e xs)):=by
 have:=og (τ:=τ) hj lO (len:=len) (by omega) h1
 rw [hl,List.take_length] at this
 rw [hl];exact .fz _ _ this
theorem RO.Tv {w:World} {ok:Nat→Prop} {e:Nat} {v:Value} (h:RO w ok (.sl e []) v):RO w ok .cw v∨RO w ok .mH v:=by
 cases h with
 | sl _ _ a cap c h0 hc hm he hr h1 hy=>
   cases a with
   | none=>have:=(h0 rfl).2;subst this;exact .inl .cw
   | some a=>exact .inr (.mH a cap hm)
theorem Dw {P:Program} {f:FuncId} {e:Nat} {lp bs:List SV} {pre us:List (Nat×HB)} {sv:SV} (h1:aK P f (lp ++ .rv .cw::bs) pre us sv) (h2:aK P f (lp ++ .rv .mH::bs) pre us sv):aK P f (lp ++ .rv (.sl e [])::bs) pre us sv:=by
 refine ⟨h1.1,fun C hp w aa vs hpre hnew R hvl hvs=>?_⟩
 have hj:=hvs lp.length (.rv (.sl e [])) (by simp)
 have key:∀ r:RV,RO w (aH C aa hp) r (vs.getD lp.length undef)→∀ (j:Nat) (s:SV),(lp ++ .rv r::bs)[j]?=some s→Rp w (aH C aa hp) aa hp s (vs.getD j undef):=fun r hr j s hs=>by
  by_cases he:j=lp.length
  ·subst he
   simp at hs
   subst hs
   exact .rv _ _ hr
  ·refine hvs j s ?_
   by_cases hlt:j<lp.length
   ·rw [List.getElem?_append_left hlt] at hs ⊢;exact hs
   ·rw [List.getElem?_append_right (by omega)] at hs ⊢
    obtain ⟨k,hk⟩:∃ k,j - lp.length=k+1:=⟨j - lp.length - 1,by omega⟩
    rw [hk,List.getElem?_cons_succ] at hs ⊢
    exact hs
 cases hj with
 | rv _ _ hr=>
   rcases RO.Tv hr with hr | hr
   ·exact h1.2 C hp w aa vs hpre hnew R (by simpa using hvl) (key _ hr)
   ·exact h2.2 C hp w aa vs hpre hnew R (by simpa using hvl) (key _ hr)
end Go.aL

namespace Go.aL
open Go
section
variable {P:Program} {n0:Nat} {k:List It} {K:Ex→St→Prop} {env:List (Nat×SV)} {h:List (Option HB)}
theorem KO {a b:AC}:xT P n0 a b k K env h (.rv (.bool true))=G P n0 (.c a::k) K env h:=rfl
theorem KN {a b:AC}:xT P n0 a b k K env h (.rv (.bool false))=G P n0 (.c b::k) K env h:=rfl
theorem ai {a b:AC} {t:Bool} (h1:t=true→G P n0 (.c a::k) K env h) (h2:t=false→G P n0 (.c b::k) K env h):xT P n0 a b k K env h (.rv (.bool t)):=by
 cases t
 ·exact h2 rfl
 ·exact h1 rfl
section
variable {ao:AO} {xs:List XO} {dst:Option Nat} {r:List bF} {aV:List Nat} {acc:List TE} {fD:List Nat}
theorem Ms:so P n0 true ao xs dst r k K env h (.rv (.bool true))=sR P n0 ao (xs.map (iY (lk env))) dst r k K env h:=rfl
theorem Mr:so P n0 true ao xs dst r k K env h (.rv (.bool false))=G P n0 (.o r::k) K (gf dst (.aO []) env) h:=rfl
theorem Mq:so P n0 false ao xs dst r k K env h (.rv (.bool true))=G P n0 (.o r::k) K (gf dst (.aO []) env) h:=rfl
theorem Mp:so P n0 false ao xs dst r k K env h (.rv (.bool false))=sR P n0 ao (xs.map (iY (lk env))) dst r k K env h:=rfl
theorem Mt {b:Bool}:so P n0 b ao xs dst r k K env h (.aO [])=G P n0 (.o r::k) K (gf dst (.aO []) env) h:=rfl
theorem My {b:Bool}:sq P n0 aV acc fD b ao xs dst r k K env h (.aO [])=G P n0 (.d aV (acc++[⟨fD,dst,[],[]⟩]) r::k) K (gf dst (.aO []) env) h:=rfl
theorem ax {b t:Bool} (h1:t=b→sR P n0 ao (xs.map (iY (lk env))) dst r k K env h) (h2:t = !b→G P n0 (.o r::k) K (gf dst (.aO []) env) h):so P n0 b ao xs dst r k K env h (.rv (.bool t)):=by
 cases t <;> cases b <;> first | exact h1 rfl | exact h2 rfl
theorem Mx:sq P n0 aV acc fD true ao xs dst r k K env h (.rv (.bool true))=sU P n0 aV acc fD ao (xs.map (iY (lk env))) dst r k K env h:=rfl
theorem Mw:sq P n0 aV acc fD true ao xs dst r k K env h (.rv (.bool false))=G P n0 (.d aV (acc++[⟨fD,dst,[],[]⟩]) r::k) K (gf dst (.aO []) env) h:=rfl
theorem Mv:sq P n0 aV acc fD false ao xs dst r k K env h (.rv (.bool true))=G P n0 (.d aV (acc++[⟨fD,dst,[],[]⟩]) r::k) K (gf dst (.aO []) env) h:=rfl
theorem Mu:sq P n0 aV acc fD false ao xs dst r k K env h (.rv (.bool false))=sU P n0 aV acc fD ao (xs.map (iY (lk env))) dst r k K env h:=rfl
theorem ay {b t:Bool} (h1:t=b→sU P n0 aV acc fD ao (xs.map (iY (lk env))) dst r k K env h) (h2:t = !b→G P n0 (.d aV (acc++[⟨fD,dst,[],[]⟩]) r::k) K (gf dst (.aO []) env) h):sq P n0 aV acc fD b ao xs dst r k K env h (.rv (.bool t)):=by
 cases t <;> cases b <;> first | exact h1 rfl | exact h2 rfl
end
end
theorem SL {x y:SV}:wE [.rv (.bool true),x,y]=some (True,x,none,[]):=rfl
theorem SK {x y:SV}:wE [.rv (.bool false),x,y]=some (True,y,none,[]):=rfl
theorem bA {x y:Int}:(x == y)=decide (x=y):=rfl
theorem Jg {m:Int} (h1:0≤m) (h2:m≤4611686018427387904):IntKind.i64.wrap (0 - m) = -m:=by rw [wrap_i64 (by omega) (by omega)];omega
theorem xH {P:Program} {f:FuncId} {N:Nat} {ac:AC} {rs:List RR} (H:aU P f N ac rs) (σ:List Nat) (mo mq:List HB) (iO args:List SV) (us:List (Nat×HB)) (sv:SV) (hN:args.length≤N) (hA:aP (fun j=>σ[j]?) iO args) (hl:mo.length=σ.length) (yH:bW (σ.map some)) (g1:mo.length=mq.length)
 (g2:∀ (j:Nat) (x y:HB),mo[j]?=some x→mq[j]?=some y→mN (fun j=>σ[j]?) x y)
 (hrun:∀ K:Ex→St→Prop,(∀ env h env' h' kM,fV σ.length ⟨env,h⟩ ⟨env',h'⟩→gV σ (σ.zip mq) us rs sv env' h' kM→K .normal ⟨env,h⟩∧K .ret ⟨env,h⟩)→G P σ.length [.c ac] K (nJ 0 iO) (mo.map some)):aK P f args (σ.zip mq) us sv:=by
 refine xJ H σ (mo.map some) iO hN (lH.1 hA) (by simpa using hl) (fun i j id h1 h2=>zi yH i j id (by simp [h1]) (by simp [h2])) (fun j id hj=>?_) (fun K hK=>hrun K (fun env h env' h' kM hE hr=>hK env h env' h' _ hE (Em hr)))
 have hlt:=(List.getElem?_eq_some_iff.1 hj).1
 have h1:=List.getElem?_eq_getElem (l:=mo) (i:=j) (by omega)
 have h2:=List.getElem?_eq_getElem (l:=mq) (i:=j) (by omega)
 refine ⟨_,_,by rw [List.getElem?_map,h1];rfl,?_,g2 j _ _ h1 h2⟩
 have hz:(σ.zip mq)[j]?=some (id,mq[j]'(by omega)):=by
  rw [List.getElem?_zip_eq_some];exact ⟨hj,h2⟩
 exact List.mem_of_getElem? hz
theorem KM {P:Program} {f:FuncId} {args:List SV} {pre pre' us:List (Nat×HB)} {sv:SV} (h:aK P f args pre us sv) (hp:∀ q,q∈pre↔q∈pre'):aK P f args pre' us sv:=
 ⟨h.1,fun C jY w aa vs a b c d e=>h.2 C jY w aa vs (fun q hq=>a q ((hp q).1 hq)) (fun q hq=>(b q hq).imp (fun ⟨hb,hm⟩=>⟨hb,(hp _).2 hm⟩) id) c d e⟩
def gU (i:Nat) (os:List Nat):List (List SV):=os.map fun o=>[.ptr i o]
theorem Hy {i:Nat} {os:List Nat}:(gU i os).length=os.length:=by simp [gU]
theorem zB {τ:Nat→Option Nat} {h:Hp} {i j:Nat} {os:List Nat} (lO:τ i=some j):zZ τ h (gU i os) (gU j os):=by
 refine ⟨by simp [gU],fun k x y hx hy=>?_⟩
 unfold gU at hx hy
 rw [List.getElem?_map] at hx hy
 cases hk:os[k]? with
 | none=>simp [hk] at hx
 | some o=>
   simp [hk] at hx hy
   subst hx;subst hy
   exact uw.1 ⟨.ptr _ _ _ lO,trivial⟩
theorem Kw {σ:Nat→Option Nat} {i j e v:Nat} {os:List Nat} (ox:σ i=some j):mN σ (.row e v (gU i os)) (.row e v (gU j os)):=by
 refine .row _ _ _ _ (by simp [gU]) (fun k x y hx hy=>?_)
 unfold gU at hx hy
 rw [List.getElem?_map] at hx hy
 cases hk:os[k]? with
 | none=>simp [hk] at hx
 | some o=>
   simp [hk] at hx hy
   subst hx;subst hy
   exact lH.1 ⟨.ptr _ _ _ ox,trivial⟩
theorem Ds {σ:Nat→Option Nat} {rs:List RV}:mN σ (.var (rs.map .rv)) (.var (rs.map .rv)):=.var _ _ (lH.1 (bq.2 trivial))
theorem Ad {σ:Nat→Option Nat} {xs ys:List SV} (h:aP σ xs ys):mN σ (.var xs) (.var ys):=.var _ _ (lH.1 h)
theorem Dr {σ:Nat→Option Nat} {e v:Nat} {xs:List (List RV)}:mN σ (.row e v (aN xs)) (.row e v (aN xs)):=by
 refine .row _ _ _ _ rfl (fun i x y hx hy=>?_)
 rw [hx] at hy;cases hy
 unfold aN at hx
 rw [List.getElem?_map] at hx
 cases hq:xs[i]? with
 | none=>simp [hq] at hx
 | some z=>simp [hq] at hx;subst hx;exact lH.1 (bq.2 trivial)
theorem Kg {p:Nat→HB→HB→Prop} {a a' b b' c c':HB} (h0:p 0 a a') (h1:p 1 b b') (h2:p 2 c c'):∀ (j:Nat) (x y:HB),[a,b,c][j]?=some x→[a',b',c'][j]?=some y→p j x y:=by
 intro j x y hx hy
 match j with
 | 0=>simp at hx hy;subst hx;subst hy;exact h0
 | 1=>simp at hx hy;subst hx;subst hy;exact h1
 | 2=>simp at hx hy;subst hx;subst hy;exact h2
 | j+3=>simp at hx
theorem Da {p:Nat→HB→HB→Prop} {a a' b b':HB} (h0:p 0 a a') (h1:p 1 b b'):∀ (j:Nat) (x y:HB),[a,b][j]?=some x→[a',b'][j]?=some y→p j x y:=by
 intro j x y hx hy
 match j with
 | 0=>simp at hx hy;subst hx;subst hy;exact h0
 | 1=>simp at hx hy;subst hx;subst hy;exact h1
 | j+2=>simp at hx
theorem bu {P:Program} {f:FuncId} {N:Nat} {ac:AC} {rs:List RR} (H:aU P f N ac rs) (args:List SV) (sv:SV) (hN:args.length≤N) (hA:aP (fun j=>([]:List Nat)[j]?) args args)
 (hrun:∀ K:Ex→St→Prop,(∀ env h,aS (fun _=>none) (aB h) sv (aQ (lk env) (aB h) rs)→K .normal ⟨env,h⟩∧K .ret ⟨env,h⟩)→G P 0 [.c ac] K (nJ 0 args) []):aK P f args [] [] sv:=by
 refine xJ H [] [] args hN (lH.1 hA) rfl (by simp) (by simp) (fun K hK=>hrun K (fun env h hr=>?_))
 unfold aS at hr
 split at hr
 ·rename_i p xs hres
  exact hK env h env h (fun _=>none) (gM _ _) ⟨by simp,by simp,by simp,by simp,by simp,p,xs,hres,hr.1,hr.2⟩
 ·exact hr.elim
theorem bS {τ:Nat→Option Nat} {h:Hp} {env:List (Nat×SV)} {n:Nat} {r:RV} (hl:lk env n = .rv r):aS τ h (.rv r) (aQ (lk env) h [.t n]):=by
 simp [aQ,aS,aX,hl,aG]
theorem gj {τ:Nat→Option Nat} {h:Hp} {env:List (Nat×SV)} {n m:Nat} {r q:RV} (hl:lk env n = .rv r) (hm:lk env m = .rv q):aS τ h (.aO [.rv r,.rv q]) (aQ (lk env) h [.t n,.t m]):=by
 simp [aQ,aS,aX,hl,hm,aG,bn,aF]
theorem AN {τ:Nat→Option Nat} {h:Hp}:∀ (bs:List RV),th τ h (bs.map .rv) bs
 | []=>trivial
 | b::bs=>⟨.rv b,AN bs⟩
theorem Gh {P:Program} {f:FuncId} {e id v n:Nat} {xs:List (List RV)} {bs:List RV} {r:RV} (H:aK P f (.rv (.sl e xs)::bs.map .rv) [] [] (.rv r)) (hf:jt r) (hn:n=xs.length) (h1:∀ x∈xs,∀ r∈x,r.one=true) :
 aK P f (.row id v n::bs.map .rv) [(id,.row e v (aN xs))] [] (.rv r):=by
 refine xI (rs:=.sl e xs::bs) H (fun hp hpre=>⟨?_,?_⟩) (by simp) (.rv _ hf) (by simp)
 ·have:=og (h:=hp) (τ:=fun _=>none) (j:=id) (e:=e) (az:=v) (len:=n) (xs:=xs) (hpre _ (.head _)) rfl (by omega) h1
  rwa [hn,List.take_length,← hn] at this
 ·exact AN bs
theorem Gi {P:Program} {f:FuncId} {e id v n:Nat} {xs:List (List RV)} {bs:List RV} {rs:List RV} (H:aK P f (.rv (.sl e xs)::bs.map .rv) [] [] (.aO (rs.map .rv))) (hf:∀ r∈rs,jt r) (hn:n=xs.length) (h1:∀ x∈xs,∀ r∈x,r.one=true) :
 aK P f (.row id v n::bs.map .rv) [(id,.row e v (aN xs))] [] (.aO (rs.map .rv)):=by
 refine xI (rs:=.sl e xs::bs) H (fun hp hpre=>⟨?_,?_⟩) (by simp) (.aO _ (fun j y hy=>?_)) (by simp)
 ·have:=og (h:=hp) (τ:=fun _=>none) (j:=id) (e:=e) (az:=v) (len:=n) (xs:=xs) (hpre _ (.head _)) rfl (by omega) h1
  rwa [hn,List.take_length,← hn] at this
 ·exact AN bs
 ·rw [List.getElem?_map] at hy
  cases hr:rs[j]? with
  | none=>simp [hr] at hy
  | some r=>simp [hr] at hy;subst hy;exact .rv _ (hf r (List.mem_of_getElem? hr))
end Go.aL

namespace Go.aL
open Go
theorem qG {n0:Nat} {env:List (Nat×SV)} {h:List (Option HB)} (n e v:Nat) (hn:lk env n = .rv .cw):fV n0 ⟨env,h⟩ ⟨(n,.row h.length v 0)::env,h++[some (.row e v [])]⟩:=by
 intro C a w R
 obtain ⟨⟨aa,RF⟩,h1,h0⟩:=R
 have hnone:aB h h.length=none:=by unfold aB;rw [List.getElem?_eq_none (Nat.le_refl _)]
 have vi:C.h0 h.length=none:=h0 _ h1
 have S:=RF.mem.ghost h.length e v (.inl ⟨hnone,vi⟩)
 have lg:=RF.step S
 have hh:aB (h++[some (.row e v [])])=up (aB h) h.length (some (.row e v [])):=by
  have:=yB (h:=h) (q:=(h.length,.row e v [])) (Nat.le_refl _)
  rw [← this]
  unfold aR;rw [if_pos rfl]
 have hv:=RF.env n
 rw [hn] at hv
 refine ⟨⟨up aa h.length none,?_,fun m=>?_,lg.size,lg.defers⟩,?_,h0⟩
 ·show cm C (aB (h++[some (.row e v [])])) w (up aa h.length none)
  rw [hh];exact lg.mem
 ·show Rp w (aH C (up aa h.length none) (aB (h++[some (.row e v [])]))) (up aa h.length none) (aB (h++[some (.row e v [])])) (lk ((n,.row h.length v 0)::env) m) _
  rw [hh,wk]
  by_cases hm:m=n
  ·subst hm
   rw [cq]
   cases hv with
   | rv _ _ hr=>
     generalize a.tmps.getD m undef=v at hr
     cases hr
     refine .row _ _ _ _ rfl (by rw [cq];rfl) (fun e fY xs hx=>by rw [cq] at hx;cases hx;exact Nat.le_refl _) (fun e xs hx=>.inl ⟨cq _ _ _,rfl,rfl⟩)
  ·rw [gi _ _ hm];exact lg.env m
 ·show n0≤(h++[some (HB.row e v [])]).length
  have MJ:n0≤h.length:=h1
  simp;omega
theorem cm.Mz {C:Ctx} {hp:Hp} {w:World} {aa:Nat→Option Nat} (R:cm C hp w aa) {i0 m k v:Nat} {xs:List (List SV)} (e:Nat) (hi:hp i0=some (.row 1 v xs)) (ho:xs[k]?=some [.rv .cw]) (hm:hp m=none) (hm0:C.h0 m=none) :
 ∃ aJ,Step C hp (up (up hp m (some (.row e 0 []))) i0 (some (.row 1 v (xs.set k [.row m 0 0])))) w w aa aJ:=by
 have S:=R.ghost m e 0 (.inl ⟨hm,hm0⟩)
 have hne:i0≠m:=fun h=>by subst h;rw [hm] at hi;cases hi
 have hi':(up hp m (some (.row e 0 []))) i0=some (.row 1 v xs):=by rw [gi _ _ hne];exact hi
 rcases S.mem.heap i0 _ hi' with ⟨_,e',az,hc⟩ | ⟨b,cur,t,h1,h2,h3⟩
 ·cases hc;simp at ho
 ·have S2:=S.mem.replace i0 (.row 1 v (xs.set k [.row m 0 0])) b cur t rfl rfl rfl (Nat.le_refl _) h2 (fun k _ _=>rfl) (.inl ⟨by rw [hi'];rfl,h1⟩) (fun hb hq=>by
   rw [hi'] at hq;cases hq
   exact ⟨Nat.le_refl _,fun _=>⟨rfl,h1.symm,fun b' _ cur t hc=>⟨cur,t,hc,rfl⟩⟩⟩) (fun hq=>by rw [hi'] at hq;cases hq) ⟨fun x hx=>by
   rcases List.mem_or_eq_of_mem_set hx with h | h
   ·exact h3.1 x h
   ·rw [h];rfl,by rw [List.length_set];exact h3.2.1,fun i x hx=>by
   rw [List.getElem?_set] at hx
   split at hx
   ·rename_i hik
    subst hik
    split at hx
    ·cases hx
     intro j y hy
     cases j with
     | succ j=>simp at hy
     | zero=>
       simp at hy
       subst hy
       obtain ⟨u,v1,v2,v3⟩:=h3.2.2 _ _ ho 0 _ rfl
       refine ⟨u,v1,v2,?_⟩
       cases v3 with
       | rv _ _ hr=>
         cases hr
         exact .row _ _ _ _ rfl (by rw [cq];rfl) (fun e fY xs hx=>by rw [cq] at hx;cases hx;exact Nat.le_refl _) (fun e xs hx=>.inl ⟨cq _ _ _,rfl,rfl⟩)
    ·cases hx
   ·exact h3.2.2 i x hx⟩
  exact ⟨_,S.trans S2 (Nat.le_refl _)⟩
def iQ (n:Nat) (e:Nat):List (Option HB):=List.replicate n (some (.row e 0 []))
def iC (b n k:Nat):List (List SV):=(List.range n).map fun p=>if p<k then [.row (b+p) 0 0] else [.rv .cw]
theorem Ls {n0:Nat} {env:List (Nat×SV)} {h:List (Option HB)} {r v n e k:Nat} (hr:h[r]?=some (some (.row 1 v (iC h.length n k)))) (hk:k<n) :
 fV n0 ⟨env,h++iQ k e⟩ ⟨env,(h.set r (some (.row 1 v (iC h.length n (k+1)))))++iQ (k+1) e⟩:=by
 intro C a w R
 obtain ⟨⟨aa,RF⟩,h1,h0⟩:=R
 have hrl:r<h.length:=(List.getElem?_eq_some_iff.1 hr).1
 have hlen:(h++iQ k e).length=h.length+k:=by simp [iQ]
 have hnone:aB (h++iQ k e) (h.length+k)=none:=by unfold aB;rw [List.getElem?_eq_none (by rw [hlen];exact Nat.le_refl _)]
 have vi:C.h0 (h.length+k)=none:=h0 _ (by have:n0≤(h++iQ k e).length:=h1;omega)
 have hi:aB (h++iQ k e) r=some (.row 1 v (iC h.length n k)):=by
  unfold aB;rw [List.getElem?_append_left hrl,hr]
 have ho:(iC h.length n k)[k]?=some [.rv .cw]:=by simp [iC,hk]
 have M:cm C (aB (h++iQ k e)) w aa:=RF.mem
 obtain ⟨aJ,S⟩:=M.Mz e hi ho hnone vi
 have vH:(iC h.length n k).set k [.row (h.length+k) 0 0]=iC h.length n (k+1):=by
  refine List.ext_getElem (by simp [iC]) (fun i a1 a2=>?_)
  simp only [List.getElem_set,iC,List.getElem_map,List.getElem_range]
  by_cases hik:k=i
  ·subst hik;simp
  ·rw [if_neg hik]
   by_cases hlt:i<k
   ·rw [if_pos hlt,if_pos (by omega)]
   ·rw [if_neg hlt,if_neg (by omega)]
 have hh:aB ((h.set r (some (.row 1 v (iC h.length n (k+1)))))++iQ (k+1) e)=up (up (aB (h++iQ k e)) (h.length+k) (some (.row e 0 []))) r (some (.row 1 v ((iC h.length n k).set k [.row (h.length+k) 0 0]))):=by
  rw [vH]
  funext j
  unfold aB up
  by_cases hj:j=r
  ·subst hj
   rw [if_pos rfl,List.getElem?_append_left (by simpa using hrl),List.getElem?_set]
   simp [hrl]
  ·rw [if_neg hj]
   by_cases yD:j=h.length+k
   ·subst yD
    rw [if_pos rfl,List.getElem?_append_right (by simp)]
    simp [iQ]
   ·rw [if_neg yD]
    dsimp only
    by_cases hjl:j<h.length
    ·rw [List.getElem?_append_left (by simpa using hjl),List.getElem?_append_left hjl,List.getElem?_set_ne (Ne.symm hj)]
    ·rw [List.getElem?_append_right (by simp;omega),List.getElem?_append_right (by omega)]
     simp only [List.length_set,iQ,List.getElem?_replicate]
     by_cases EZ:j - h.length<k
     ·rw [if_pos (by omega),if_pos EZ]
     ·rw [if_neg (by omega),if_neg EZ]
 have lg:=RF.step S
 refine ⟨⟨aJ,?_,fun m=>?_,lg.size,lg.defers⟩,?_,h0⟩
 ·show cm C (aB _) w aJ
  rw [hh];exact lg.mem
 ·show Rp w (aH C aJ (aB _)) aJ (aB _) _ _
  rw [hh];exact lg.env m
 ·show n0≤((h.set r _)++iQ (k+1) e).length
  have:n0≤(h++iQ k e).length:=h1
  simp [iQ] at this ⊢;omega
theorem Ec {n0:Nat} {env:List (Nat×SV)} {h:List (Option HB)} {r v n e:Nat} (hr:h[r]?=some (some (.row 1 v (List.replicate n [.rv .cw])))) :
 fV n0 ⟨env,h⟩ ⟨env,(h.set r (some (.row 1 v (iC h.length n n))))++iQ n e⟩:=by
 have hrl:r<h.length:=(List.getElem?_eq_some_iff.1 hr).1
 have hz:iC h.length n 0=List.replicate n [.rv .cw]:=by
  refine List.ext_getElem (by simp [iC]) (fun i h1 h2=>?_)
  simp [iC]
 have key:∀ k,k≤n→fV n0 ⟨env,h⟩ ⟨env,(h.set r (some (.row 1 v (iC h.length n k))))++iQ k e⟩:=by
  intro k
  induction k with
  | zero=>
    intro _
    have:h.set r (some (.row 1 v (iC h.length n 0)))=h:=by
     rw [hz]
     refine List.ext_getElem? (fun i=>?_)
     rw [List.getElem?_set]
     by_cases hi:r=i
     ·subst hi;rw [if_pos rfl,if_pos hrl,hr]
     ·rw [if_neg hi]
    rw [this]
    simpa [iQ] using gM n0 ⟨env,h⟩
  | succ k ih=>
    intro hk
    refine (ih (by omega)).trans ?_
    have hl:(h.set r (some (.row 1 v (iC h.length n k)))).length=h.length:=by simp
    have:=Ls (n0:=n0) (env:=env) (h:=h.set r (some (.row 1 v (iC h.length n k)))) (r:=r) (v:=v) (n:=n) (e:=e) (k:=k) (by rw [hl,List.getElem?_set];simp [hrl]) (by omega)
    rw [hl,List.set_set] at this
    exact this
 exact key n (Nat.le_refl _)
theorem KK {P:Program} {f:FuncId} {rs:List RV} {us:List (Nat×HB)} {sv wJ:SV} (H:aK P f (rs.map .rv) [] us sv) (hz:Rn (fun _=>none) (bM (fun _=>none) us) sv wJ) (aD:∃ rs',wJ = .rv rs'∨∃ qs:List RV,wJ = .aO (qs.map .rv)):aK P f (rs.map .rv) [] [] wJ:=by
 refine ⟨H.1,fun C hp w aa vs hpre hnew R hvl hvs=>?_⟩
 let C2:Ctx:=⟨w,fun b=>aH C aa hp b,fun _=>False,C.N,fun _=>none,fun _=>none⟩
 have sH:∀ b,C2.wz b→aH C2 (fun _=>none) (fun _=>none) b:=fun b hb=>⟨.inl hb,fun id hid=>by simp at hid⟩
 have R2:cm C2 (fun _=>none) w (fun _=>none):=⟨fun id hb h=>(by cases h),fun i j b h=>(by simp at h),fun i b h=>(by simp at h),⟨rfl,rfl,rfl,Nat.le_refl _,fun b _ _=>rfl⟩,fun id hb hb0 h=>(by cases h)⟩
 refine (H.2 C2 (fun _=>none) w (fun _=>none) vs (fun q hq=>by simp at hq) (fun q hq=>.inr ⟨rfl,rfl⟩) R2 hvl (fun j s hj=>?_)).mono ?_
 ·have h1:=hvs j s hj
  rw [List.getElem?_map] at hj
  cases hr:rs[j]? with
  | none=>simp [hr] at hj
  | some r=>
    simp [hr] at hj
    subst hj
    cases h1 with
    | rv _ _ h=>exact .rv _ _ (h.mono fun b hb _=>⟨sH b hb,rfl⟩)
 ·rintro e w' ⟨v,aJ,rfl,S,hR⟩
  have R':=S.mem
  have hsz:w.heap.size≤w'.heap.size:=R'.fr.size
  have sP:∀ b,aH C aa hp b→b<w.heap.size→aH C aa hp b∧w'.heap[b]?=w.heap[b]?:=fun b hb hlt=>⟨hb,R'.fr.block b hlt (fun h=>h)⟩
  have GL:∀ b,w.heap.size≤b→aH C aa hp b:=fun b hb=>⟨.inr (Nat.le_trans R.fr.size hb),fun id hid he=>by have:=(R.own id b hid he).2;omega⟩
  have E:iW w w' (aH C aa hp) (aH C aa hp) aa aa hp hp:=iW.of sP (fun id hb hq=>⟨hb,hq,by
   cases hb with
   | var cs=>rfl
   | row e az xs=>exact ⟨Nat.le_refl _,fun _=>⟨rfl,rfl,fun b hb cur t hc=>⟨cur,t,by rw [R'.fr.block b (R.own id b (by rw [hq];rfl) hb).2 (fun h=>h)];exact hc,rfl⟩⟩⟩⟩)
  have out:Rp w' (aH C aa hp) aa hp wJ v:=hR.leave (τ:=fun _=>none) (aa:=aa) (hp:=hp) (fun b hb=>by
   rcases hb.1 with h | h
   ·exact h
   ·exact GL b h) (fun j b _ hs hb=>by
   rcases (R'.own j b hs hb).1 with ⟨h,_⟩ | h
   ·cases h
   ·exact GL b h) (fun j hb hj=>R'.heap j hb hj) (fun j id hj=>by cases hj) hz
  refine ⟨v,aa,rfl,⟨⟨fun id hb hq=>?_,R.inj,fun id b h1 h2=>⟨(R.own id b h1 h2).1,by have:=(R.own id b h1 h2).2;omega⟩,⟨R'.fr.os.trans R.fr.os,R'.fr.tape.trans R.fr.tape,R'.fr.output.trans R.fr.output,Nat.le_trans R.fr.size hsz,fun b h1 h2=>?_⟩,fun id hb hb0 h1 h2=>?_⟩,E⟩,out⟩
  ·have fO:hp id=some hb:=hq
   rcases R.heap id hb fO with h | ⟨b,cur,t,a1,a2,a3⟩
   ·exact .inl h
   ·refine .inr ⟨b,cur,t,a1,?_,a3.mono E⟩
    rw [R'.fr.block b (R.own id b (by rw [fO];rfl) a1).2 (fun h=>h)];exact a2
  ·have hb:b<w.heap.size:=by have:=R.fr.size;omega
   rw [R'.fr.block b hb (fun h=>h)]
   exact R.fr.block b h1 h2
  ·have fO:hp id=some hb:=h1
   refine (R.jG id hb hb0 fO h2).trans ?_
   cases hb with
   | var cs=>rfl
   | row e az xs=>exact ⟨Nat.le_refl _,fun _=>⟨rfl,rfl,fun b hb cur t hc=>⟨cur,t,by rw [R'.fr.block b (R.own id b (by rw [fO];rfl) hb).2 (fun h=>h)];exact hc,rfl⟩⟩⟩
end Go.aL

namespace Go.aL
open Go
inductive iI (n:Nat):SV→Prop where
 | dead:iI n .dead
 | rv (r:RV):iI n (.rv r)
 | ptr (id off:Nat) (h:id<n):iI n (.ptr id off)
 | bX (id az i off:Nat) (h:id<n):iI n (.bX id az i off)
 | row (id az len:Nat) (h:id<n):iI n (.row id az len)
 | win (id az off len:Nat) (h:id<n):iI n (.win id az off len)
 | agg (cs:List SV) (h:∀ (j:Nat) (y:SV),cs[j]?=some y→iI n y):iI n (.agg cs)
 | aO (cs:List SV) (h:∀ (j:Nat) (y:SV),cs[j]?=some y→iI n y):iI n (.aO cs)
 | fn (f:FuncId) (cs:List SV) (h:∀ (j:Nat) (y:SV),cs[j]?=some y→iI n y):iI n (.fn f cs)
 | fF (f:FuncId) (cs:List SV) (h:∀ (j:Nat) (y:SV),cs[j]?=some y→iI n y):iI n (.fF f cs)
 | bU (t:TypeId) (x:SV) (h:iI n x):iI n (.bU t x)
theorem iI.rn {n:Nat} {h:Hp} {x:SV} (hc:iI n x):Rn (gD n) h x x:=by
 induction hc with
 | dead=>exact .dead _
 | rv r=>exact .fz _ _ (.rv r)
 | ptr id off h=>exact .ptr _ _ _ (by simp [gD,h])
 | bX id az i off h=>exact .bX _ _ _ _ _ (by simp [gD,h])
 | row id az len h=>exact .row _ _ _ _ (by simp [gD,h])
 | win id az off len h=>exact .win _ _ _ _ _ (by simp [gD,h])
 | agg cs h ih=>exact .agg _ _ rfl (fun i x y hx hy=>by rw [hx] at hy;cases hy;exact ih i x hx)
 | aO cs h ih=>exact .aO _ _ rfl (fun i x y hx hy=>by rw [hx] at hy;cases hy;exact ih i x hx)
 | fn f cs h ih=>exact .fn _ _ _ rfl (fun i x y hx hy=>by rw [hx] at hy;cases hy;exact ih i x hx)
 | fF f cs h ih=>exact .fF _ _ _ rfl (fun i x y hx hy=>by rw [hx] at hy;cases hy;exact ih i x hx)
 | bU t x h ih=>exact .bU _ _ _ ih
def mO (n:Nat):List SV→Prop
 | []=>True
 | x::r=>iI n x∧mO n r
theorem mO.get {n:Nat}:∀ {l:List SV},mO n l→∀ (j:Nat) (y:SV),l[j]?=some y→iI n y
 | [],_,j,y,h=>by simp at h
 | x::r,hc,j,y,h=>by
   cases j with
   | zero=>simp at h;subst h;exact hc.1
   | succ j=>exact hc.2.get j y (by simpa using h)
theorem jE {n:Nat} {r:RV}:iI n (.rv r)↔True:=⟨fun _=>trivial,fun _=>.rv r⟩
theorem lJ {n i o:Nat}:iI n (.ptr i o)↔i<n:=⟨fun h=>by cases h;assumption,fun h=>.ptr _ _ h⟩
theorem jx {n i v l:Nat}:iI n (.row i v l)↔i<n:=⟨fun h=>by cases h;assumption,fun h=>.row _ _ _ h⟩
theorem jw {n:Nat} {rs:List RV}:mO n (rs.map .rv):=by
 induction rs with
 | nil=>trivial
 | cons r rs ih=>exact ⟨.rv r,ih⟩
def mP (n:Nat):HB→Prop
 | .var cs=>mO n cs
 | .row _ _ xs=>∀ (i:Nat) (x:List SV),xs[i]?=some x→mO n x
theorem iP {n e v:Nat} {xs:List (List RV)}:mP n (.row e v (aN xs)):=fun i x hx=>by
 unfold aN at hx
 rw [List.getElem?_map] at hx
 cases hq:xs[i]? with
 | none=>simp [hq] at hx
 | some z=>simp [hq] at hx;subst hx;exact jw
theorem mP.rn {n:Nat} {h:Hp} {hb:HB} (hc:mP n hb):oS (gD n) h hb hb:=by
 cases hb with
 | var cs=>exact .var _ _ ⟨rfl,fun i x y hx hy=>by rw [hx] at hy;cases hy;exact (mO.get hc i x hx).rn⟩
 | row e v xs=>exact .row _ _ _ _ rfl (fun i x y hx hy=>by
    rw [hx] at hy;cases hy
    exact ⟨rfl,fun j a b ha hb=>by rw [ha] at hb;cases hb;exact (mO.get (hc i x hx) j a ha).rn⟩)
def hJ (n:Nat) (env:List (Nat×SV)):List (Nat×SV)→Prop
 | []=>True
 | (m,v)::r=>(v = .dead∨lk env m=v∧iI n v)∧hJ n env r
theorem hJ.get {n:Nat} {env:List (Nat×SV)}:∀ {env':List (Nat×SV)},hJ n env env'→∀ p∈env',p.2 = .dead∨lk env p.1=p.2∧iI n p.2
 | [],_,p,hp=>by simp at hp
 | (m,v)::r,h,p,hp=>by
   rcases List.mem_cons.1 hp with rfl | hp
   ·exact h.1
   ·exact h.2.get p hp
def lf (P:HB→Prop):List (Option HB)→Prop
 | []=>True
 | some hb::r=>P hb∧lf P r
 | none::_=>False
theorem lf.get {P:HB→Prop}:∀ {l:List (Option HB)},lf P l→∀ j,j<l.length→∃ hb,l[j]?=some (some hb)∧P hb
 | [],_,j,hj=>by simp at hj
 | some hb::r,h,j,hj=>by
   cases j with
   | zero=>exact ⟨hb,rfl,h.1⟩
   | succ j=>obtain ⟨x,a,b⟩:=h.2.get j (by simpa using hj);exact ⟨x,by simpa using a,b⟩
 | none::r,h,_,_=>h.elim
theorem lf.of {P:HB→Prop}:∀ {l:List (Option HB)},(∀ (j:Nat) (x:Option HB),l[j]?=some x→∃ hb,x=some hb∧P hb)→lf P l
 | [],_=>trivial
 | x::r,h=>by
   obtain ⟨hb,rfl,hp⟩:=h 0 x rfl
   exact ⟨hp,lf.of fun j y hy=>h (j+1) y (by simpa using hy)⟩
theorem ny {n0:Nat} {env env':List (Nat×SV)} {h' C:List (Option HB)} (hn:n0≤h'.length) (hC:lf (mP h'.length) h') (he:hJ h'.length env env'):fV n0 ⟨env,h'++C⟩ ⟨env',h'⟩:=by
 refine AE (gD h'.length) hn (fun j i hj=>?_) (fun j hj=>?_) (fun j=>?_) (wh (fun x=>.dead x) (fun p hp=>?_))
 ·unfold gD at hj;split at hj <;> cases hj;rfl
 ·unfold gD at hj;split at hj
  ·cases hj
  ·omega
 ·by_cases hj:j<h'.length
  ·obtain ⟨hb,g1,g2⟩:=hC.get j hj
   exact .inl ⟨hb,hb,by simp [gD,hj],pn.2 (by rw [List.getElem?_append_left hj];exact g1),pn.2 g1,g2.rn⟩
  ·refine .inr ⟨?_,.inl (by simp [gD,hj])⟩
   unfold aB
   rw [List.getElem?_eq_none (by omega)]
 ·rcases he.get p hp with h | ⟨h1,h2⟩
  ·rw [h];exact .dead _
  ·rw [h1];exact h2.rn
structure jk (P:Program) (n:Nat) (t:TypeId) (rs:List RV):Prop where
 ty:kL P n t rs
theorem IU {P:Program} {f g:TypeId→List RV→Prop} (h:∀ t rs,f t rs→g t rs):∀ {fs:List Field} {rs:List RV},uF P f fs rs→uF P g fs rs
 | [],_,hf=>hf
 | _::_,_,⟨a,b,e,h1,h2⟩=>⟨a,b,e,h _ _ h1,IU h h2⟩
theorem IT {P:Program} {n:Nat} {t:TypeId} {k:IntKind} {rs:List RV} (hu:P.underlying t=some (.int k)) (h:jk P (n+1) t rs):∃ i,rs=[.int k i]∧(Lit.int k i).wf=true:=by
 have h:=h.ty;unfold kL at h;simp only [hu] at h;exact h
theorem Vv {P:Program} {n:Nat} {t:TypeId} {rs:List RV} (hu:P.underlying t=some .bool) (h:jk P (n+1) t rs):∃ b,rs=[.bool b]:=by
 have h:=h.ty;unfold kL at h;simp only [hu] at h;exact h
theorem Vw {P:Program} {n:Nat} {t e:TypeId} {rs:List RV} (hu:P.underlying t=some (.slice e)) (h:jk P (n+1) t rs):∃ xs,rs=[.sl (P.cellsOf e) xs]∧xs.length≤maxLen∧∀ x∈xs,jk P n e x:=by
 have h:=h.ty;unfold kL at h;simp only [hu] at h
 obtain ⟨xs,h1,h2,h3⟩:=h
 exact ⟨xs,h1,h2,fun x hx=>⟨h3 x hx⟩⟩
theorem zP {P:Program} {n:Nat} {t:TypeId} {fs:Array Field} {rs:List RV} (hu:P.underlying t=some (.struct fs)) (h:jk P (n+1) t rs):uF P (jk P n) fs.toList rs:=by
 have h:=h.ty;unfold kL at h;simp only [hu] at h
 exact IU (fun _ _ h=>⟨h⟩) h
theorem IS {P:Program} {n m:Nat} {t e:TypeId} {rs:List RV} (hu:P.underlying t=some (.array m e)) (h:jk P (n+1) t rs):∃ xs:List (List RV),rs=xs.flatten∧xs.length=m∧∀ x∈xs,jk P n e x:=by
 have h:=h.ty;unfold kL at h;simp only [hu] at h
 obtain ⟨xs,h1,h2,h3⟩:=h
 exact ⟨xs,h1,h2,fun x hx=>⟨h3 x hx⟩⟩
theorem wD {P:Program} {H:Type} {enc:TypeId×Value→H} {w:World} {r:Reach} {b0 n:Nat} {t:TypeId} {v:Value} {d:DataW H} {ps:List MemPlace} (hf:oc P n t=true) (hval:Value.okWide P w r b0 t v) (hd:DataW.Trod enc P w 0 (fun _=>true) true t v d ps) :
 ∃ rs,jk P n t rs∧∀ (ok:Nat→Prop) (aa:Nat→Option Nat) (hp:Hp),(∀ b,b<w.heap.size→ok b)→Rp w ok aa hp (nt P t rs) v:=by
 obtain ⟨rs,h1,h2⟩:=SD hf hval hd ⟨w,fun _=>True,fun _=>True,0,fun _=>.none,fun _=>.none⟩ (fun _=>.none)
 exact ⟨rs,⟨h1⟩,h2⟩
theorem xu {P:Program} {t:TypeId} {r:RV} (h:fC P t=some false):nt P t [r] = .rv r:=by
 unfold nt;rw [h];rfl
theorem Kp {P:Program} {t:TypeId} {rs:List RV} (h:fC P t=some true):nt P t rs = .agg (rs.map .rv):=by
 unfold nt;rw [h]
theorem SQ {hp:Hp} {a:Nat} {hb:HB} (h:hp a=some hb):aT hp [(a,hb)]:=fun q hq=>by simp at hq;subst hq;exact h
end Go.aL

namespace Go.aL
open Go
attribute [go_sem] Me Mo Mk Ml Mn LZ Mc Ma Mm Md ME MB MF MC MA MD Mf Mb Mg Mj Mh Mi Ag yV Ci sR Ah yW Cj sU bY o1 o2 ng ij rz xE xo xF xG fits oe oD oC yZ yY yj oE wg nj qy xM xq xA xC xB Ae tu rm qq xp wq kV yQ qN yX qj uZ yd zj zh xX zc ze zd yg qR vS vT uc si yf ye uS xN zH ri oz uD wK mh nv vY nJ lk iz iy gf wP aR lZ iY nO CS List.map_cons List.map_nil List.length_cons List.length_nil List.length_append List.length_map List.length_set List.set_cons_zero List.set_cons_succ List.cons_append List.nil_append List.append_nil List.getElem?_cons_zero List.getElem?_cons_succ List.getElem?_nil List.take_succ_cons List.take_zero List.drop_succ_cons List.drop_zero List.drop_nil List.take_nil Option.getD_some Option.getD_none Option.map_some Option.map_none true_and and_true Nat.zero_add Nat.add_zero decide_eq_true_eq Bool.false_eq_true au Tq Cw Ts HP Int.toNat_natCast KB KA Kz Ky Bool.not_true Bool.not_false Vi rq qB chunks KO KN Ms Mr Mq Mp Mx Mw Mv Mu Mt My SL SK
attribute [go_sem_proc] Nat.reduceEqDiff Nat.reduceAdd Nat.reduceSub Nat.reduceMul Nat.reduceLeDiff Nat.reduceLT reduceCtorEq Int.reduceToNat
attribute [go_sem_proc ↓] reduceIte
theorem RC (n:Nat):Int.ofNat (no_index (OfNat.ofNat n))=OfNat.ofNat n:=rfl
attribute [go_sem] RC
theorem kj:IntKind.i64.wrap (0+1)=1:=by decide
theorem kk:IntKind.i64.wrap (1+1)=2:=by decide
theorem ko:IntKind.i64.wrap (2+1)=3:=by decide
theorem kr:IntKind.i64.wrap (3+1)=4:=by decide
theorem ku:IntKind.i64.wrap (4+1)=5:=by decide
theorem kz:IntKind.i64.wrap (5+1)=6:=by decide
theorem jT (n:Nat):((no_index (OfNat.ofNat n):Nat):Int)=OfNat.ofNat n:=rfl
def fc (P:Program) (f:FuncId) (N:Nat) (rs:List RR):AC:=(yo P f N rs).getD .skip
theorem bl {P:Program} {f:FuncId} {N:Nat} {rs:List RR} (h:(yo P f N rs).isSome=true):aU P f N (fc P f N rs) rs:=by
 obtain ⟨c,hc⟩:=Option.isSome_iff_exists.1 h
 unfold fc;rw [hc];exact LU hc
end Go.aL

namespace Go.aL
open Go
structure Ln where
 kind:Int
 n:Int
 deriving DecidableEq,Inhabited
structure Q4 (α:Type) where
 a:α
 b:α
 c:α
 d:α
 deriving DecidableEq,Inhabited
structure aC where
 shown:Bool
 position:Int
 off:Q4 Ln
 width:Ln
 height:Ln
 jo:Ln
 jn:Ln
 jM:Ln
 jL:Ln
 bC:Q4 Ln
 pad:Q4 Ln
 bD:Q4 Int
 bZ:Bool
 yy:Bool
 z:Int
 clip:Bool
 back:Int
 line:Int
 deriving DecidableEq,Inhabited
structure Nd where
 s:aC
 parent:Int
 deriving DecidableEq,Inhabited
def Ln.cells (x:Ln):List RV:=[.int .i64 x.kind,.int .i64 x.n]
def Q4.oG (q:Q4 Ln):List RV:=[.int .i64 q.a.kind,.int .i64 q.a.n,.int .i64 q.b.kind,.int .i64 q.b.n,.int .i64 q.c.kind,.int .i64 q.c.n,.int .i64 q.d.kind,.int .i64 q.d.n]
def Q4.ints (q:Q4 Int):List RV:=[.int .i64 q.a,.int .i64 q.b,.int .i64 q.c,.int .i64 q.d]
def aC.cells (s:aC):List RV:=[.bool s.shown,.int .i64 s.position,
 .int .i64 s.off.a.kind,.int .i64 s.off.a.n,.int .i64 s.off.b.kind,.int .i64 s.off.b.n,.int .i64 s.off.c.kind,.int .i64 s.off.c.n,.int .i64 s.off.d.kind,.int .i64 s.off.d.n,
 .int .i64 s.width.kind,.int .i64 s.width.n,.int .i64 s.height.kind,.int .i64 s.height.n,.int .i64 s.jo.kind,.int .i64 s.jo.n,.int .i64 s.jn.kind,.int .i64 s.jn.n,.int .i64 s.jM.kind,.int .i64 s.jM.n,.int .i64 s.jL.kind,.int .i64 s.jL.n,
 .int .i64 s.bC.a.kind,.int .i64 s.bC.a.n,.int .i64 s.bC.b.kind,.int .i64 s.bC.b.n,.int .i64 s.bC.c.kind,.int .i64 s.bC.c.n,.int .i64 s.bC.d.kind,.int .i64 s.bC.d.n,
 .int .i64 s.pad.a.kind,.int .i64 s.pad.a.n,.int .i64 s.pad.b.kind,.int .i64 s.pad.b.n,.int .i64 s.pad.c.kind,.int .i64 s.pad.c.n,.int .i64 s.pad.d.kind,.int .i64 s.pad.d.n,
 .int .i64 s.bD.a,.int .i64 s.bD.b,.int .i64 s.bD.c,.int .i64 s.bD.d,
 .bool s.bZ,.bool s.yy,.int .i64 s.z,.bool s.clip,.int .i64 s.back,.int .i64 s.line]
abbrev aC.sv (s:aC):SV:=.agg (s.cells.map .rv)
abbrev Ln.sv (x:Ln):SV:=.agg (x.cells.map .rv)
def Nd.cells (x:Nd):List RV:=x.s.cells++[.int .i64 x.parent]
abbrev Nd.sv (x:Nd):SV:=.agg (x.cells.map .rv)
def br (l:List Nd):List (List RV):=l.map Nd.cells
def nL {α:Type} (q:Q4 α):Nat→α
 | 0=>q.a
 | 1=>q.b
 | 2=>q.c
 | _=>q.d
def Q4.list {α:Type} (q:Q4 α):List α:=[q.a,q.b,q.c,q.d]
def fP (s:aC):List Ln:=s.off.list++[s.width,s.height,s.jo,s.jn,s.jM,s.jL]++s.bC.list++s.pad.list
theorem aq (s:aC):(fP s).length=18:=rfl
def lR (l:List Ln):List (List RV):=l.map Ln.cells
def oF (x:Ln):Bool:=(decide (x.kind=0) && decide (x.n=0)) || decide (x.kind=1) || decide (x.kind=2)
def lS (p:Ln) (b:Int):Bool:=!(decide (p.kind=0) || decide (p.n<0) || decide (b<0))
def tc (s:aC):Bool:=decide (s.position≥0) && decide (s.position≤3) && decide (s.back≥0) && decide (s.line≥0) && (s.yy || decide (s.z=0))
def jg (s:aC):Bool:=(fP s).all oF && ([s.width,s.height,s.jo,s.jn,s.jM,s.jL].all fun x=>decide (0≤x.n)) &&
 (lS s.pad.a s.bD.a && lS s.pad.b s.bD.b && lS s.pad.c s.bD.c && lS s.pad.d s.bD.d) && tc s
def qO (n most:Int):Bool:=decide (-most≤n) && decide (n≤most)
def pL (x:Ln):Bool:=!((decide (x.kind=1) && !qO x.n 1099511627776) || (decide (x.kind=2) && !qO x.n 1000000))
def kY (s:aC):Bool:=(fP s).all pL && (s.bD.list.all fun n=>decide (n≤1099511627776)) && (qO s.z 1073741824 && decide (s.back≤16777216) && decide (s.line≤16777216))
theorem af (s:aC):s.cells.length=48:=rfl
theorem ak (x:Nd):x.cells.length=49:=rfl
theorem an (l:List Nd):(br l).length=l.length:=by simp [br]
theorem iM {l:List Nd} {i:Nat} (h:i<l.length):(br l)[i]?.getD []=(l[i]'h).cells:=by simp [br,h]
theorem av (l:List Ln):(lR l).length=l.length:=by simp [lR]
theorem BV {l:List Ln} {i:Nat} (h:i<l.length):(lR l)[i]?.getD []=(l[i]'h).cells:=by simp [lR,h]
theorem cC (s:aC):(s.cells.map SV.rv)[0]?=some (.rv (.bool s.shown)):=rfl
theorem dX (s:aC):(s.cells.drop 0)[0]?=some (.bool s.shown):=rfl
theorem cD (s:aC):(s.cells.map SV.rv)[1]?=some (.rv (.int .i64 s.position)):=rfl
theorem dY (s:aC):(s.cells.drop 1)[0]?=some (.int .i64 s.position):=rfl
theorem cO (s:aC):(s.cells.map SV.rv)[2]?=some (.rv (.int .i64 s.off.a.kind)):=rfl
theorem ez (s:aC):(s.cells.drop 2)[0]?=some (.int .i64 s.off.a.kind):=rfl
theorem cZ (s:aC):(s.cells.map SV.rv)[3]?=some (.rv (.int .i64 s.off.a.n)):=rfl
theorem eL (s:aC):(s.cells.drop 3)[0]?=some (.int .i64 s.off.a.n):=rfl
theorem dx (s:aC):(s.cells.map SV.rv)[4]?=some (.rv (.int .i64 s.off.b.kind)):=rfl
theorem eX (s:aC):(s.cells.drop 4)[0]?=some (.int .i64 s.off.b.kind):=rfl
theorem dH (s:aC):(s.cells.map SV.rv)[5]?=some (.rv (.int .i64 s.off.b.n)):=rfl
theorem fo (s:aC):(s.cells.drop 5)[0]?=some (.int .i64 s.off.b.n):=rfl
theorem dI (s:aC):(s.cells.map SV.rv)[6]?=some (.rv (.int .i64 s.off.c.kind)):=rfl
theorem fq (s:aC):(s.cells.drop 6)[0]?=some (.int .i64 s.off.c.kind):=rfl
theorem dJ (s:aC):(s.cells.map SV.rv)[7]?=some (.rv (.int .i64 s.off.c.n)):=rfl
theorem fu (s:aC):(s.cells.drop 7)[0]?=some (.int .i64 s.off.c.n):=rfl
theorem dK (s:aC):(s.cells.map SV.rv)[8]?=some (.rv (.int .i64 s.off.d.kind)):=rfl
theorem fy (s:aC):(s.cells.drop 8)[0]?=some (.int .i64 s.off.d.kind):=rfl
theorem dL (s:aC):(s.cells.map SV.rv)[9]?=some (.rv (.int .i64 s.off.d.n)):=rfl
theorem fA (s:aC):(s.cells.drop 9)[0]?=some (.int .i64 s.off.d.n):=rfl
theorem cE (s:aC):(s.cells.map SV.rv)[10]?=some (.rv (.int .i64 s.width.kind)):=rfl
theorem dZ (s:aC):(s.cells.drop 10)[0]?=some (.int .i64 s.width.kind):=rfl
theorem cF (s:aC):(s.cells.map SV.rv)[11]?=some (.rv (.int .i64 s.width.n)):=rfl
theorem ec (s:aC):(s.cells.drop 11)[0]?=some (.int .i64 s.width.n):=rfl
theorem cG (s:aC):(s.cells.map SV.rv)[12]?=some (.rv (.int .i64 s.height.kind)):=rfl
theorem ee (s:aC):(s.cells.drop 12)[0]?=some (.int .i64 s.height.kind):=rfl
theorem cH (s:aC):(s.cells.map SV.rv)[13]?=some (.rv (.int .i64 s.height.n)):=rfl
theorem eg (s:aC):(s.cells.drop 13)[0]?=some (.int .i64 s.height.n):=rfl
theorem cI (s:aC):(s.cells.map SV.rv)[14]?=some (.rv (.int .i64 s.jo.kind)):=rfl
theorem ek (s:aC):(s.cells.drop 14)[0]?=some (.int .i64 s.jo.kind):=rfl
theorem cJ (s:aC):(s.cells.map SV.rv)[15]?=some (.rv (.int .i64 s.jo.n)):=rfl
theorem ep (s:aC):(s.cells.drop 15)[0]?=some (.int .i64 s.jo.n):=rfl
theorem cK (s:aC):(s.cells.map SV.rv)[16]?=some (.rv (.int .i64 s.jn.kind)):=rfl
theorem er (s:aC):(s.cells.drop 16)[0]?=some (.int .i64 s.jn.kind):=rfl
theorem cL (s:aC):(s.cells.map SV.rv)[17]?=some (.rv (.int .i64 s.jn.n)):=rfl
theorem eu (s:aC):(s.cells.drop 17)[0]?=some (.int .i64 s.jn.n):=rfl
theorem cM (s:aC):(s.cells.map SV.rv)[18]?=some (.rv (.int .i64 s.jM.kind)):=rfl
theorem ew (s:aC):(s.cells.drop 18)[0]?=some (.int .i64 s.jM.kind):=rfl
theorem cN (s:aC):(s.cells.map SV.rv)[19]?=some (.rv (.int .i64 s.jM.n)):=rfl
theorem ey (s:aC):(s.cells.drop 19)[0]?=some (.int .i64 s.jM.n):=rfl
theorem cP (s:aC):(s.cells.map SV.rv)[20]?=some (.rv (.int .i64 s.jL.kind)):=rfl
theorem eA (s:aC):(s.cells.drop 20)[0]?=some (.int .i64 s.jL.kind):=rfl
theorem cQ (s:aC):(s.cells.map SV.rv)[21]?=some (.rv (.int .i64 s.jL.n)):=rfl
theorem eC (s:aC):(s.cells.drop 21)[0]?=some (.int .i64 s.jL.n):=rfl
theorem cR (s:aC):(s.cells.map SV.rv)[22]?=some (.rv (.int .i64 s.bC.a.kind)):=rfl
theorem eD (s:aC):(s.cells.drop 22)[0]?=some (.int .i64 s.bC.a.kind):=rfl
theorem cS (s:aC):(s.cells.map SV.rv)[23]?=some (.rv (.int .i64 s.bC.a.n)):=rfl
theorem eE (s:aC):(s.cells.drop 23)[0]?=some (.int .i64 s.bC.a.n):=rfl
theorem cT (s:aC):(s.cells.map SV.rv)[24]?=some (.rv (.int .i64 s.bC.b.kind)):=rfl
theorem eF (s:aC):(s.cells.drop 24)[0]?=some (.int .i64 s.bC.b.kind):=rfl
theorem cU (s:aC):(s.cells.map SV.rv)[25]?=some (.rv (.int .i64 s.bC.b.n)):=rfl
theorem eG (s:aC):(s.cells.drop 25)[0]?=some (.int .i64 s.bC.b.n):=rfl
theorem cV (s:aC):(s.cells.map SV.rv)[26]?=some (.rv (.int .i64 s.bC.c.kind)):=rfl
theorem eH (s:aC):(s.cells.drop 26)[0]?=some (.int .i64 s.bC.c.kind):=rfl
theorem cW (s:aC):(s.cells.map SV.rv)[27]?=some (.rv (.int .i64 s.bC.c.n)):=rfl
theorem eI (s:aC):(s.cells.drop 27)[0]?=some (.int .i64 s.bC.c.n):=rfl
theorem cX (s:aC):(s.cells.map SV.rv)[28]?=some (.rv (.int .i64 s.bC.d.kind)):=rfl
theorem eJ (s:aC):(s.cells.drop 28)[0]?=some (.int .i64 s.bC.d.kind):=rfl
theorem cY (s:aC):(s.cells.map SV.rv)[29]?=some (.rv (.int .i64 s.bC.d.n)):=rfl
theorem eK (s:aC):(s.cells.drop 29)[0]?=some (.int .i64 s.bC.d.n):=rfl
theorem dc (s:aC):(s.cells.map SV.rv)[30]?=some (.rv (.int .i64 s.pad.a.kind)):=rfl
theorem eM (s:aC):(s.cells.drop 30)[0]?=some (.int .i64 s.pad.a.kind):=rfl
theorem de (s:aC):(s.cells.map SV.rv)[31]?=some (.rv (.int .i64 s.pad.a.n)):=rfl
theorem eN (s:aC):(s.cells.drop 31)[0]?=some (.int .i64 s.pad.a.n):=rfl
theorem dg (s:aC):(s.cells.map SV.rv)[32]?=some (.rv (.int .i64 s.pad.b.kind)):=rfl
theorem eO (s:aC):(s.cells.drop 32)[0]?=some (.int .i64 s.pad.b.kind):=rfl
theorem dh (s:aC):(s.cells.map SV.rv)[33]?=some (.rv (.int .i64 s.pad.b.n)):=rfl
theorem eP (s:aC):(s.cells.drop 33)[0]?=some (.int .i64 s.pad.b.n):=rfl
theorem di (s:aC):(s.cells.map SV.rv)[34]?=some (.rv (.int .i64 s.pad.c.kind)):=rfl
theorem eR (s:aC):(s.cells.drop 34)[0]?=some (.int .i64 s.pad.c.kind):=rfl
theorem dj (s:aC):(s.cells.map SV.rv)[35]?=some (.rv (.int .i64 s.pad.c.n)):=rfl
theorem eS (s:aC):(s.cells.drop 35)[0]?=some (.int .i64 s.pad.c.n):=rfl
theorem dm (s:aC):(s.cells.map SV.rv)[36]?=some (.rv (.int .i64 s.pad.d.kind)):=rfl
theorem eT (s:aC):(s.cells.drop 36)[0]?=some (.int .i64 s.pad.d.kind):=rfl
theorem dn (s:aC):(s.cells.map SV.rv)[37]?=some (.rv (.int .i64 s.pad.d.n)):=rfl
theorem eU (s:aC):(s.cells.drop 37)[0]?=some (.int .i64 s.pad.d.n):=rfl
theorem dr (s:aC):(s.cells.map SV.rv)[38]?=some (.rv (.int .i64 s.bD.a)):=rfl
theorem eV (s:aC):(s.cells.drop 38)[0]?=some (.int .i64 s.bD.a):=rfl
theorem dw (s:aC):(s.cells.map SV.rv)[39]?=some (.rv (.int .i64 s.bD.b)):=rfl
theorem eW (s:aC):(s.cells.drop 39)[0]?=some (.int .i64 s.bD.b):=rfl
theorem dy (s:aC):(s.cells.map SV.rv)[40]?=some (.rv (.int .i64 s.bD.c)):=rfl
theorem eY (s:aC):(s.cells.drop 40)[0]?=some (.int .i64 s.bD.c):=rfl
theorem dz (s:aC):(s.cells.map SV.rv)[41]?=some (.rv (.int .i64 s.bD.d)):=rfl
theorem eZ (s:aC):(s.cells.drop 41)[0]?=some (.int .i64 s.bD.d):=rfl
theorem cA (s:aC):(s.cells.map SV.rv)[42]?=some (.rv (.bool s.bZ)):=rfl
theorem fe (s:aC):(s.cells.drop 42)[0]?=some (.bool s.bZ):=rfl
theorem dA (s:aC):(s.cells.map SV.rv)[43]?=some (.rv (.bool s.yy)):=rfl
theorem ff (s:aC):(s.cells.drop 43)[0]?=some (.bool s.yy):=rfl
theorem dB (s:aC):(s.cells.map SV.rv)[44]?=some (.rv (.int .i64 s.z)):=rfl
theorem fh (s:aC):(s.cells.drop 44)[0]?=some (.int .i64 s.z):=rfl
theorem dD (s:aC):(s.cells.map SV.rv)[45]?=some (.rv (.bool s.clip)):=rfl
theorem fj (s:aC):(s.cells.drop 45)[0]?=some (.bool s.clip):=rfl
theorem dF (s:aC):(s.cells.map SV.rv)[46]?=some (.rv (.int .i64 s.back)):=rfl
theorem fk (s:aC):(s.cells.drop 46)[0]?=some (.int .i64 s.back):=rfl
theorem dG (s:aC):(s.cells.map SV.rv)[47]?=some (.rv (.int .i64 s.line)):=rfl
theorem fm (s:aC):(s.cells.drop 47)[0]?=some (.int .i64 s.line):=rfl
theorem dM (s:aC):((s.cells.map SV.rv).drop 10).take 2=s.width.cells.map SV.rv:=rfl
theorem dN (s:aC):((s.cells.map SV.rv).drop 12).take 2=s.height.cells.map SV.rv:=rfl
theorem dO (s:aC):((s.cells.map SV.rv).drop 14).take 2=s.jo.cells.map SV.rv:=rfl
theorem dP (s:aC):((s.cells.map SV.rv).drop 16).take 2=s.jn.cells.map SV.rv:=rfl
theorem dQ (s:aC):((s.cells.map SV.rv).drop 18).take 2=s.jM.cells.map SV.rv:=rfl
theorem dS (s:aC):((s.cells.map SV.rv).drop 20).take 2=s.jL.cells.map SV.rv:=rfl
theorem dR (s:aC):((s.cells.map SV.rv).drop 2).take 8=s.off.oG.map SV.rv:=rfl
theorem dU (s:aC):((s.cells.map SV.rv).drop 22).take 8=s.bC.oG.map SV.rv:=rfl
theorem dV (s:aC):((s.cells.map SV.rv).drop 30).take 8=s.pad.oG.map SV.rv:=rfl
theorem dW (s:aC):((s.cells.map SV.rv).drop 38).take 4=s.bD.ints.map SV.rv:=rfl
theorem cz (s:aC):(s.cells.map SV.rv).take 48=s.cells.map SV.rv:=rfl
theorem cB (s:aC):((s.cells.map SV.rv).drop 0).take 48=s.cells.map SV.rv:=rfl
theorem oV {α:Type} {p:α→Bool} {l:List α} {k:Nat} (h:k<l.length) (hk:(l.drop k).all p=l.all p) (hp:p (l[k]'h)=true):(l.drop (k+1)).all p=l.all p:=by
 rw [← hk,List.drop_eq_getElem_cons h,List.all_cons,hp,Bool.true_and]
theorem oU {α:Type} {p:α→Bool} {l:List α} {k:Nat} (h:k<l.length) (hk:(l.drop k).all p=l.all p) (hp:p (l[k]'h)=false):l.all p=false:=by
 rw [← hk,List.drop_eq_getElem_cons h,List.all_cons,hp,Bool.false_and]
theorem oT {α:Type} {p:α→Bool} {l:List α} {k:Nat} (h:l.length≤k) (hk:(l.drop k).all p=l.all p):l.all p=true:=by
 rw [← hk,List.drop_of_length_le h];rfl
theorem GD (x:Nd):x.cells.take 48=x.s.cells:=rfl
theorem uh (x:Nd):(x.cells.map SV.rv)[48]?=some (.rv (.int .i64 x.parent)):=rfl
theorem ql (x:Nd):x.cells.take 49=x.cells:=rfl
theorem Vp (s:aC):∀ r∈s.cells,r.one=true:=by
 intro r hr
 simp -implicitDefEqProofs only [aC.cells,List.mem_cons,List.not_mem_nil,or_false] at hr
 repeat' rcases hr with rfl | hr
 all_goals first | rfl | (subst hr;rfl)
theorem Si (x:Nd):∀ r∈x.cells,r.one=true:=by
 intro r hr
 rcases List.mem_append.1 hr with hr | hr
 ·exact Vp _ r hr
 ·simp at hr;rw [hr];rfl
theorem zg (l:List Nd):∀ x∈br l,∀ r∈x,r.one=true:=by
 intro x hx
 obtain ⟨n,_,rfl⟩:=List.mem_map.1 hx
 exact Si n
def aM (ys:List Int):List (List RV):=ys.map fun n=>[.int .i64 n]
theorem aj (l:List Int):(aM l).length=l.length:=by simp [aM]
theorem pK {l:List Int} {i:Nat} (h:i<l.length):(aM l)[i]?.getD []=[.int .i64 (l[i]'h)]:=by simp [aM,h]
theorem kI (l:List Int):∀ x∈aM l,∀ r∈x,r.one=true:=by
 intro x hx r hr
 obtain ⟨n,_,rfl⟩:=List.mem_map.1 hx
 simp at hr;rw [hr];rfl
theorem kU {l:List Int} {i:Nat} (h:i<l.length):(aM l)[i]?.getD []=[.int .i64 (l.getD i 0)]:=by simp [aM,h]
theorem nh {ys:List Int} {k:Nat} {v:Int}:(aN (aM ys)).set k [.rv (.int .i64 v)]=aN (aM (ys.set k v)):=by simp [aN,aM,List.map_set]
theorem zF {n:Nat}:List.replicate n [SV.rv (.int .i64 0)]=aN (aM (List.replicate n 0)):=by simp [aN,aM]
theorem mF {ys:List Int} {v:Int}:aN (aM ys)++[[.rv (.int .i64 v)]]=aN (aM (ys++[v])):=by simp [aN,aM]
theorem fB {k:Nat} (h:k<4611686018427387904):IntKind.i64.wrap ((k:Int)+1)=((k+1:Nat):Int):=by
 rw [wrap_i64 (by omega) (by omega)];omega
theorem uI {k:Nat} (h:0<k) (h2:k<4611686018427387904):IntKind.i64.wrap ((k:Int) - 1)=((k - 1:Nat):Int):=by
 rw [wrap_i64 (by omega) (by omega)];omega
end Go.aL

namespace Go.aL
open Go Go.Proofs
theorem zQ {n:Nat} {rs:List RV} (h:jk Go.Proofs.Tryz.prog (n+1) 3 rs):∃ i,rs=[.int .i64 i]:=by
 obtain ⟨i,h,_⟩:=IT Tryz.underlying3 h
 exact ⟨i,h⟩
theorem pP {n:Nat} {rs:List RV} (h:jk Go.Proofs.Tryz.prog (n+1) 2 rs):∃ i,rs=[.int .i64 i]:=by
 obtain ⟨i,h,_⟩:=IT Tryz.underlying2 h
 exact ⟨i,h⟩
theorem uE {n:Nat} {rs:List RV} (h:jk Go.Proofs.Tryz.prog (n+1) 4 rs):∃ b,rs=[.bool b]:=by
 exact Vv Tryz.underlying4 h
theorem pQ {n:Nat} {rs:List RV} (h:jk Go.Proofs.Tryz.prog (n+2) 67 rs):∃ x:Ln,rs=x.cells:=by
 have h:=zP Tryz.underlying67 h
 obtain ⟨_,_,rfl,h1,_,_,rfl,h2,rfl⟩:=h
 obtain ⟨i,rfl⟩:=zQ h1
 obtain ⟨j,rfl⟩:=pP h2
 exact ⟨⟨i,j⟩,rfl⟩
theorem Gj {α:Type} {xs:List α} (h:xs.length=4):∃ a b c d,xs=[a,b,c,d]:=by
 match xs,h with
 | [a,b,c,d],_=>exact ⟨a,b,c,d,rfl⟩
theorem CR {n:Nat} {rs:List RV} (h:jk Go.Proofs.Tryz.prog (n+3) 68 rs):∃ q:Q4 Ln,rs=q.oG:=by
 obtain ⟨xs,rfl,hl,hx⟩:=IS Tryz.underlying68 h
 obtain ⟨a,b,c,d,rfl⟩:=Gj hl
 obtain ⟨a,rfl⟩:=pQ (hx a (by simp))
 obtain ⟨b,rfl⟩:=pQ (hx b (by simp))
 obtain ⟨c,rfl⟩:=pQ (hx c (by simp))
 obtain ⟨d,rfl⟩:=pQ (hx d (by simp))
 exact ⟨⟨a,b,c,d⟩,rfl⟩
theorem Vu {n:Nat} {rs:List RV} (h:jk Go.Proofs.Tryz.prog (n+2) 31 rs):∃ q:Q4 Int,rs=q.ints:=by
 obtain ⟨xs,rfl,hl,hx⟩:=IS Tryz.underlying31 h
 obtain ⟨a,b,c,d,rfl⟩:=Gj hl
 obtain ⟨a,rfl⟩:=pP (hx a (by simp))
 obtain ⟨b,rfl⟩:=pP (hx b (by simp))
 obtain ⟨c,rfl⟩:=pP (hx c (by simp))
 obtain ⟨d,rfl⟩:=pP (hx d (by simp))
 exact ⟨⟨a,b,c,d⟩,rfl⟩
theorem Vy {n:Nat} {rs:List RV} (h:jk Go.Proofs.Tryz.prog (n+4) 70 rs):∃ s:aC,rs=s.cells:=by
 have h:=zP Tryz.underlying70 h
 obtain ⟨_,_,rfl,h1,_,_,rfl,h2,_,_,rfl,h3,_,_,rfl,h4,_,_,rfl,h5,_,_,rfl,h6,_,_,rfl,h7,_,_,rfl,h8,_,_,rfl,h9,_,_,rfl,MK,_,_,rfl,ML,_,_,rfl,h12,_,_,rfl,MM,_,_,rfl,MN,_,_,rfl,MO,_,_,rfl,MP,_,_,rfl,MQ,_,_,rfl,MR,rfl⟩:=h
 obtain ⟨b1,rfl⟩:=uE h1
 obtain ⟨i2,rfl⟩:=zQ h2
 obtain ⟨q3,rfl⟩:=CR h3
 obtain ⟨x4,rfl⟩:=pQ h4
 obtain ⟨x5,rfl⟩:=pQ h5
 obtain ⟨x6,rfl⟩:=pQ h6
 obtain ⟨x7,rfl⟩:=pQ h7
 obtain ⟨x8,rfl⟩:=pQ h8
 obtain ⟨x9,rfl⟩:=pQ h9
 obtain ⟨SS,rfl⟩:=CR MK
 obtain ⟨SU,rfl⟩:=CR ML
 obtain ⟨SW,rfl⟩:=Vu h12
 obtain ⟨Ks,rfl⟩:=uE MM
 obtain ⟨Kt,rfl⟩:=uE MN
 obtain ⟨i15,rfl⟩:=pP MO
 obtain ⟨Ku,rfl⟩:=uE MP
 obtain ⟨i17,rfl⟩:=pP MQ
 obtain ⟨i18,rfl⟩:=pP MR
 exact ⟨⟨b1,i2,q3,x4,x5,x6,x7,x8,x9,SS,SU,SW,Ks,Kt,i15,Ku,i17,i18⟩,rfl⟩
theorem Vx {n:Nat} {rs:List RV} (h:jk Go.Proofs.Tryz.prog (n+5) 72 rs):∃ x:Nd,rs=x.cells:=by
 have h:=zP Tryz.underlying72 h
 obtain ⟨_,_,rfl,h1,_,_,rfl,h2,rfl⟩:=h
 obtain ⟨s,rfl⟩:=Vy h1
 obtain ⟨i,rfl⟩:=zQ h2
 exact ⟨⟨s,i⟩,rfl⟩
theorem Gk {α:Type} {f:α→List RV}:∀ {xs:List (List RV)},(∀ x∈xs,∃ a,x=f a)→∃ l:List α,xs=l.map f
 | [],_=>⟨[],rfl⟩
 | x::xs,h=>by
   obtain ⟨a,rfl⟩:=h x (by simp)
   obtain ⟨l,rfl⟩:=Gk (xs:=xs) fun y hy=>h y (by simp [hy])
   exact ⟨a::l,rfl⟩
theorem KQ:Program.cellsOf Go.Proofs.Tryz.prog 72=49:=by kernel_rfl
theorem Kd:fC Go.Proofs.Tryz.prog 22=some false:=by kernel_rfl
theorem Kb:fC Go.Proofs.Tryz.prog 3=some false:=by kernel_rfl
theorem SB {rs:List RV} (h:jk Go.Proofs.Tryz.prog 6 22 rs):∃ l:List Nd,nt Go.Proofs.Tryz.prog 22 rs = .rv (.sl 49 (br l)):=by
 obtain ⟨xs,rfl,_,hx⟩:=Vw Tryz.underlying22 h
 obtain ⟨l,rfl⟩:=Gk fun x hx'=>Vx (hx x hx')
 refine ⟨l,?_⟩
 rw [xu Kd,KQ];rfl
theorem Sy {rs:List RV} (h:jk Go.Proofs.Tryz.prog 1 3 rs):∃ i:Int,nt Go.Proofs.Tryz.prog 3 rs = .rv (.int .i64 i):=by
 obtain ⟨i,rfl⟩:=zQ h
 exact ⟨i,xu Kb⟩
end Go.aL

namespace Go.aL
open Go
def bz (l:List Nd) (n:Nat):Int:=(l.getD n default).parent
theorem lU {l:List Nd} {n:Nat} (h:n<l.length):(l[n]'h).parent=bz l n:=by simp [bz,h]
def WF (l:List Nd) (k:Nat):Prop:=bz l 0 = -1∧∀ j,0<j→j<k→0≤bz l j∧bz l j<j
theorem WF.mono {l:List Nd} {k m:Nat} (h:WF l k) (hm:m≤k):WF l m:=⟨h.1,fun j a b=>h.2 j a (by omega)⟩
def bt (l:List Nd) (n:Nat):List Nat:=if h:0≤bz l n∧bz l n<n then n::bt l (bz l n).toNat else [n]
termination_by n
decreasing_by omega
theorem qY {l:List Nd} {n:Nat} (h:0≤bz l n∧bz l n<n):bt l n=n::bt l (bz l n).toNat:=by
 rw [bt,dif_pos h]
theorem uu {l:List Nd} {n:Nat} (h:¬ (0≤bz l n∧bz l n<n)):bt l n=[n]:=by
 rw [bt,dif_neg h]
theorem Cl {l:List Nd}:bt l 0=[0]:=uu (by omega)
theorem Hv {l:List Nd} {n:Nat}:∃ r,bt l n=n::r:=by
 by_cases h:0≤bz l n∧bz l n<n
 ·exact ⟨_,qY h⟩
 ·exact ⟨_,uu h⟩
theorem uq {l:List Nd}:∀ n,(bt l n).length≤n+1:=by
 intro n
 induction n using Nat.strongRecOn with
 | _ n ih=>
   by_cases h:0≤bz l n∧bz l n<n
   ·rw [qY h];have:=ih (bz l n).toNat (by omega);simp;omega
   ·rw [uu h];simp
theorem uo {l:List Nd}:∀ n x,x∈bt l n→x≤n:=by
 intro n
 induction n using Nat.strongRecOn with
 | _ n ih=>
   intro x hx
   by_cases h:0≤bz l n∧bz l n<n
   ·rw [qY h] at hx
    rcases List.mem_cons.1 hx with rfl | hx
    ·omega
    ·have:=ih (bz l n).toNat (by omega) x hx;omega
   ·rw [uu h] at hx;simp at hx;omega
def kF (p:List Nat) (i:Nat):Int:=match p[i]? with
 | some x=>x
 | none=>-1
theorem uN {p:List Nat} {i:Nat} (h:i<p.length):kF p i=((p[i]'h:Nat):Int):=by simp [kF,h]
theorem Kr {p:List Nat} {i:Nat} (h:p.length≤i):kF p i = -1:=by
 unfold kF;rw [List.getElem?_eq_none h]
theorem qz {p:List Nat} {i:Nat}:0≤kF p i↔i<p.length:=by
 by_cases h:i<p.length
 ·rw [uN h];simp [h]
 ·rw [Kr (by omega)];simp;omega
theorem uO {l:List Nd} {n:Nat}:kF (bt l n) 0=n:=by
 obtain ⟨r,h⟩:=Hv (l:=l) (n:=n)
 simp [kF,h]
theorem zn {l:List Nd} {k:Nat} (hw:WF l k):∀ n,n<k→∀ i,(h:i<(bt l n).length)→bz l ((bt l n)[i]'h)=kF (bt l n) (i+1):=by
 intro n
 induction n using Nat.strongRecOn with
 | _ n ih=>
   intro hn i hi
   by_cases h:0≤bz l n∧bz l n<n
   ·have hp:=qY h
    cases i with
    | zero=>
      simp -implicitDefEqProofs only [hp,List.getElem_cons_zero]
      rw [show kF (n::bt l (bz l n).toNat) (0+1)=kF (bt l (bz l n).toNat) 0 from by simp [kF],uO]
      omega
    | succ i=>
      simp -implicitDefEqProofs only [hp,List.length_cons] at hi
      have:=ih (bz l n).toNat (by omega) (by omega) i (by omega)
      simp -implicitDefEqProofs only [hp,List.getElem_cons_succ]
      rw [show kF (n::bt l (bz l n).toNat) (i+1+1)=kF (bt l (bz l n).toNat) (i+1) from by simp [kF]]
      exact this
   ·have hp:=uu h
    have h0:n=0:=by
     rcases Nat.eq_zero_or_pos n with h0 | h0
     ·exact h0
     ·exact absurd (hw.2 n h0 hn) h
    subst h0
    simp -implicitDefEqProofs only [hp,List.length_singleton] at hi
    obtain rfl:i=0:=by omega
    simp -implicitDefEqProofs only [hp,List.getElem_cons_zero]
    rw [hw.1];rfl
theorem zw {l:List Nd} {k n i:Nat} (hn:n<k) (h:i<(bt l n).length):(bt l n)[i]'h<k:=by
 have:=uo n _ (List.getElem_mem h);omega
theorem SR {l:List Nd}:∀ n i,(h:i<(bt l n).length)→(bt l n).drop i=bt l ((bt l n)[i]'h):=by
 intro n
 induction n using Nat.strongRecOn with
 | _ n ih=>
   intro i hi
   by_cases h:0≤bz l n∧bz l n<n
   ·have hp:=qY h
    cases i with
    | zero=>simp [hp]
    | succ i=>
      simp -implicitDefEqProofs only [hp,List.length_cons] at hi
      simp -implicitDefEqProofs only [hp,List.drop_succ_cons,List.getElem_cons_succ]
      exact ih _ (by omega) i (by omega)
   ·have hp:=uu h
    simp -implicitDefEqProofs only [hp,List.length_singleton] at hi
    obtain rfl:i=0:=by omega
    simp [hp]
def nq (l:List Nd) (k:Nat):Option Nat:=(bt l (k - 1)).findIdx? fun (j:Nat)=>decide ((j:Int)=bz l k)
def jA (l:List Nd) (k:Nat):Bool:=decide (k=0) || (nq l k).isSome
def kX (l:List Nd):Bool:=decide (0<l.length) && decide (bz l 0 = -1) && (List.range l.length).all (jA l)
def fT (l:List Nd):Bool:=kX l && l.all fun x=>jg x.s
theorem CT {l:List Nd} {k:Nat} (h:(nq l k).isSome=true):0≤bz l k∧bz l k≤((k - 1:Nat):Int)∧(bz l k).toNat∈bt l (k - 1):=by
 obtain ⟨i,hi⟩:=Option.isSome_iff_exists.1 h
 unfold nq at hi
 rw [List.findIdx?_eq_some_iff_getElem] at hi
 obtain ⟨hlt,hp,_⟩:=hi
 simp at hp
 have h1:=List.getElem_mem hlt
 have h2:=uo _ _ h1
 refine ⟨by omega,by omega,?_⟩
 rw [← hp];simp
theorem VB {l:List Nd} {k:Nat} (h0:0≤bz l k) (h:(bz l k).toNat∈bt l (k - 1)):(nq l k).isSome=true:=by
 unfold nq
 rw [List.findIdx?_isSome,List.any_eq_true]
 exact ⟨_,h,by simp;omega⟩
theorem Vz {l:List Nd} {k i:Nat} (h:i<(bt l (k - 1)).length) (hp:(((bt l (k - 1))[i]'h:Nat):Int)=bz l k) (hn:∀ j,(h:j<(bt l (k - 1)).length)→j<i→(((bt l (k - 1))[j]'h:Nat):Int)≠bz l k):nq l k=some i:=by
 unfold nq
 rw [List.findIdx?_eq_some_iff_getElem]
 exact ⟨h,by simpa using hp,fun j hj=>by simpa using hn j (by omega) hj⟩
theorem VA {l:List Nd} {k:Nat} (hn:∀ j,(h:j<(bt l (k - 1)).length)→(((bt l (k - 1))[j]'h:Nat):Int)≠bz l k):nq l k=none:=by
 unfold nq
 rw [List.findIdx?_eq_none_iff]
 intro x hx
 obtain ⟨j,hj,rfl⟩:=List.getElem_of_mem hx
 simpa using hn j hj
theorem Je {l:List Nd} {k:Nat} (h0:bz l 0 = -1) (h:∀ j,j<k→jA l j=true):WF l k:=by
 refine ⟨h0,fun j hj hk=>?_⟩
 have:=h j hk
 simp [jA] at this
 rcases this with h | h
 ·omega
 ·have:=CT h;omega
structure gF (l:List Nd):Prop where
 pos:0<l.length
 root:bz l 0 = -1
 up:∀ j,0<j→j<l.length→0≤bz l j∧bz l j<j∧(bz l j).toNat∈bt l (j - 1)
theorem gF.wf {l:List Nd} (h:gF l):WF l l.length:=⟨h.root,fun j a b=>⟨(h.up j a b).1,(h.up j a b).2.1⟩⟩
theorem wG {l:List Nd}:kX l=true↔gF l:=by
 simp -implicitDefEqProofs only [kX,Bool.and_eq_true,decide_eq_true_eq,List.all_eq_true,List.mem_range]
 constructor
 ·rintro ⟨⟨h1,h2⟩,h3⟩
  refine ⟨h1,h2,fun j hj hl=>?_⟩
  have:=h3 j hl
  simp [jA] at this
  rcases this with h | h
  ·omega
  ·obtain ⟨a,b,c⟩:=CT h
   exact ⟨a,by omega,c⟩
 ·intro h
  refine ⟨⟨h.pos,h.root⟩,fun j hj=>?_⟩
  rcases Nat.eq_zero_or_pos j with h0 | h0
  ·simp [jA,h0]
  ·obtain ⟨a,b,c⟩:=h.up j h0 hj
   simp [jA,VB a c]
def depth (l:List Nd) (n:Nat):Nat:=(bt l n).length
theorem Aw {l:List Nd} {k n:Nat} (hw:WF l k) (h0:0<n) (hn:n<k):depth l n=depth l (bz l n).toNat+1:=by
 unfold depth;rw [qY (hw.2 n h0 hn)];simp
theorem Ax {l:List Nd}:depth l 0=1:=by simp [depth,Cl]
def kO (l:List Nd):Int:=if fT l=false then 2 else if (decide (l.length>65535) || (List.range l.length).any (fun k=>decide (depth l k>256)) || l.any fun x=>!kY x.s)=true then 3 else 0
end Go.aL

namespace Go.aL
open Go
def bE (l:List Nd) (k p:Nat):List Nat:=(List.range k).filter fun j=>decide (0<j) && decide (bz l j=p)
def ie (l:List Nd) (p:Nat):List Nat:=bE l l.length p
theorem ue {l:List Nd} {p:Nat}:bE l 0 p=[]:=rfl
theorem ud {l:List Nd} {k p:Nat}:bE l (k+1) p=bE l k p++if 0<k∧bz l k=p then [k] else []:=by
 by_cases h:0<k∧bz l k=p
 ·simp [bE,List.range_succ,h]
 ·rw [if_neg h]
  have:(decide (0<k) && decide (bz l k=p))=false:=by
   rw [Bool.eq_false_iff];simpa using h
  simp [bE,List.range_succ,this]
theorem sL {l:List Nd} {k p:Nat}:(bE l k p).length≤k:=by
 have:=List.length_filter_le (fun j=>decide (0<j) && decide (bz l j=p)) (List.range k)
 simpa [bE] using this
theorem qV {l:List Nd} {c p:Nat}:c∈ie l p↔0<c∧c<l.length∧bz l c=p:=by
 simp [ie,bE];omega
def hU (l:List Nd) (n:Nat):Nat:=match (ie l n).getLast? with
 | none=>n+1
 | some c=>if h:n<c∧c<l.length then hU l c else n+1
termination_by l.length - n
decreasing_by omega
theorem AD {l:List Nd} {n:Nat} (h:ie l n=[]):hU l n=n+1:=by
 rw [hU,h];rfl
theorem AB {l:List Nd} {n c:Nat} (h:(ie l n).getLast?=some c) (h1:n<c) (h2:c<l.length):hU l n=hU l c:=by
 rw [hU,h];simp [h1,h2]
def pO (l:List Nd) (n:Nat):Bool:=(l.getD n default).s.shown
theorem Cy {l:List Nd} {n:Nat} (h:n<l.length):(l[n]'h).s.shown=pO l n:=by simp [pO,h]
def mD (l:List Nd) (n:Nat):Bool:=(bt l n).all (pO l)
theorem Gs {l:List Nd}:mD l 0=pO l 0:=by simp [mD,Cl]
theorem Gr {l:List Nd} {k n:Nat} (hw:WF l k) (h0:0<n) (hn:n<k):mD l n=(pO l n && mD l (bz l n).toNat):=by
 unfold mD;rw [qY (hw.2 n h0 hn)];rfl
end Go.aL

namespace Go.aL
open Go
theorem zb {l:List Nd} {n:Nat}:n∈bt l n:=by obtain ⟨r,h⟩:=Hv (l:=l) (n:=n);simp [h]
theorem Ck {l:List Nd} {a n:Nat} (h:a∈bt l n):∀ x,x∈bt l a→x∈bt l n:=by
 obtain ⟨i,hi,rfl⟩:=List.getElem_of_mem h
 intro x hx
 rw [← SR n i hi] at hx
 exact List.mem_of_mem_drop hx
theorem sN {l:List Nd} {k n m:Nat} (hw:WF l m) (h0:0<k) (hk:k<m):n∈bt l k↔n=k∨n∈bt l (bz l k).toNat:=by
 rw [qY (hw.2 k h0 hk)];simp
theorem Sf {l:List Nd} {n:Nat}:n∈bt l 0↔n=0:=by rw [Cl];simp
theorem gF.step {l:List Nd} (h:gF l) {n k:Nat} (hk:k<l.length) (hn:n<k) (hm:n∈bt l k):n∈bt l (k - 1):=by
 rw [sN h.wf (by omega) hk] at hm
 rcases hm with hm | hm
 ·omega
 ·exact Ck (h.up k (by omega) hk).2.2 n hm
theorem gF.Dp {l:List Nd} (h:gF l) {n:Nat}:∀ k j,k<l.length→n∈bt l k→n≤j→j≤k→n∈bt l j:=by
 intro k
 induction k using Nat.strongRecOn with
 | _ k ih=>
   intro j hk hm h1 h2
   rcases Nat.lt_or_ge j k with yD | yD
   ·exact ih (k - 1) (by omega) j (by omega) (h.step hk (by omega) hm) h1 (by omega)
   ·obtain rfl:j=k:=by omega
    exact hm
theorem gF.child {l:List Nd} (h:gF l) {n:Nat}:∀ k,k<l.length→n∈bt l k→n≠k→∃ c,c∈ie l n∧c∈bt l k:=by
 intro k
 induction k using Nat.strongRecOn with
 | _ k ih=>
   intro hk hm hne
   rcases Nat.eq_zero_or_pos k with h0 | h0
   ·subst h0;rw [Sf] at hm;exact absurd hm hne
   ·obtain ⟨p1,p2,_⟩:=h.up k h0 hk
    rw [sN h.wf h0 hk] at hm
    rcases hm with hm | hm
    ·exact absurd hm hne
    ·by_cases hp:n=(bz l k).toNat
     ·exact ⟨k,qV.2 ⟨h0,hk,by omega⟩,zb⟩
     ·obtain ⟨c,c1,c2⟩:=ih (bz l k).toNat (by omega) (by omega) hm hp
      exact ⟨c,c1,(sN h.wf h0 hk).2 (.inr c2)⟩
theorem Ro {l:List Nd} {n c:Nat} (h:(ie l n).getLast?=some c):∀ x∈ie l n,x≤c:=by
 have key:∀ k,∀ c,(bE l k n).getLast?=some c→∀ x∈bE l k n,x≤c:=by
  intro k
  induction k with
  | zero=>intro c h;simp [ue] at h
  | succ k ih=>
    intro c h x hx
    rw [ud] at h hx
    by_cases hc:0<k∧bz l k=n
    ·rw [if_pos hc] at h hx
     simp at h
     subst h
     rcases List.mem_append.1 hx with hx | hx
     ·simp [bE] at hx;omega
     ·simp at hx;omega
    ·rw [if_neg hc,List.append_nil] at h hx
     exact ih c h x hx
 exact key _ c h
theorem gF.ends {l:List Nd} (h:gF l):∀ m n,l.length - n=m→n<l.length→n<hU l n∧hU l n≤l.length∧∀ k,k<l.length→(n∈bt l k↔n≤k∧k<hU l n):=by
 intro m
 induction m using Nat.strongRecOn with
 | _ m ih=>
   intro n hm hn
   cases hl:(ie l n).getLast? with
   | none=>
     have gA:ie l n=[]:=List.getLast?_eq_none_iff.1 hl
     rw [AD gA]
     refine ⟨by omega,hn,fun k hk=>⟨fun hm=>?_,fun hb=>?_⟩⟩
     ·refine ⟨uo _ _ hm,?_⟩
      apply Classical.byContradiction
      intro hc
      obtain ⟨c,c1,_⟩:=h.child k hk hm (by omega)
      rw [gA] at c1;simp at c1
     ·obtain rfl:k=n:=by omega
      exact zb
   | some c=>
     have mW:c∈ie l n:=List.mem_of_getLast? hl
     obtain ⟨c1,c2,c3⟩:=qV.1 mW
     have hnc:n<c:=by have:=(h.up c c1 c2).2.1;omega
     rw [AB hl hnc c2]
     obtain ⟨e1,e2,e3⟩:=ih (l.length - c) (by omega) c rfl c2
     have Fg:n∈bt l c:=(sN h.wf c1 c2).2 (.inr (by rw [c3,Int.toNat_natCast];exact zb))
     refine ⟨by omega,e2,fun k hk=>⟨fun hm=>?_,fun hb=>?_⟩⟩
     ·refine ⟨uo _ _ hm,?_⟩
      rcases Nat.lt_or_ge k (c+1) with hkc | hkc
      ·omega
      ·obtain ⟨c',d1,d2⟩:=h.child k hk hm (by omega)
       have hle:=Ro hl c' d1
       obtain ⟨g1,g2,g3⟩:=qV.1 d1
       by_cases Nj:c'=c
       ·subst Nj;exact ((e3 k hk).1 d2).2
       ·have:=h.Dp k c hk d2 (by omega) (by omega)
        rw [sN h.wf c1 c2,c3,Int.toNat_natCast] at this
        rcases this with t | t
        ·omega
        ·have:=uo _ _ t
         have:=(h.up c' g1 g2).2.1
         omega
     ·rcases Nat.lt_or_ge k c with hkc | hkc
      ·exact h.Dp c k c2 Fg hb.1 (by omega)
      ·exact Ck ((e3 k hk).2 ⟨hkc,hb.2⟩) n Fg
theorem gF.below {l:List Nd} (h:gF l) {n k:Nat} (hn:n<l.length) (hk:k<l.length):n∈bt l k↔n≤k∧k<hU l n:=(h.ends _ n rfl hn).2.2 k hk
theorem gF.rY {l:List Nd} (h:gF l) {n:Nat} (hn:n<l.length):n<hU l n∧hU l n≤l.length:=⟨(h.ends _ n rfl hn).1,(h.ends _ n rfl hn).2.1⟩
end Go.aL

namespace Go.aL
open Go
theorem QY:aU Go.Proofs.Tryz.prog 108 21 (fc Go.Proofs.Tryz.prog 108 21 [(.t 2)]) [(.t 2)]:=bl (by kernel_rfl)
theorem Rb:aU Go.Proofs.Tryz.prog 87 14 (fc Go.Proofs.Tryz.prog 87 14 [(.t 4)]) [(.t 4)]:=bl (by kernel_rfl)
theorem Vd (x:Ln):aK Go.Proofs.Tryz.prog 108 [x.sv] [] [] (.rv (.bool (oF x))):=by
 refine mU QY [] [] [] [x.sv] [x.sv] [] _ (by simp) (by simp [aP,Ln.sv,Ln.cells,aY,aW]) rfl (by simp [bW]) (by simp [hD]) (fun K hK=>?_)
 conv in fc _ _ _ _=>reduce
 simp -implicitDefEqProofs only [Ln.sv,Ln.cells,go_sem,Int.reduceNegSucc]
 repeat' (first | (simp -implicitDefEqProofs only [go_sem,Int.reduceNegSucc]) | (with_reducible refine aA ?_) | ((first | refine ai (fun hg=>?_) (fun hg=>?_) | refine ax (fun hg=>?_) (fun hg=>?_) | refine ay (fun hg=>?_) (fun hg=>?_)) <;> try simp -implicitDefEqProofs only [hg,Bool.not_true,Bool.not_false]) | ((with_reducible apply And.intro);focus (first | trivial | omega | decide | (simp -implicitDefEqProofs only [maxLen];omega) | (simp [maxLen,af,ak,an,av,aj,au,aq] <;> omega))) | fail)
 all_goals (try ((first | refine (hK _ _ _ _ [] (gM _ _) ?_).2 | refine (hK _ _ ?_).2 | refine (hK _ _ _ _ [] (gM _ _) ?_).1 | refine (hK _ _ ?_).1 | fail);clear hK;(simp_all [gV,bW,newL,gY,gN,aS,aQ,lk,aX,fW,gk,fZ,iz,iy,aB,gW,bn,aG,gw,gX,iG,aI,iF,aF,gB,fX,bA,oF]) <;> try omega))
theorem CH (n m:Int) (hm:0≤m) (hm2:m<4611686018427387904):aK Go.Proofs.Tryz.prog 87 [.rv (.int .i64 n),.rv (.int .i64 m)] [] [] (.rv (.bool (qO n m))):=by
 refine KH Rb [.int .i64 n,.int .i64 m] _ (by simp) (fun K hK=>?_)
 have e1:IntKind.i64.wrap (0 - m) = -m:=by rw [wrap_i64 (by omega) (by omega)];omega
 conv in fc _ _ _ _=>reduce
 simp -implicitDefEqProofs only [e1,go_sem,Int.reduceNegSucc]
 repeat' (first | (simp -implicitDefEqProofs only [go_sem,Int.reduceNegSucc]) | (with_reducible refine aA ?_) | ((first | refine ai (fun hg=>?_) (fun hg=>?_) | refine ax (fun hg=>?_) (fun hg=>?_) | refine ay (fun hg=>?_) (fun hg=>?_)) <;> try simp -implicitDefEqProofs only [hg,Bool.not_true,Bool.not_false]) | ((with_reducible apply And.intro);focus (first | trivial | omega | decide | (simp -implicitDefEqProofs only [maxLen];omega) | (simp [maxLen,af,ak,an,av,aj,au,aq] <;> omega))) | fail)
 all_goals (try ((first | refine (hK _ _ _ _ [] (gM _ _) ?_).2 | refine (hK _ _ ?_).2 | refine (hK _ _ _ _ [] (gM _ _) ?_).1 | refine (hK _ _ ?_).1 | fail);clear hK;(simp_all [gV,bW,newL,gY,gN,aS,aQ,lk,aX,fW,gk,fZ,iz,iy,aB,gW,bn,aG,gw,gX,iG,aI,iF,aF,gB,fX,bA,qO]) <;> try omega))
end Go.aL

namespace Go.aL
open Go
theorem Ra:aU Go.Proofs.Tryz.prog 109 15 (fc Go.Proofs.Tryz.prog 109 15 []) []:=bl (by kernel_rfl)
theorem QZ:aU Go.Proofs.Tryz.prog 86 43 (fc Go.Proofs.Tryz.prog 86 43 [(.t 2)]) [(.t 2)]:=bl (by kernel_rfl)
def upto (o:Nat) (k:Nat):List Nat:=(List.range k).map fun q=>o+q*2
theorem VE {o k:Nat}:upto o (k+1)=upto o k++[o+k*2]:=by simp [upto,List.range_succ]
theorem IZ {o k:Nat}:(upto o k).length=k:=by simp [upto]
theorem CB (i j m o v:Nat) (cs:List RV) (os:List Nat) (h1:i≠j) (h2:i≠m) (h3:j≠m) (hb:os.length<1000) :
 aK Go.Proofs.Tryz.prog 109 [.ptr i o,.ptr j 0] [(i,.var (cs.map .rv)),(j,.var [.row m v os.length]),(m,.row 1 v (gU i os))] [(j,.var [.row m (v+4) (os.length+4)]),(m,.row 1 (v+4) (gU i (os++upto o 4)))] (.aO []):=by
 refine xH Ra [i,j,m] [.var (cs.map .rv),.var [.row 2 v os.length],.row 1 v (gU 0 os)] [.var (cs.map .rv),.var [.row m v os.length],.row 1 v (gU i os)] [.ptr 0 o,.ptr 1 0] _ _ _ (by simp) (by simp [aP,lI,lu,aW,aY,nW,bk,nX,nV,hD,nP,bW]) rfl (by simp [bW,h1,h2,h3]) rfl (Kg Ds (Ad (by simp [aP,lI,lu,aW,aY,nW,bk,nX,nV,hD,nP,bW,lu])) (Kw rfl)) (fun K hK=>?_)
 conv in fc _ _ _ _=>reduce
 simp -implicitDefEqProofs only [go_sem,Int.reduceNegSucc]
 refine fH (ι:=Nat) (fun k=>[(4,.rv (.int .i64 k)),(0,.ptr 0 o),(1,.ptr 1 0)]) (fun k=>[some (.var (cs.map .rv)),some (.var [.row 2 (v+k) (os.length+k)]),some (.row 1 (v+k) (gU 0 (os++upto o k)))]) (fun k=>k≤4) (fun k=>4 - k) 0 (by simp) (by simpa [upto] using bg (by simp [lk])) (fun k hk K' hN hX hR=>?_)
 simp -implicitDefEqProofs only [go_sem,Int.reduceNegSucc]
 refine ai (fun hg=>?_) (fun hg=>?_)
 ·have aE:k<4:=by simp at hg;omega
  have d1:List.take (os.length+k) (gU 0 (os++upto o k))++[[SV.ptr 0 (o+k*2)]]=gU 0 (os++upto o (k+1)):=by
   rw [VE,List.take_of_length_le (by simp [Hy,IZ])]
   simp [gU]
  simp -implicitDefEqProofs only [Hy,List.length_append,IZ,go_sem,Int.reduceNegSucc]
  repeat' (first | (simp -implicitDefEqProofs only [go_sem,Int.reduceNegSucc]) | (with_reducible refine aA ?_) | ((first | refine ai (fun hg=>?_) (fun hg=>?_) | refine ax (fun hg=>?_) (fun hg=>?_) | refine ay (fun hg=>?_) (fun hg=>?_)) <;> try simp -implicitDefEqProofs only [hg,Bool.not_true,Bool.not_false]) | ((with_reducible apply And.intro);focus (first | trivial | omega | decide | (simp -implicitDefEqProofs only [maxLen];omega) | (simp [maxLen,af,ak,an,av,aj,au,aq] <;> omega))) | fail)
  rw [d1,fB (by omega)]
  refine hN (k+1) _ _ (by omega) (by omega) (tK _ (by simp) ?_ ?_)
  ·simp [qk,aB,fW,aF,gw,gD,zB,fX,Nat.add_assoc]
  ·simp [lk,aG,gX,gD]
 ·have aE:k=4:=by simp at hg;omega
  subst aE
  simp -implicitDefEqProofs only [go_sem,Int.reduceNegSucc]
  refine hX _ _ _ ?_
  repeat' (first | (simp -implicitDefEqProofs only [go_sem,Int.reduceNegSucc]) | (with_reducible refine aA ?_) | ((first | refine ai (fun hg=>?_) (fun hg=>?_) | refine ax (fun hg=>?_) (fun hg=>?_) | refine ay (fun hg=>?_) (fun hg=>?_)) <;> try simp -implicitDefEqProofs only [hg,Bool.not_true,Bool.not_false]) | ((with_reducible apply And.intro);focus (first | trivial | omega | decide | (simp -implicitDefEqProofs only [maxLen];omega) | (simp [maxLen,af,ak,an,av,aj,au,aq] <;> omega))) | fail)
  refine (hK _ _ _ _ [] (gM _ _) ?_).1
  simp [gV,bW,newL,gY,gN,aS,aQ,lk,aX,fW,gk,fZ,iz,iy,aB,gW,bn,aG,gw,gX,iG,aI,iF,aF,gB,fX,h1,h2,h3,Ne.symm h1,Ne.symm h2,Ne.symm h3,gw,zB,fX]
theorem Uy (i j m o:Nat) (cs:List RV) (h1:i≠j) (h2:i≠m) (h3:j≠m) :
 aK Go.Proofs.Tryz.prog 109 [.ptr i o,.ptr j 0] [(j,.var [.rv .cw]),(i,.var (cs.map .rv))] [(j,.var [.row m 4 4]),(m,.row 1 4 (gU i (upto o 4)))] (.aO []):=by
 have:=CB i j m o 0 cs [] h1 h2 h3 (by simp)
 simp -implicitDefEqProofs only [List.length_nil,Nat.zero_add,List.nil_append] at this
 refine KJ (e:=1) (o:=0) (m:=m) rfl (by simp [h1,h2]) (Ne.symm h3) (by simp) (by simp) (KM this ?_)
 intro q
 simp [gU]
 constructor
 ·rintro (h | h | h) <;> simp [h]
 ·rintro (h | h | h) <;> simp [h]
def nH:List Nat:=[2,4,6,8,10,12,14,16,18,20,22,24,26,28,30,32,34,36]
theorem Il (i m:Nat) (s:aC) (h1:i≠m) :
 aK Go.Proofs.Tryz.prog 86 [.ptr i 0] [(i,.var (s.cells.map .rv))] [(m,.row 1 13 (gU i nH))] (.row m 13 18):=by
 refine xH QZ [i] [.var (s.cells.map .rv)] [.var (s.cells.map .rv)] [.ptr 0 0] _ _ _ (by simp) (by simp [aP,lI,lu,aW,aY,nW,bk,nX,nV,hD,nP,bW]) rfl (by simp [bW]) rfl (fun j x y hx hy=>by
  match j with
  | 0=>simp at hx hy;subst hx;subst hy;exact Ds
  | j+1=>simp at hx) (fun K hK=>?_)
 conv in fc _ _ _ _=>reduce
 simp -implicitDefEqProofs only [go_sem,Int.reduceNegSucc]
 refine bQ (Uy 0 1 2 2 s.cells (by decide) (by decide) (by decide)) (by simp [aT,aB]) (by simp [aZ,aR]) ?_
 repeat' (first | (simp -implicitDefEqProofs only [go_sem,Int.reduceNegSucc]) | (with_reducible refine aA ?_) | ((first | refine ai (fun hg=>?_) (fun hg=>?_) | refine ax (fun hg=>?_) (fun hg=>?_) | refine ay (fun hg=>?_) (fun hg=>?_)) <;> try simp -implicitDefEqProofs only [hg,Bool.not_true,Bool.not_false]) | ((with_reducible apply And.intro);focus (first | trivial | omega | decide | (simp -implicitDefEqProofs only [maxLen];omega) | (simp [maxLen,af,ak,an,av,aj,au,aq] <;> omega))) | fail)
 rw [show List.take 4 (gU 0 (upto 2 4))++[[SV.ptr 0 10],[SV.ptr 0 12],[SV.ptr 0 14],[SV.ptr 0 16],[SV.ptr 0 18],[SV.ptr 0 20]]=gU 0 [2,4,6,8,10,12,14,16,18,20] from rfl]
 refine bQ (CB 0 1 2 22 5 s.cells [2,4,6,8,10,12,14,16,18,20] (by decide) (by decide) (by decide) (by decide)) (by simp [aT,aB]) (by simp [aZ,aR]) ?_
 repeat' (first | (simp -implicitDefEqProofs only [go_sem,Int.reduceNegSucc]) | (with_reducible refine aA ?_) | ((first | refine ai (fun hg=>?_) (fun hg=>?_) | refine ax (fun hg=>?_) (fun hg=>?_) | refine ay (fun hg=>?_) (fun hg=>?_)) <;> try simp -implicitDefEqProofs only [hg,Bool.not_true,Bool.not_false]) | ((with_reducible apply And.intro);focus (first | trivial | omega | decide | (simp -implicitDefEqProofs only [maxLen];omega) | (simp [maxLen,af,ak,an,av,aj,au,aq] <;> omega))) | fail)
 refine bQ (CB 0 1 2 30 9 s.cells [2,4,6,8,10,12,14,16,18,20,22,24,26,28] (by decide) (by decide) (by decide) (by decide)) (by simp [aT,aB,upto,List.range_succ]) (by simp [aZ,aR]) ?_
 repeat' (first | (simp -implicitDefEqProofs only [go_sem,Int.reduceNegSucc]) | (with_reducible refine aA ?_) | ((first | refine ai (fun hg=>?_) (fun hg=>?_) | refine ax (fun hg=>?_) (fun hg=>?_) | refine ay (fun hg=>?_) (fun hg=>?_)) <;> try simp -implicitDefEqProofs only [hg,Bool.not_true,Bool.not_false]) | ((with_reducible apply And.intro);focus (first | trivial | omega | decide | (simp -implicitDefEqProofs only [maxLen];omega) | (simp [maxLen,af,ak,an,av,aj,au,aq] <;> omega))) | fail)
 refine (hK _ _ _ _ [none,some m,none] (gM _ _) ?_).2
 rw [show 2::4::6::8::10::12::14::16::18::20::22::24::26::28::upto 30 4=nH from rfl]
 simp [gV,bW,newL,gY,gN,aS,aQ,lk,aX,fW,gk,fZ,iz,iy,aB,gW,bn,aG,gw,gX,iG,aI,iF,aF,gB,fX,h1,Ne.symm h1,gw,zB,fX]
end Go.aL
