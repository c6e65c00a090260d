/- Part 2 of the proof: EngO, EngP, EngQ, EngR, EngS, EngT, EngU, EngV, EngW, EngX, EngY, EngZ, EngZa, EngZb, EngZc, EngZd, K0, KF, T0, T1, T2, K1, K2. -/
import Derived.Test.YtnaoehbodmiekaaGreatFlowOut1
import Derived.ProofKit
import Derived.OpenShut
import Derived.Below
import Derived.Test.YtnaoehbodmiekaaGreatProg
import Derived.KernelRfl
set_option linter.unusedSimpArgs false
set_option linter.unusedVariables false
set_option maxRecDepth 100000
set_option maxHeartbeats 16000000
namespace Go.aL
open Go
structure St where
 env:List (Nat×SV)
 h:List (Option HB)
def lk:List (Nat×SV)→Nat→SV
 | [],_=>.dead
 | (m,v)::r,n=>if m=n then v else lk r n
def aB (h:List (Option HB)) (id:Nat):Option HB:=match h[id]? with
 | some x=>x
 | none=>none
def gf (dst:Option Nat) (v:SV) (env:List (Nat×SV)):List (Nat×SV):=match dst with
 | some d=>(d,v)::env
 | none=>env
def aX (h:List (Option HB)) (q:Nat×HB):List (Option HB):=if q.1=h.length then h++[some q.2] else h.set q.1 (some q.2)
def wT (h:List (Option HB)):Option (Nat×HB)→List (Option HB)
 | none=>h
 | some q=>aX h q
def mh:List (Option HB)→List (Nat×HB)→List (Option HB)
 | h,[]=>h
 | h,q::r=>mh (aX h q) r
def bq (pre:List (Nat×HB)):List (Option HB)→List (Nat×HB)→Prop
 | _,[]=>True
 | h,q::r=>(q.1=h.length∨(q.1<h.length∧∃ hb,(q.1,hb)∈pre))∧bq pre (aX h q) r
theorem wB (env:List (Nat×SV)) (d:Nat) (v:SV):lk ((d,v)::env)=up (lk env) d v:=by
 funext n
 simp only [lk,up]
 by_cases h:d=n
 ·simp [h]
 ·rw [if_neg h,if_neg (Ne.symm h)]
theorem uM (h:List (Option HB)) (q:Nat×HB):h.length≤(aX h q).length:=by
 unfold aX;split <;> simp
theorem yE {h:List (Option HB)} {q:Nat×HB} (hq:q.1≤h.length):aB (aX h q)=up (aB h) q.1 (some q.2):=by
 funext id
 unfold aX aB up
 by_cases he:q.1=h.length
 ·rw [if_pos he]
  by_cases hi:id=q.1
  ·subst hi;simp [he]
  ·rw [if_neg hi]
   show _=(match h[id]? with | some x=>x | none=>none)
   by_cases hl:id<h.length
   ·rw [List.getElem?_append_left hl]
   ·rw [List.getElem?_append_right (by omega),List.getElem?_eq_none (l:=h) (by omega),List.getElem?_eq_none (by simp;omega)]
 ·rw [if_neg he,List.getElem?_set]
  by_cases hi:id=q.1
  ·subst hi
   have:q.1<h.length:=by omega
   simp [this]
  ·rw [if_neg (Ne.symm hi),if_neg hi]
theorem vz {pre:List (Nat×HB)}:∀ {us:List (Nat×HB)} {h:List (Option HB)},bq pre h us→aB (mh h us)=bM (aB h) us∧h.length≤(mh h us).length
 | [],h,_=>⟨rfl,Nat.le_refl _⟩
 | q::r,h,hk=>by
   obtain ⟨h1,h2⟩:=hk
   have hle:q.1≤h.length:=by rcases h1 with h1 | ⟨h1,_⟩ <;> omega
   obtain ⟨g1,g2⟩:=vz h2
   refine ⟨?_,Nat.le_trans (uM h q) g2⟩
   obtain ⟨id,hb⟩:=q
   rw [mh,g1,yE hle];rfl
structure jB (C:Ctx) (n0:Nat) (s:St) (a:Act) (w:World):Prop where
 rep:∃ aa,kr C (lk s.env) (aB s.h) a w aa
 wo:n0≤s.h.length
 h0:∀ id,n0≤id→C.h0 id=none
theorem Ho {C:Ctx} {n0:Nat} {s:St} {a:Act} {w:World} (R:jB C n0 s a w) {pre:List (Nat×HB)}:∀ {us:List (Nat×HB)} {h:List (Option HB)},s.h.length≤h.length→bq pre h us→rR C (aB s.h) pre us
 | [],h,_,_=>fun q hq=>by simp at hq
 | p::r,h,hl,hk=>fun q hq=>by
   rcases List.mem_cons.1 hq with rfl | hq
   ·rcases hk.1 with h1 | ⟨_,h1⟩
    ·refine .inr ⟨?_,R.h0 _ (by have:=R.wo;omega)⟩
     unfold aB
     rw [List.getElem?_eq_none (by omega)]
    ·exact .inl h1
   ·exact Ho R (h:=aX h p) (by have:=uM h p;omega) hk.2 q hq
theorem Ia {w:World} {ok:Nat→Prop} {aa:Nat→Option Nat} {hp:Hp}:Rp w ok aa hp (.aP []) undef:=.aP [] [] rfl (fun j y hj=>by simp at hj)
theorem Tv {w:World} {ok:Nat→Prop} {aa:Nat→Option Nat} {hp:Hp} {v:Value} (h:Rp w ok aa hp (.aP []) v):v=undef:=by
 cases h with
 | aP _ vs hl _=>
   have:vs=[]:=List.eq_nil_of_length_eq_zero (by simpa using hl)
   subst this;rfl
def kV (en:Nat→SV):Option (Nat×Bool)→Option Bool
 | none=>some true
 | some (d,b)=>match en d with
   | .rv (.bool t)=>some (t == b)
   | .aP []=>some false
   | _=>none
def qy (P:Program) (f:FuncId) (args:List SV) (h:List (Option HB)) (K:SV→List (Option HB)→Prop):Prop:=
 ∃ pre us sv,aI P f args pre us sv∧aY (aB h) pre∧bq pre h us∧K sv (mh h us)
def xP (P:Program) (h:List (Option HB)) (K:SV→List (Option HB)→Prop):List SV→Prop
 | .fn f caps::args=>qy P f (args++caps) h K
 | .fG f caps::args=>qy P f (caps++args) h K
 | _=>False
def vX (P:Program) (name:String) (h:List (Option HB)) (K:SV→List (Option HB)→Prop):List SV→Prop
 | s::args=>match oB s with
   | some (t,x)=>match oD P t name with
     | some (f,none)=>qy P f (x::args) h K
     | some (f,some (n,agg))=>match iz n agg (aB h) x with
       | some (p,y,_,_)=>p∧qy P f (y::args) h K
       | none=>False
     | none=>False
   | none=>False
 | _=>False
def zy (h:List (Option HB)) (K:SV→List (Option HB)→Prop):XR→Prop
 | some (p,sv,u,_)=>p∧K sv (wT h u)
 | none=>False
def sX (P:Program) (ao:AO) (args:List SV) (h:List (Option HB)) (K:SV→List (Option HB)→Prop):Prop:=
 match ao with
 | .call f=>qy P f args h K
 | .oc=>xP P h K args
 | .inv name=>vX P name h K args
 | ao=>zy h K (bY ao args (aB h) h.length)
def RW (P:Program) (K:St→Prop):List bI→St→Prop
 | [],s=>K s
 | op::r,s=>match kV (lk s.env) op.guard with
   | some true=>sX P op.ao (op.xs.map (je (lk s.env))) s.h fun sv h'=>RW P K r ⟨gf op.dst sv s.env,h'⟩
   | some false=>RW P K r ⟨gf op.dst (.aP []) s.env,s.h⟩
   | none=>False
theorem GK {n:Nat} {agg:Bool} {hp:Hp} {x y:SV} {p:Prop} {u:Option (Nat×HB)} {rd:List Nat} (h:iz n agg hp x=some (p,y,u,rd)):∀ id∈rd,(hp id).isSome=true:=by
 unfold iz at h
 repeat' split at h
 all_goals first | (cases h;done) | (cases h;simp [*])
def uy (h:List (Option HB)) (rd:List Nat):List (Nat×HB):=rd.filterMap fun id=>(aB h id).map fun hb=>(id,hb)
theorem FV {P:Program} {o:Oper} {name:String} {s x y:SV} {t:TypeId} {args:List SV} {f:FuncId} {n:Nat} {agg:Bool} {gC:List Operand} (hc:kU P o.op=some (.inv name,gC)) (hi:oB s=some (t,x)) (hf:oD P t name=some (f,some (n,agg))) {h:List (Option HB)} {p:Prop} {u:Option (Nat×HB)} {rd:List Nat} (hE:iz n agg (aB h) x=some (p,y,u,rd)) (aD:p)
 {pre us:List (Nat×HB)} {sv:SV} (H:aI P f (y::args) pre us sv) (h2:aY (aB h) pre) (h3:bq pre h us):oT P o (s::args) (uy h rd++pre) us sv∧aY (aB h) (uy h rd++pre)∧bq (uy h rd++pre) h us:=by
 have hrd:=GK hE
 have hpre:aY (aB h) (uy h rd++pre):=fun q hq=>by
  rcases List.mem_append.1 hq with hq | hq
  ·obtain ⟨id,_,hid⟩:=List.mem_filterMap.1 hq
   cases fP:aB h id with
   | none=>simp [fP] at hid
   | some hb=>simp [fP] at hid;subst hid;exact fP
  ·exact h2 q hq
 have SD:∀ {us:List (Nat×HB)} {h':List (Option HB)},bq pre h' us→bq (uy h rd++pre) h' us:=by
  intro us
  induction us with
  | nil=>intro h' _;trivial
  | cons q r ih=>
    intro h' hk
    refine ⟨hk.1.imp (fun h=>h) (fun ⟨a,hb,hm⟩=>⟨a,hb,List.mem_append.2 (.inr hm)⟩),ih hk.2⟩
 refine ⟨Cs hc hi hf (y:=y) (fun hp hP=>?_) (zz:=pre) (fun q hq=>List.mem_append.2 (.inr hq)) H (fun C hp hnew hP q hq=>?_),hpre,SD h3⟩
 ·refine ⟨p,u,rd,GJ hE (fun id hid=>?_),aD⟩
  obtain ⟨hb,pF⟩:=Option.isSome_iff_exists.1 (hrd id hid)
  rw [pF]
  exact hP (id,hb) (List.mem_append.2 (.inl (List.mem_filterMap.2 ⟨id,hid,by simp [pF]⟩)))
 ·rcases hnew q hq with ⟨hb,hm⟩ | hn
  ·rcases List.mem_append.1 hm with hm | hm
   ·
    have:∀ {us:List (Nat×HB)} {h':List (Option HB)},bq pre h' us→∀ q∈us,(∃ hb,(q.1,hb)∈pre)∨h'.length≤q.1:=by
     intro us
     induction us with
     | nil=>intro h' _ q hq;simp at hq
     | cons r l ih=>
       intro h' hk q hq
       rcases List.mem_cons.1 hq with rfl | hq
       ·rcases hk.1 with h1 | ⟨_,h1⟩
        ·exact .inr (by omega)
        ·exact .inl h1
       ·rcases ih hk.2 q hq with h1 | h1
        ·exact .inl h1
        ·exact .inr (by have:=uM h' r;omega)
    rcases this h3 q hq with h1 | h1
    ·exact .inl h1
    ·exfalso
     obtain ⟨id,_,hid⟩:=List.mem_filterMap.1 hm
     cases fP:aB h id with
     | none=>simp [fP] at hid
     | some hb'=>
       simp [fP] at hid
       have:id<h.length:=by
        unfold aB at fP
        cases hl:h[id]? with
        | none=>simp [hl] at fP
        | some x=>exact (List.getElem?_eq_some_iff.1 hl).1
       omega
   ·exact .inl ⟨hb,hm⟩
  ·exact .inr hn
theorem SJ {P:Program} {o:Oper} {ao:AO} {gC:List Operand} (hc:kU P o.op=some (ao,gC)) {args:List SV} {h:List (Option HB)} {K:SV→List (Option HB)→Prop} (hW:sX P ao args h K) :
 ∃ pre us sv,oT P o args pre us sv∧aY (aB h) pre∧bq pre h us∧K sv (mh h us):=by
 unfold sX at hW
 split at hW
 ·obtain ⟨pre,us,sv,h1,h2,h3,h4⟩:=hW
  exact ⟨pre,us,sv,Hs hc h1,h2,h3,h4⟩
 ·unfold xP at hW
  split at hW
  ·obtain ⟨pre,us,sv,h1,h2,h3,h4⟩:=hW
   exact ⟨pre,us,sv,Hu hc h1,h2,h3,h4⟩
  ·obtain ⟨pre,us,sv,h1,h2,h3,h4⟩:=hW
   exact ⟨pre,us,sv,Ht hc h1,h2,h3,h4⟩
  ·exact hW.elim
 ·unfold vX at hW
  split at hW
  ·rename_i s iU
   split at hW
   ·rename_i t x hi
    split at hW
    ·rename_i f hf
     obtain ⟨pre,us,sv,h1,h2,h3,h4⟩:=hW
     exact ⟨pre,us,sv,Cs hc hi hf (y:=x) (fun hp hP=>rfl) (fun q hq=>hq) h1 (fun C hp hn _=>hn),h2,h3,h4⟩
    ·rename_i f n agg hf
     split at hW
     ·rename_i p y u rd hE
      obtain ⟨aD,pre,us,sv,h1,h2,h3,h4⟩:=hW
      obtain ⟨g1,g2,g3⟩:=FV hc hi hf hE aD h1 h2 h3
      exact ⟨_,us,sv,g1,g2,g3,h4⟩
     ·exact hW.elim
    ·exact hW.elim
   ·exact hW.elim
  ·exact hW.elim
 ·unfold zy at hW
  split at hW
  ·rename_i p sv u rd hE
   obtain ⟨hp,hK⟩:=hW
   have ox:aB h h.length=none:=by unfold aB;rw [List.getElem?_eq_none (Nat.le_refl _)]
   refine ⟨_,wS u,sv,Hv hc hE hp ox,fun q hq=>?_,?_,?_⟩
   ·obtain ⟨id,_,hid⟩:=List.mem_filterMap.1 hq
    cases fP:aB h id with
    | none=>simp [fP] at hid
    | some hb=>simp [fP] at hid;subst hid;exact fP
   ·cases u with
    | none=>trivial
    | some q=>
      have ur:=Cr hE
      refine ⟨?_,trivial⟩
      rcases ur.1 q rfl with h1 | h1
      ·exact .inl h1
      ·right
       have hs:=ur.2 _ h1
       obtain ⟨hb,pF⟩:=Option.isSome_iff_exists.1 hs
       refine ⟨?_,hb,List.mem_filterMap.2 ⟨q.1,h1,by simp [pF]⟩⟩
       unfold aB at pF
       cases hl:h[q.1]? with
       | none=>simp [hl] at pF
       | some x=>exact (List.getElem?_eq_some_iff.1 hl).1
   ·cases u with
    | none=>exact hK
    | some q=>exact hK
  ·exact hW.elim
theorem Bc {C:Ctx} {en:Nat→SV} {hp:Hp} {a:Act} {w:World} {aa:Nat→Option Nat} (RF:kr C en hp a w aa) {ops:Array Oper} {o:Oper} {N:Nat} {P:Program} {op:bI} (hc:ny P ops N o=some op) {b:Bool} (h:kV en op.guard=some b):Region.wanted o (yielded ops a.tmps)=b:=by
 unfold ny at hc
 split at hc
 ·cases hc
 ·split at hc
  ·cases hc
  ·split at hc
   ·split at hc
    ·rename_i hg
     cases hc
     simp only [kV,Option.some.injEq] at h
     simp [Region.wanted,hg,← h]
    ·rename_i j b' hg
     split at hc
     ·rename_i d hd
      cases hc
      simp only [kV] at h
      split at h
      ·rename_i t ht
       simp only [Option.some.injEq] at h
       have:=RF.env d
       rw [ht] at this
       have hv:=tc this
       have Od:a.tmps[d]?=some (.bool t):=by
        rw [Array.getD_eq_getD_getElem?] at hv
        cases hx:a.tmps[d]? with
        | none=>simp [hx,undef] at hv
        | some x=>simp [hx] at hv;rw [hv]
       simp only [Region.wanted,hg,yielded,hd,Option.bind_some,Od]
       rw [← h];cases t <;> cases b' <;> rfl
      ·rename_i ht
       simp only [Option.some.injEq] at h
       have:=RF.env d
       rw [ht] at this
       have hv:=Tv this
       have hno:yielded ops a.tmps j=none:=by
        simp only [yielded,hd,Option.bind_some]
        rw [Array.getD_eq_getD_getElem?] at hv
        cases hx:a.tmps[d]? with
        | none=>rfl
        | some x=>simp [hx] at hv;rw [hv];rfl
       simp only [Region.wanted,hg,hno]
       rw [← h];rfl
      ·cases h
     ·cases hc
   ·cases hc
theorem Ay {P:Program} {ops:Array Oper} {N:Nat} {o:Oper} {op:bI} (hc:ny P ops N o=some op):∃ gC,kU P o.op=some (op.ao,gC)∧tJ gC=some op.xs∧o.dst=op.dst∧∀ d,op.dst=some d→d<N:=by
 unfold ny at hc
 split at hc
 ·cases hc
 ·rename_i ao xs hao
  split at hc
  ·cases hc
  ·rename_i ys hys
   split at hc
   ·rename_i hd
    split at hc
    ·cases hc
     exact ⟨xs,hao,hys,rfl,fun d lG=>by have Bm:o.dst=some d:=lG;rw [Bm] at hd;simpa using hd⟩
    ·split at hc
     ·cases hc
      exact ⟨xs,hao,hys,rfl,fun d lG=>by have Bm:o.dst=some d:=lG;rw [Bm] at hd;simpa using hd⟩
     ·cases hc
   ·cases hc
theorem kr.HT {C:Ctx} {env:List (Nat×SV)} {hp:Hp} {a:Act} {w:World} {aa:Nat→Option Nat} (R:kr C (lk env) hp a w aa) {dst:Option Nat} (hd:∀ d,dst=some d→d<C.N) {s:SV} {v:Value} (h:Rp w (aJ C aa hp) aa hp s v) :
 kr C (lk (gf dst s env)) hp (a.put dst v) w aa:=by
 cases dst with
 | none=>exact R
 | some d=>
   have:=R.put (hd d rfl) h
   rw [← wB] at this;exact this
theorem Im {P:Program} {C:Ctx} {n0:Nat} {ops:Array Oper} {K:St→Prop} {Q:Exit→Act→World→Prop} (hK:∀ s a w,K s→jB C n0 s a w→Q .normal a w) :
 ∀ (l:List bI) (is:List Nat) (s:St) (a:Act) (w:World),is.length=l.length→(∀ (j i:Nat) (op:bI),is[j]?=some i→l[j]?=some op→∃ o,ops[i]?=some o∧ny P ops C.N o=some op)→
  RW P K l s→jB C n0 s a w→wpOps P ops Q is a w
 | [],[],s,a,w,_,_,h,R=>hK s a w h R
 | [],_::_,s,a,w,hl,_,_,_=>by simp at hl
 | _::_,[],s,a,w,hl,_,_,_=>by simp at hl
 | op::l,i::is,s,a,w,hl,hc,h,R=>by
   obtain ⟨o,ho,mE⟩:=hc 0 i op rfl rfl
   obtain ⟨gC,qN,lR,tX,tY⟩:=Ay mE
   have ih:=Im (P:=P) (ops:=ops) hK l is
   have hl':is.length=l.length:=by simpa using hl
   have nC:∀ (j i:Nat) (op:bI),is[j]?=some i→l[j]?=some op→∃ o,ops[i]?=some o∧ny P ops C.N o=some op:=fun j i op h1 h2=>hc (j+1) i op (by simpa using h1) (by simpa using h2)
   simp only [wpOps,ho]
   unfold RW at h
   cases hg:kV (lk s.env) op.guard with
   | none=>simp [hg] at h
   | some b=>
     obtain ⟨aa,RF⟩:=R.rep
     have hw:=Bc RF mE hg
     cases b with
     | false=>
       rw [hg] at h
       rw [if_neg (by rw [hw];simp)]
       refine ih _ _ _ hl' nC h ⟨⟨aa,?_⟩,R.wo,R.h0⟩
       rw [tX]
       exact RF.HT tY Ia
     | true=>
       rw [hg] at h
       rw [if_pos hw]
       left
       obtain ⟨pre,us,sv,h1,h2,h3,h4⟩:=SJ qN h
       obtain ⟨g1,g2⟩:=vz h3
       refine h1 C (aB s.h) w aa a _ _ _ _ qN h2 (Ho R (Nat.le_refl _) h3) RF.mem (xA RF lR) (fun v w' aK hS hR=>?_)
       refine ih _ _ _ hl' nC h4 ⟨⟨aK,?_⟩,Nat.le_trans R.wo g2,R.h0⟩
       rw [tX]
       have lA:=RF.step hS
       rw [← g1] at lA hR
       exact lA.HT tY hR
end Go.aL

namespace Go.aL
open Go
structure TE where
 fD:List Nat
 dst:Option Nat
 pre:List Nat
 us:List Nat
def nP:List XO→List Nat
 | []=>[]
 | .t n::r=>n::nP r
 | .c _::r=>nP r
def oK (op:bI):List Nat:=match op.guard with
 | some (d,_)=>d::nP op.xs
 | none=>nP op.xs
def qb (a b:List Nat):Bool:=a.all fun x=>!b.contains x
def mT (x y:TE):Bool:=
 (match x.dst with
  | some d=>!y.fD.contains d && !(y.dst == some d)
  | none=>true) &&
 (match y.dst with
  | some d=>!x.fD.contains d
  | none=>true) && qb x.us y.pre && qb x.us y.us && qb y.us x.pre
def Eh (aZ:List (List Nat)) (i:Nat) (x:TE):Nat→List TE→Bool
 | _,[]=>true
 | j,y::r=>((aZ.getD j []).contains i || mT x y) && Eh aZ i x (j+1) r
def Ly (aZ:List (List Nat)):Nat→List TE→Bool
 | _,[]=>true
 | i,x::r=>Eh aZ i x (i+1) r && Ly aZ (i+1) r
def ki (o:Oper):List Nat:=(o.after.toList.filter (fun e=>Region.binds .any e)).map (·.on)
inductive EN where
 | skip
 | run (args:List SV) (pre us:List (Nat×HB)) (sv:SV)
def Cp (op:bI) (s:St):EN→St
 | .skip=>⟨gf op.dst (.aP []) s.env,s.h⟩
 | .run _ _ us sv=>⟨gf op.dst sv s.env,mh s.h us⟩
def jb (op:bI):EN→TE
 | .skip=>⟨oK op,op.dst,[],[]⟩
 | .run _ pre us _=>⟨oK op,op.dst,pre.map (·.1),us.map (·.1)⟩
def Tr (P:Program) (ops:Array Oper):Nat→List bI→St→List EN→St→Prop
 | _,[],s,[],s'=>s=s'
 | i,op::l,s,e::es,s'=>(match e with
    | .skip=>kV (lk s.env) op.guard=some false
    | .run args pre us sv=>kV (lk s.env) op.guard=some true∧args=op.xs.map (je (lk s.env))∧(∀ o,ops[i]?=some o→oT P o args pre us sv)∧aY (aB s.h) pre∧bq pre s.h us)∧Tr P ops (i+1) l (Cp op s e) es s'
 | _,_,_,_,_=>False
def fK:List bI→List EN→St→Nat→St
 | op::l,e::es,s,i+1=>fK l es (Cp op s e) i
 | _,_,s,_=>s
theorem Tr.length {P:Program} {ops:Array Oper}:∀ {l:List bI} {i:Nat} {s s':St} {es:List EN},Tr P ops i l s es s'→es.length=l.length
 | [],i,s,s',[],_=>rfl
 | [],i,s,s',_::_,h=>h.elim
 | _::_,i,s,s',[],h=>h.elim
 | op::l,i,s,s',e::es,h=>by simp [Tr.length h.2]
theorem Tr.last {P:Program} {ops:Array Oper}:∀ {l:List bI} {i:Nat} {s s':St} {es:List EN},Tr P ops i l s es s'→fK l es s l.length=s'
 | [],i,s,s',[],h=>h
 | [],i,s,s',_::_,h=>h.elim
 | _::_,i,s,s',[],h=>h.elim
 | op::l,i,s,s',e::es,h=>by simpa [fK] using Tr.last h.2
theorem Tr.at_ {P:Program} {ops:Array Oper}:∀ {l:List bI} {i:Nat} {s s':St} {es:List EN},Tr P ops i l s es s'→∀ (j:Nat) (op:bI),l[j]?=some op→∃ e,es[j]?=some e∧fK l es s (j+1)=Cp op (fK l es s j) e∧(match e with
 | .skip=>kV (lk (fK l es s j).env) op.guard=some false
 | .run args pre us sv=>kV (lk (fK l es s j).env) op.guard=some true∧args=op.xs.map (je (lk (fK l es s j).env))∧(∀ o,ops[i+j]?=some o→oT P o args pre us sv)∧aY (aB (fK l es s j).h) pre∧bq pre (fK l es s j).h us)
 | [],i,s,s',es,h,j,op,hj=>by simp at hj
 | _::_,i,s,s',[],h,_,_,_=>h.elim
 | WN::l,i,s,s',e::es,h,j,op,hj=>by
   cases j with
   | zero=>
     simp at hj;subst hj
     refine ⟨e,rfl,?_,?_⟩
     ·cases l <;> cases es <;> rfl
     ·have:=h.1
      cases e <;> exact this
   | succ j=>
     have:=Tr.at_ h.2 j op (by simpa using hj)
     obtain ⟨e',h1,h2,h3⟩:=this
     refine ⟨e',by simpa using h1,h2,?_⟩
     rw [show i+(j+1)=i+1+j by omega]
     exact h3
theorem IY {l:List bI} {es:List EN} {s:St} (P:Program) (ops:Array Oper) {i:Nat} {s':St} (h:Tr P ops i l s es s'):∀ j,j≤l.length→s.h.length≤(fK l es s j).h.length:=fun j=>by
 induction j with
 | zero=>intro _;cases l <;> cases es <;> exact Nat.le_refl _
 | succ j ih=>
   intro hj
   obtain ⟨e,h1,h2,h3⟩:=h.at_ j _ (List.getElem?_eq_getElem (by omega))
   rw [h2]
   refine Nat.le_trans (ih (by omega)) ?_
   cases e with
   | skip=>exact Nat.le_refl _
   | run args pre us sv=>exact (vz h3.2.2.2.2).2
def cnt (L:Nat→Bool):Nat→Nat
 | 0=>0
 | n+1=>cnt L n+(if L n then 0 else 1)
theorem Ec {L L':Nat→Bool}:∀ {n:Nat},(∀ i,i<n→L' i=L i)→cnt L' n=cnt L n
 | 0,_=>rfl
 | n+1,h=>by rw [cnt,cnt,Ec (fun i hi=>h i (by omega)),h n (by omega)]
theorem Ee {L L':Nat→Bool} {j:Nat} (hj:L j=false) (hj':L' j=true) (ho:∀ i,i≠j→L' i=L i):∀ {n:Nat},j<n→cnt L n=cnt L' n+1
 | n+1,h=>by
   rw [cnt,cnt]
   by_cases hn:j=n
   ·subst hn
    rw [Ec (L:=L) (L':=L') (fun i hi=>ho i (by omega)),hj,hj'];simp
   ·rw [Ee hj hj' ho (n:=n) (by omega),ho n (fun e=>hn e.symm)];omega
theorem Ef {L:Nat→Bool}:∀ {n:Nat},cnt L n=0→∀ i,i<n→L i=true
 | n+1,h,i,hi=>by
   rw [cnt] at h
   by_cases hn:i=n
   ·subst hn;cases hL:L i with
    | true=>rfl
    | false=>simp [hL] at h
   ·exact Ef (n:=n) (by omega) i (by omega)
theorem Ea (L:Nat→Bool):∀ n,cnt L n≤n
 | 0=>Nat.le_refl _
 | n+1=>by rw [cnt];have:=Ea L n;split <;> omega
theorem wU {hp aD:Hp}:∀ {us:List (Nat×HB)} {id:Nat},id∈us.map (·.1)→bM hp us id=bM aD us id
 | [],id,h=>by simp at h
 | (i,hb)::r,id,h=>by
   by_cases hr:id∈r.map (·.1)
   ·rw [bM,bM];exact wU hr
   ·have hi:id=i:=by
     rcases List.mem_cons.1 h with h | h
     ·exact h
     ·exact absurd h hr
    subst hi
    have hne:∀ q∈r,q.1≠id:=fun q hq he=>hr (List.mem_map.2 ⟨q,hq,he⟩)
    rw [bM,bM,th hne,th hne,ct,ct]
theorem uD {α:Type} (f:Nat→α) (wr:Nat→Prop) (hs:∀ i,¬ wr i→f (i+1)=f i) {k j:Nat} (yI:k≤j) (h:∀ i,k≤i→i<j→¬ wr i):f j=f k:=by
 induction j with
 | zero=>have:k=0:=by omega
         rw [this]
 | succ j ih=>
   by_cases he:k=j+1
   ·rw [he]
   ·rw [hs j (h j (by omega) (by omega)),ih (by omega) (fun i h1 h2=>h i h1 (by omega))]
theorem yd {a b:List Nat} (h:qb a b=true) {x:Nat} (ha:x∈a) (hb:x∈b):False:=by
 unfold qb at h
 rw [List.all_eq_true] at h
 have:=h x ha
 simp at this
 exact this hb
structure jS (P:Program) (ops:Array Oper) (N:Nat) (l:List bI) (es:List EN) (s0 s1:St) (aZ:List (List Nat)):Prop where
 tr:Tr P ops 0 l s0 es s1
 size:ops.size=l.length
 comp:∀ (i:Nat) (op:bI),l[i]?=some op→∃ o,ops[i]?=some o∧ny P ops N o=some op
 back:∀ (i:Nat) (o:Oper),ops[i]?=some o→∀ k∈ki o,k<i
 KK:∀ (i:Nat) (o:Oper),ops[i]?=some o→∀ k∈aZ.getD i [],∃ (L:List Nat),(∀ x∈L,x∈ki o)∧(k∈L∨∃ x∈L,k∈aZ.getD x [])
 ok:∀ (a b:Nat) (Ct Cu:bI) (ea eb:EN),a<b→l[a]?=some Ct→l[b]?=some Cu→es[a]?=some ea→es[b]?=some eb→a∈aZ.getD b []∨mT (jb Ct ea) (jb Cu eb)=true
section
variable {P:Program} {ops:Array Oper} {N:Nat} {l:List bI} {es:List EN} {s0 s1:St} {aZ:List (List Nat)}
def qz (ops:Array Oper) (L:Nat→Bool):Prop:=∀ (i:Nat) (o:Oper),ops[i]?=some o→L i=true→∀ k∈ki o,L k=true
theorem jS.xB (H:jS P ops N l es s0 s1 aZ) {L:Nat→Bool} (hc:qz ops L):∀ (i:Nat) (o:Oper),ops[i]?=some o→(∀ k∈ki o,L k=true)→∀ k∈aZ.getD i [],L k=true:=by
 intro i
 induction i using Nat.strongRecOn with
 | _ i ih=>
   intro o ho hn k hk
   obtain ⟨ls,h1,h2⟩:=H.KK i o ho k hk
   rcases h2 with h2 | ⟨x,hx,h2⟩
   ·exact hn k (h1 k h2)
   ·have kE:=H.back i o ho x (h1 x hx)
    have hxs:x<ops.size:=by have:=(Array.getElem?_eq_some_iff.1 ho).1;omega
    have FD:=Array.getElem?_eq_getElem hxs
    exact ih x kE _ FD (hc x _ FD (hn x (h1 x hx))) k h2
structure Inv (l:List bI) (es:List EN) (s0:St) (L:Nat→Bool) (en:Nat→SV) (hp:Hp):Prop where
 env:∀ m,∃ k,k≤l.length∧en m=lk (fK l es s0 k).env m∧(∀ (i:Nat) (op:bI),i<k→l[i]?=some op→op.dst=some m→L i=true)∧(∀ (i:Nat) (op:bI),k≤i→l[i]?=some op→op.dst=some m→L i=false)
 heap:∀ id,∃ k,k≤l.length∧hp id=aB (fK l es s0 k).h id∧(∀ (i:Nat) (op:bI) (e:EN),i<k→l[i]?=some op→es[i]?=some e→id∈(jb op e).us→L i=true)∧(∀ (i:Nat) (op:bI) (e:EN),k≤i→l[i]?=some op→es[i]?=some e→id∈(jb op e).us→L i=false)
theorem jS.AR (H:jS P ops N l es s0 s1 aZ) (m i:Nat) (h:∀ op,l[i]?=some op→op.dst≠some m):lk (fK l es s0 (i+1)).env m=lk (fK l es s0 i).env m:=by
 cases hi:l[i]? with
 | none=>
   have hlen:∀ (l:List bI) (es:List EN) (s:St) (i:Nat),l.length≤i→fK l es s (i+1)=fK l es s i:=by
    intro l
    induction l with
    | nil=>intro es s i _;cases i <;> rfl
    | cons op l ih=>
      intro es s i hi
      cases es with
      | nil=>cases i <;> rfl
      | cons e es=>
        cases i with
        | zero=>simp at hi
        | succ i=>simp only [fK];exact ih es _ i (by simpa using hi)
   rw [hlen l es s0 i (List.getElem?_eq_none_iff.1 hi)]
 | some op=>
   obtain ⟨e,_,h2,_⟩:=H.tr.at_ i op hi
   rw [h2]
   have hd:=h op hi
   have hput:∀ v,lk (gf op.dst v (fK l es s0 i).env) m=lk (fK l es s0 i).env m:=fun v=>by
    cases lG:op.dst with
    | none=>rfl
    | some d=>
      rw [lG] at hd
      rw [gf,wB,gi _ _ (fun e=>hd (by rw [e]))]
   cases e <;> exact hput _
theorem jS.Bq (H:jS P ops N l es s0 s1 aZ) (id i:Nat) (h:∀ op e,l[i]?=some op→es[i]?=some e→id∉(jb op e).us):aB (fK l es s0 (i+1)).h id=aB (fK l es s0 i).h id:=by
 cases hi:l[i]? with
 | none=>
   have hlen:∀ (l:List bI) (es:List EN) (s:St) (i:Nat),l.length≤i→fK l es s (i+1)=fK l es s i:=by
    intro l
    induction l with
    | nil=>intro es s i _;cases i <;> rfl
    | cons op l ih=>
      intro es s i hi
      cases es with
      | nil=>cases i <;> rfl
      | cons e es=>
        cases i with
        | zero=>simp at hi
        | succ i=>simp only [fK];exact ih es _ i (by simpa using hi)
   rw [hlen l es s0 i (List.getElem?_eq_none_iff.1 hi)]
 | some op=>
   obtain ⟨e,he,h2,h3⟩:=H.tr.at_ i op hi
   rw [h2]
   have hd:=h op e hi he
   cases e with
   | skip=>rfl
   | run args pre us sv=>
     obtain ⟨_,_,_,_,hk⟩:=h3
     show aB (mh (fK l es s0 i).h us) id=_
     rw [(vz hk).1]
     exact th (fun q hq he=>hd (List.mem_map.2 ⟨q,hq,he⟩))
theorem jS.Js (H:jS P ops N l es s0 s1 aZ) {L:Nat→Bool} (hc:qz ops L) {j:Nat} {op:bI} {o:Oper} (hj:l[j]?=some op) (ho:ops[j]?=some o) (hL:L j=false) (hn:∀ k∈ki o,L k=true)
 {m:Nat} (hm:m∈oK op∨op.dst=some m) (i:Nat) (cl:bI) (hi:l[i]?=some cl) (hd:cl.dst=some m):(i<j→L i=true)∧(j<i→L i=false):=by
 obtain ⟨e,he,_⟩:=H.tr.at_ j op hj
 have hlen:=H.tr.length
 have fH:i<es.length:=by rw [hlen];exact (List.getElem?_eq_some_iff.1 hi).1
 have iY:=List.getElem?_eq_getElem fH
 have hdt:∀ e,(jb cl e).dst=some m:=fun e=>by cases e <;> exact hd
 have FI:∀ e,(jb op e).fD=oK op:=fun e=>by cases e <;> rfl
 have Fg:∀ e,(jb op e).dst=op.dst:=fun e=>by cases e <;> rfl
 refine ⟨fun hij=>?_,fun hji=>?_⟩
 ·rcases H.ok i j cl op _ e hij hi hj iY he with h | h
  ·exact H.xB hc j o ho hn i h
  ·exfalso
   simp only [mT,Bool.and_eq_true] at h
   have ha:=h.1.1.1.1
   rw [hdt] at ha
   rw [FI,Fg] at ha
   rcases hm with hm | hm
   ·simp [hm] at ha
   ·simp [hm] at ha
 ·cases Bd:L i with
  | false=>rfl
  | true=>
    exfalso
    rcases H.ok j i op cl e _ hji hj hi he iY with h | h
    ·have kW:=Array.getElem?_eq_getElem (xs:=ops) (i:=i) (by rw [H.size,← hlen];exact fH)
     have:=H.xB hc i _ kW (hc i _ kW Bd) j h
     rw [hL] at this;cases this
    ·simp only [mT,Bool.and_eq_true] at h
     have hb:=h.1.1.1.2
     have ha:=h.1.1.1.1
     rw [hdt] at hb
     rw [FI] at hb
     rw [Fg,hdt] at ha
     rcases hm with hm | hm
     ·simp [hm] at hb
     ·simp [hm] at ha
theorem jS.Tp (H:jS P ops N l es s0 s1 aZ) {L:Nat→Bool} (hc:qz ops L) {en:Nat→SV} {hp:Hp} (I:Inv l es s0 L en hp) {j:Nat} {op:bI} {o:Oper} (hj:l[j]?=some op) (ho:ops[j]?=some o) (hL:L j=false) (hn:∀ k∈ki o,L k=true)
 {m:Nat} (hm:m∈oK op∨op.dst=some m):en m=lk (fK l es s0 j).env m:=by
 obtain ⟨k,hk,h1,h2,h3⟩:=I.env m
 rw [h1]
 have hw:=H.Js hc hj ho hL hn hm
 by_cases yI:k≤j
 ·refine (uD (fun i=>lk (fK l es s0 i).env m) (fun i=>∃ cl,l[i]?=some cl∧cl.dst=some m) (fun i hi=>H.AR m i (fun op ho hd=>hi ⟨op,ho,hd⟩)) yI (fun i hi1 hi2 ⟨cl,ho,hd⟩=>?_)).symm
  have:=h3 i cl hi1 ho hd
  rw [(hw i cl ho hd).1 hi2] at this;cases this
 ·refine uD (fun i=>lk (fK l es s0 i).env m) (fun i=>∃ cl,l[i]?=some cl∧cl.dst=some m) (fun i hi=>H.AR m i (fun op ho hd=>hi ⟨op,ho,hd⟩)) (by omega) (fun i hi1 hi2 ⟨cl,ho,hd⟩=>?_)
  have:=h2 i cl hi2 ho hd
  by_cases hij:i=j
  ·subst hij;rw [hL] at this;cases this
  ·rw [(hw i cl ho hd).2 (by omega)] at this;cases this
theorem jS.Ju (H:jS P ops N l es s0 s1 aZ) {L:Nat→Bool} (hc:qz ops L) {j:Nat} {op:bI} {e:EN} {o:Oper} (hj:l[j]?=some op) (he:es[j]?=some e) (ho:ops[j]?=some o) (hL:L j=false) (hn:∀ k∈ki o,L k=true)
 {id:Nat} (hm:id∈(jb op e).pre∨id∈(jb op e).us) (i:Nat) (cl:bI) (ei:EN) (hi:l[i]?=some cl) (iY:es[i]?=some ei) (hd:id∈(jb cl ei).us):(i<j→L i=true)∧(j<i→L i=false):=by
 have hlen:=H.tr.length
 refine ⟨fun hij=>?_,fun hji=>?_⟩
 ·rcases H.ok i j cl op _ e hij hi hj iY he with h | h
  ·exact H.xB hc j o ho hn i h
  ·exfalso
   simp only [mT,Bool.and_eq_true] at h
   rcases hm with hm | hm
   ·exact yd h.1.1.2 hd hm
   ·exact yd h.1.2 hd hm
 ·cases Bd:L i with
  | false=>rfl
  | true=>
    exfalso
    rcases H.ok j i op cl e _ hji hj hi he iY with h | h
    ·have fH:i<es.length:=(List.getElem?_eq_some_iff.1 iY).1
     have kW:=Array.getElem?_eq_getElem (xs:=ops) (i:=i) (by rw [H.size,← hlen];exact fH)
     have:=H.xB hc i _ kW (hc i _ kW Bd) j h
     rw [hL] at this;cases this
    ·simp only [mT,Bool.and_eq_true] at h
     rcases hm with hm | hm
     ·exact yd h.2 hd hm
     ·exact yd h.1.2 hm hd
theorem jS.HV (H:jS P ops N l es s0 s1 aZ) {L:Nat→Bool} (hc:qz ops L) {en:Nat→SV} {hp:Hp} (I:Inv l es s0 L en hp) {j:Nat} {op:bI} {e:EN} {o:Oper} (hj:l[j]?=some op) (he:es[j]?=some e) (ho:ops[j]?=some o) (hL:L j=false) (hn:∀ k∈ki o,L k=true)
 {id:Nat} (hm:id∈(jb op e).pre∨id∈(jb op e).us):hp id=aB (fK l es s0 j).h id:=by
 obtain ⟨k,hk,h1,h2,h3⟩:=I.heap id
 rw [h1]
 have hw:=H.Ju hc hj he ho hL hn hm
 by_cases yI:k≤j
 ·refine (uD (fun i=>aB (fK l es s0 i).h id) (fun i=>∃ cl ei,l[i]?=some cl∧es[i]?=some ei∧id∈(jb cl ei).us) (fun i hi=>H.Bq id i (fun op e ho he hd=>hi ⟨op,e,ho,he,hd⟩)) yI (fun i hi1 hi2 ⟨cl,ei,ho,iY,hd⟩=>?_)).symm
  have:=h3 i cl ei hi1 ho iY hd
  rw [(hw i cl ei ho iY hd).1 hi2] at this;cases this
 ·refine uD (fun i=>aB (fK l es s0 i).h id) (fun i=>∃ cl ei,l[i]?=some cl∧es[i]?=some ei∧id∈(jb cl ei).us) (fun i hi=>H.Bq id i (fun op e ho he hd=>hi ⟨op,e,ho,he,hd⟩)) (by omega) (fun i hi1 hi2 ⟨cl,ei,ho,iY,hd⟩=>?_)
  have:=h2 i cl ei hi2 ho iY hd
  by_cases hij:i=j
  ·subst hij;rw [hL] at this;cases this
  ·rw [(hw i cl ei ho iY hd).2 (by omega)] at this;cases this
def me (L:Nat→Bool) (j:Nat):Nat→Bool:=fun i=>if i=j then true else L i
theorem jS.FW (H:jS P ops N l es s0 s1 aZ) {L:Nat→Bool} (hc:qz ops L) {en:Nat→SV} {hp:Hp} (I:Inv l es s0 L en hp) {j:Nat} {op:bI} {e:EN} {o:Oper} (hj:l[j]?=some op) (he:es[j]?=some e) (ho:ops[j]?=some o) (hL:L j=false) (hn:∀ k∈ki o,L k=true)
 {qc:Nat→SV} {aD:Hp} (h1:∀ m,op.dst=some m→qc m=lk (fK l es s0 (j+1)).env m) (h2:∀ m,op.dst≠some m→qc m=en m) (h3:∀ id,id∈(jb op e).us→aD id=aB (fK l es s0 (j+1)).h id) (h4:∀ id,id∉(jb op e).us→aD id=hp id) :
 Inv l es s0 (me L j) qc aD:=by
 have hjl:=(List.getElem?_eq_some_iff.1 hj).1
 have zX:∀ i,L i=true→me L j i=true:=fun i h=>by unfold me;split <;> simp [h]
 refine ⟨fun m=>?_,fun id=>?_⟩
 ·by_cases hm:op.dst=some m
  ·have hw:=H.Js hc hj ho hL hn (.inr hm)
   refine ⟨j+1,by omega,h1 m hm,fun i cl hi ho hd=>?_,fun i cl hi ho hd=>?_⟩
   ·by_cases hij:i=j
    ·subst hij;simp [me]
    ·exact zX i ((hw i cl ho hd).1 (by omega))
   ·unfold me
    rw [if_neg (by omega)]
    exact (hw i cl ho hd).2 (by omega)
  ·obtain ⟨k,g1,g2,g3,g4⟩:=I.env m
   refine ⟨k,g1,(h2 m hm).trans g2,fun i cl hi ho hd=>zX i (g3 i cl hi ho hd),fun i cl hi kW hd=>?_⟩
   unfold me
   by_cases hij:i=j
   ·subst hij;rw [hj] at kW;cases kW;exact absurd hd hm
   ·rw [if_neg hij];exact g4 i cl hi kW hd
 ·by_cases hm:id∈(jb op e).us
  ·have hw:=H.Ju hc hj he ho hL hn (.inr hm)
   refine ⟨j+1,by omega,h3 id hm,fun i cl ei hi ho iY hd=>?_,fun i cl ei hi ho iY hd=>?_⟩
   ·by_cases hij:i=j
    ·subst hij;simp [me]
    ·exact zX i ((hw i cl ei ho iY hd).1 (by omega))
   ·unfold me
    rw [if_neg (by omega)]
    exact (hw i cl ei ho iY hd).2 (by omega)
  ·obtain ⟨k,g1,g2,g3,g4⟩:=I.heap id
   refine ⟨k,g1,(h4 id hm).trans g2,fun i cl ei hi ho iY hd=>zX i (g3 i cl ei hi ho iY hd),fun i cl ei hi kW iY hd=>?_⟩
   unfold me
   by_cases hij:i=j
   ·subst hij;rw [hj] at kW;cases kW;rw [he] at iY;cases iY;exact absurd hd hm
   ·rw [if_neg hij];exact g4 i cl ei hi kW iY hd
theorem jS.OE (H:jS P ops N l es s0 s1 aZ) {L:Nat→Bool} {en:Nat→SV} {hp:Hp} (I:Inv l es s0 L en hp) (hall:∀ i,i<l.length→L i=true):en=lk s1.env∧hp=aB s1.h:=by
 have Fw:=H.tr.last
 refine ⟨funext fun m=>?_,funext fun id=>?_⟩
 ·obtain ⟨k,g1,g2,g3,g4⟩:=I.env m
  rw [g2,← Fw]
  refine (uD (fun i=>lk (fK l es s0 i).env m) (fun i=>∃ cl,l[i]?=some cl∧cl.dst=some m) (fun i hi=>H.AR m i (fun op ho hd=>hi ⟨op,ho,hd⟩)) g1 (fun i hi1 hi2 ⟨cl,ho,hd⟩=>?_)).symm
  have:=g4 i cl hi1 ho hd
  rw [hall i hi2] at this;cases this
 ·obtain ⟨k,g1,g2,g3,g4⟩:=I.heap id
  rw [g2,← Fw]
  refine (uD (fun i=>aB (fK l es s0 i).h id) (fun i=>∃ cl ei,l[i]?=some cl∧es[i]?=some ei∧id∈(jb cl ei).us) (fun i hi=>H.Bq id i (fun op e ho he hd=>hi ⟨op,e,ho,he,hd⟩)) g1 (fun i hi1 hi2 ⟨cl,ei,ho,iY,hd⟩=>?_)).symm
  have:=g4 i cl ei hi1 ho iY hd
  rw [hall i hi2] at this;cases this
def Lf (listed:Array Bool) (i:Nat):Bool:=listed.getD i false
theorem CD {listed:Array Bool} (hs:listed.size=ops.size) {i:Nat}:i∈Region.ready .any ops listed↔i<ops.size∧Lf listed i=false∧∀ o,ops[i]?=some o→∀ k∈ki o,Lf listed k=true:=by
 unfold Region.ready
 rw [List.mem_filter,List.mem_range]
 constructor
 ·rintro ⟨h1,h2⟩
  simp only [Bool.and_eq_true,Bool.not_eq_true'] at h2
  refine ⟨h1,?_,fun o ho k hk=>?_⟩
  ·have:=h2.1
   simp only [Lf,Array.getD_eq_getD_getElem?] at this ⊢
   cases hx:listed[i]? with
   | none=>simp [hx] at this
   | some x=>simp [hx] at this ⊢;exact this
  ·have h3:=h2.2
   rw [ho] at h3
   simp only [Option.map_some,Option.getD_some,Array.all_eq_true'] at h3
   unfold ki at hk
   obtain ⟨e,he,rfl⟩:=List.mem_map.1 hk
   obtain ⟨sD,NA⟩:=List.mem_filter.1 he
   have:=h3 e (by simpa using sD)
   simp [NA] at this
   simpa [Lf] using this
 ·rintro ⟨h1,h2,h3⟩
  refine ⟨h1,?_⟩
  have ho:=Array.getElem?_eq_getElem h1
  simp only [Bool.and_eq_true,Bool.not_eq_true']
  refine ⟨?_,?_⟩
  ·simp only [Lf,Array.getD_eq_getD_getElem?] at h2 ⊢
   have hx:=Array.getElem?_eq_getElem (xs:=listed) (i:=i) (by omega)
   rw [hx] at h2 ⊢
   exact h2
  ·rw [ho]
   simp only [Option.map_some,Option.getD_some,Array.all_eq_true']
   intro e he
   cases hb:Region.binds .any e with
   | false=>simp
   | true=>
     have:=h3 _ ho e.on (List.mem_map.2 ⟨e,List.mem_filter.2 ⟨by simpa using he,hb⟩,rfl⟩)
     simpa [Lf] using this
theorem Sq {xs:List XO} {n:Nat} (h:XO.t n∈xs):n∈nP xs:=by
 induction xs with
 | nil=>simp at h
 | cons x r ih=>
   rcases List.mem_cons.1 h with rfl | h'
   ·simp [nP]
   ·cases x with
    | t m=>simp [nP,ih h']
    | c s=>exact ih h'
theorem LN {en qc:Nat→SV} {xs:List XO} (h:∀ n,n∈nP xs→en n=qc n):xs.map (je en)=xs.map (je qc):=by
 refine List.map_congr_left (fun x hx=>?_)
 cases x with
 | t n=>exact h n (Sq hx)
 | c s=>rfl
theorem Mm {en qc:Nat→SV} {op:bI} (h:∀ n,n∈oK op→en n=qc n):kV en op.guard=kV qc op.guard:=by
 cases hg:op.guard with
 | none=>rfl
 | some q=>
   obtain ⟨d,b⟩:=q
   simp only [kV]
   rw [h d (by simp [oK,hg])]
theorem TL (H:jS P ops N l es s0 s1 aZ) {C:Ctx} (hN:C.N=N) {n0:Nat} (hn0:n0≤s0.h.length) (NJ:∀ id,n0≤id→C.h0 id=none) {Q:Exit→Act→World→Prop} (hQ:∀ a w aa,kr C (lk s1.env) (aB s1.h) a w aa→Q .normal a w) :
 ∀ (fuel:Nat) (listed:Array Bool) (en:Nat→SV) (hp:Hp) (a:Act) (w:World) (aa:Nat→Option Nat),listed.size=ops.size→cnt (Lf listed) l.length≤fuel→qz ops (Lf listed)→Inv l es s0 (Lf listed) en hp→kr C en hp a w aa→
  wpAny P .any ops Q fuel listed a w:=by
 have Nq:∀ listed:Array Bool,listed.size=ops.size→Region.ready .any ops listed=[]→∀ i,i<l.length→Lf listed i=true:=fun listed hs hr i=>by
  induction i using Nat.strongRecOn with
  | _ i ih=>
    intro hi
    cases hL:Lf listed i with
    | true=>rfl
    | false=>
      have:i∈Region.ready .any ops listed:=(CD hs).2 ⟨by rw [H.size];exact hi,hL,fun o ho k hk=>ih k (H.back i o ho k hk) (by have:=H.back i o ho k hk;omega)⟩
      rw [hr] at this;cases this
 have vw:∀ (listed:Array Bool) (en:Nat→SV) (hp:Hp) (a:Act) (w:World) (aa:Nat→Option Nat),(∀ i,i<l.length→Lf listed i=true)→Inv l es s0 (Lf listed) en hp→kr C en hp a w aa→Q .normal a w:=fun listed en hp a w aa hall I R=>by
  obtain ⟨rfl,rfl⟩:=H.OE I hall
  exact hQ a w aa R
 intro fuel
 induction fuel with
 | zero=>
   intro listed en hp a w aa hs vq hc I R
   have hall:=Ef (Nat.le_zero.1 vq)
   refine ⟨?_,vw listed en hp a w aa hall I R⟩
   cases hr:Region.ready .any ops listed with
   | nil=>rfl
   | cons i r=>
     have hm:i∈Region.ready .any ops listed:=by rw [hr];simp
     obtain ⟨h1,h2,_⟩:=(CD hs).1 hm
     rw [hall i (by rw [← H.size];exact h1)] at h2;cases h2
 | succ fuel ih=>
   intro listed en hp a w aa hs vq hc I R
   refine ⟨fun hr=>vw listed en hp a w aa (Nq listed hs hr) I R,fun j hj=>?_⟩
   obtain ⟨Fq,hL,hn⟩:=(CD hs).1 hj
   have hjl:j<l.length:=by rw [← H.size];exact Fq
   have hop:=List.getElem?_eq_getElem hjl
   obtain ⟨o,ho,mE⟩:=H.comp j _ hop
   obtain ⟨e,he,hst,FJ⟩:=H.tr.at_ j _ hop
   obtain ⟨gC,qN,lR,tX,tY⟩:=Ay mE
   have hn':=hn o ho
   have hrd:∀ m,m∈oK l[j]→en m=lk (fK l es s0 j).env m:=fun m hm=>H.Tp hc I hop ho hL hn' (.inl hm)
   have Fo:=Mm hrd
   have yy:Lf (listed.setIfInBounds j true)=me (Lf listed) j:=by
    funext i
    simp only [Lf,me,Array.getD_eq_getD_getElem?,Array.getElem?_setIfInBounds]
    by_cases hij:j=i
    ·subst hij;simp [hs,Fq]
    ·rw [if_neg hij,if_neg (Ne.symm hij)]
   have Fc:cnt (Lf (listed.setIfInBounds j true)) l.length≤fuel:=by
    rw [yy]
    have:=Ee (L:=Lf listed) (L':=me (Lf listed) j) hL (by simp [me]) (fun i hi=>by simp [me,hi]) hjl
    omega
   have nC:qz ops (Lf (listed.setIfInBounds j true)):=by
    rw [yy]
    intro i oi kW hi k hk
    unfold me at hi ⊢
    by_cases hij:i=j
    ·subst hij
     rw [ho] at kW;cases kW
     split
     ·rfl
     ·exact hn' k hk
    ·rw [if_neg hij] at hi
     split
     ·rfl
     ·exact hc i oi kW hi k hk
   unfold wpOp
   rw [ho]
   simp only
   cases e with
   | skip=>
     have hg:kV en l[j].guard=some false:=by rw [Fo];exact FJ
     have hw:=Bc R mE hg
     rw [if_neg (by rw [hw];simp)]
     have Bp:∀ m,l[j].dst=some m→m<C.N:=fun m hm=>by rw [hN];exact tY m hm
     have R':kr C (match l[j].dst with | some d=>up en d (.aP []) | none=>en) hp (a.put o.dst undef) w aa:=by
      rw [tX]
      cases hd:l[j].dst with
      | none=>exact R
      | some d=>exact R.put (Bp d hd) Ia
     refine ih _ _ _ _ _ _ (by simpa using hs) Fc nC ?_ R'
     rw [yy]
     refine H.FW hc I hop he ho hL hn' (fun m hm=>?_) (fun m hm=>?_) (fun id hid=>by simp [jb] at hid) (fun id _=>rfl)
     ·rw [hst]
      show _=lk (gf l[j].dst (.aP []) (fK l es s0 j).env) m
      rw [hm];simp only [gf,wB,ct]
     ·cases hd:l[j].dst with
      | none=>rfl
      | some d=>rw [hd] at hm;exact gi _ _ (fun e=>hm (by rw [e]))
   | run args pre us sv=>
     obtain ⟨t1,t2,t3,t4,t5⟩:=FJ
     have hg:kV en l[j].guard=some true:=by rw [Fo];exact t1
     have hw:=Bc R mE hg
     rw [if_pos hw]
     left
     have NX:∀ m,m∈nP l[j].xs→en m=lk (fK l es s0 j).env m:=fun m hm=>hrd m (by
      unfold oK
      cases l[j].guard with
      | none=>exact hm
      | some q=>exact List.mem_cons_of_mem _ hm)
     have hargs:args=l[j].xs.map (je en):=by rw [t2];exact (LN NX).symm
     have hpre:∀ id,id∈pre.map (·.1)→hp id=aB (fK l es s0 j).h id:=fun id hid=>H.HV hc I hop he ho hL hn' (.inl hid)
     have kD:∀ id,id∈us.map (·.1)→hp id=aB (fK l es s0 j).h id:=fun id hid=>H.HV hc I hop he ho hL hn' (.inr hid)
     have WG:=IY P ops H.tr j (by omega)
     have hnew:rR C hp pre us:=by
      have gen:∀ {us:List (Nat×HB)} {h:List (Option HB)},(fK l es s0 j).h.length≤h.length→bq pre h us→∀ q∈us,(∃ hb,(q.1,hb)∈pre)∨(fK l es s0 j).h.length≤q.1:=by
       intro us
       induction us with
       | nil=>intro h _ _ q hq;simp at hq
       | cons p r Oo=>
         intro h hl hk q hq
         rcases List.mem_cons.1 hq with rfl | hq
         ·rcases hk.1 with h1 | ⟨_,h1⟩
          ·exact .inr (by omega)
          ·exact .inl h1
         ·exact Oo (h:=aX h p) (by have:=uM h p;omega) hk.2 q hq
      intro q hq
      rcases gen (Nat.le_refl _) t5 q hq with h | h
      ·exact .inl h
      ·refine .inr ⟨?_,NJ _ (by omega)⟩
       rw [kD q.1 (List.mem_map.2 ⟨q,hq,rfl⟩)]
       unfold aB
       rw [List.getElem?_eq_none (by omega)]
     refine t3 o (by simpa using ho) C hp w aa a _ _ _ _ qN (fun q hq=>?_) hnew R.mem (by rw [hargs];exact xA R lR) (fun v w' aK hS hR=>?_)
     ·rw [hpre q.1 (List.mem_map.2 ⟨q,hq,rfl⟩)];exact t4 q hq
     ·have Bp:∀ m,l[j].dst=some m→m<C.N:=fun m hm=>by rw [hN];exact tY m hm
      have R':kr C (match l[j].dst with | some d=>up en d sv | none=>en) (bM hp us) (a.put o.dst v) w' aK:=by
       rw [tX]
       have RS:=R.step hS
       cases hd:l[j].dst with
       | none=>exact RS
       | some d=>exact RS.put (Bp d hd) hR
      refine ih _ _ _ _ _ _ (by simpa using hs) Fc nC ?_ R'
      rw [yy]
      refine H.FW hc I hop he ho hL hn' (fun m hm=>?_) (fun m hm=>?_) (fun id hid=>?_) (fun id hid=>?_)
      ·rw [hst]
       show _=lk (gf l[j].dst sv (fK l es s0 j).env) m
       rw [hm];simp only [gf,wB,ct]
      ·cases hd:l[j].dst with
       | none=>rfl
       | some d=>rw [hd] at hm;exact gi _ _ (fun e=>hm (by rw [e]))
      ·rw [hst]
       show _=aB (mh (fK l es s0 j).h us) id
       rw [(vz t5).1]
       exact wU hid
      ·exact th (fun q hq he=>hid (List.mem_map.2 ⟨q,hq,he⟩))
end
end Go.aL

namespace Go.aL
open Go
def nW:List Oper→List Nat→List Nat
 | [],acc=>acc
 | o::r,acc=>nW r (acc++[(ki o).foldl (fun m k=>m ||| 2 ^ k ||| acc.getD k 0) 0])
theorem EP (acc:List Nat) (k:Nat):∀ (l:List Nat) (m:Nat),(l.foldl (fun m k=>m ||| 2 ^ k ||| acc.getD k 0) m).testBit k=true→m.testBit k=true∨k∈l∨∃ x∈l,(acc.getD x 0).testBit k=true
 | [],m,h=>.inl h
 | x::l,m,h=>by
   rw [List.foldl_cons] at h
   rcases EP acc k l _ h with h | h | ⟨y,hy,h⟩
   ·rw [Nat.testBit_or,Nat.testBit_or,Nat.testBit_two_pow] at h
    simp only [Bool.or_eq_true,decide_eq_true_eq] at h
    rcases h with (h | h) | h
    ·exact .inl h
    ·exact .inr (.inl (by simp [h]))
    ·exact .inr (.inr ⟨x,by simp,h⟩)
   ·exact .inr (.inl (by simp [h]))
   ·exact .inr (.inr ⟨y,by simp [hy],h⟩)
theorem Aj:∀ (ops:List Oper) (acc:List Nat) (x:Nat),x<acc.length→(nW ops acc).getD x 0=acc.getD x 0
 | [],acc,x,_=>rfl
 | o::r,acc,x,h=>by
   unfold nW
   rw [Aj r _ x (by simp;omega)]
   simp only [List.getD_eq_getElem?_getD,List.getElem?_append_left h]
theorem DC:∀ (ops:List Oper) (acc:List Nat) (i:Nat) (o:Oper),ops[i]?=some o→∀ k,((nW ops acc).getD (acc.length+i) 0).testBit k=true→k∈ki o∨∃ x∈ki o,((nW ops acc).getD x 0).testBit k=true
 | [],acc,i,o,h,k,_=>by simp at h
 | p::r,acc,i,o,h,k,hk=>by
   cases i with
   | zero=>
     simp only [List.getElem?_cons_zero,Option.some.injEq] at h
     subst h
     unfold nW at hk ⊢
     rw [Aj r _ _ (by simp)] at hk
     simp only [Nat.add_zero,List.getD_eq_getElem?_getD,List.getElem?_concat_length,Option.getD_some] at hk
     rcases EP acc k (ki p) 0 (by simpa [List.getD_eq_getElem?_getD] using hk) with hk | hk | ⟨x,hx,hk⟩
     ·simp at hk
     ·exact .inl hk
     ·refine .inr ⟨x,hx,?_⟩
      have hl:x<acc.length:=by
       by_cases hl:x<acc.length
       ·exact hl
       ·rw [List.getD_eq_getElem?_getD,List.getElem?_eq_none (by omega)] at hk;simp at hk
      rw [Aj r _ x (by simp;omega)]
      simp only [List.getD_eq_getElem?_getD,List.getElem?_append_left hl]
      simpa [List.getD_eq_getElem?_getD] using hk
   | succ i=>
     unfold nW at hk ⊢
     refine DC r _ i o (by simpa using h) k ?_
     have:(acc++[(ki p).foldl (fun m k=>m ||| 2 ^ k ||| acc.getD k 0) 0]).length+i=acc.length+(i+1):=by simp;omega
     rw [this];exact hk
def qI (aZ:List Nat) (i:Nat) (x:TE):Nat→List TE→Bool
 | _,[]=>true
 | j,y::r=>((aZ.getD j 0).testBit i || mT x y) && qI aZ i x (j+1) r
def oY (aZ:List Nat):Nat→List TE→Bool
 | _,[]=>true
 | i,x::r=>qI aZ i x (i+1) r && oY aZ (i+1) r
theorem Ei {aZ:List Nat} {i:Nat} {x:TE}:∀ {l:List TE} {j:Nat},qI aZ i x j l=true→∀ (k:Nat) (y:TE),l[k]?=some y→(aZ.getD (j+k) 0).testBit i=true∨mT x y=true
 | [],j,_,k,y,h=>by simp at h
 | z::r,j,hc,k,y,h=>by
   simp only [qI,Bool.and_eq_true,Bool.or_eq_true] at hc
   cases k with
   | zero=>simp at h;subst h;exact hc.1
   | succ k=>
     have:=Ei hc.2 k y (by simpa using h)
     rwa [show j+1+k=j+(k+1) by omega] at this
theorem Ej {aZ:List Nat}:∀ {l:List TE} {i:Nat},oY aZ i l=true→∀ (a b:Nat) (x y:TE),a<b→l[a]?=some x→l[b]?=some y→(aZ.getD (i+b) 0).testBit (i+a)=true∨mT x y=true
 | [],i,_,a,b,x,y,_,h,_=>by simp at h
 | z::r,i,hc,a,b,x,y,hab,hx,hy=>by
   simp only [oY,Bool.and_eq_true] at hc
   cases b with
   | zero=>omega
   | succ b=>
     simp only [List.getElem?_cons_succ] at hy
     cases a with
     | zero=>
       simp at hx;subst hx
       have:=Ei hc.1 b y hy
       rwa [show i+1+b=i+(b+1) by omega] at this
     | succ a=>
       simp only [List.getElem?_cons_succ] at hx
       have:=Ej hc.2 a b x y (by omega) hx hy
       rwa [show i+1+b=i+(b+1) by omega,show i+1+a=i+(a+1) by omega] at this
def Ak (n:Nat) (aZ:List Nat):List (List Nat):=aZ.map fun m=>(List.range n).filter fun k=>m.testBit k
theorem Cm {n:Nat} {aZ:List Nat} {i k:Nat}:k∈(Ak n aZ).getD i []↔k<n∧(aZ.getD i 0).testBit k=true:=by
 unfold Ak
 rw [List.getD_eq_getElem?_getD,List.getElem?_map,List.getD_eq_getElem?_getD]
 cases h:aZ[i]? with
 | none=>simp
 | some m=>simp
def uV:Nat→List Oper→Bool
 | _,[]=>true
 | i,o::r=>(ki o).all (·< i) && uV (i+1) r
theorem DA:∀ {ops:List Oper} {i:Nat},uV i ops=true→∀ (j:Nat) (o:Oper),ops[j]?=some o→∀ k∈ki o,k<i+j
 | [],i,_,j,o,h,_,_=>by simp at h
 | p::r,i,hb,j,o,h,k,hk=>by
   simp only [uV,Bool.and_eq_true,List.all_eq_true,decide_eq_true_eq] at hb
   cases j with
   | zero=>simp at h;subst h;exact hb.1 k hk
   | succ j=>have:=DA hb.2 j o (by simpa using h) k hk;omega
def Dg:Option (Nat×HB)→List Nat
 | none=>[]
 | some q=>[q.1]
def oR (P:Program) (f:FuncId) (args:List SV) (h:List (Option HB)) (K:SV→List (Option HB)→List Nat→List Nat→Prop):Prop:=
 ∃ pre us sv,aI P f args pre us sv∧aY (aB h) pre∧bq pre h us∧K sv (mh h us) (pre.map (·.1)) (us.map (·.1))
def xO (P:Program) (h:List (Option HB)) (K:SV→List (Option HB)→List Nat→List Nat→Prop):List SV→Prop
 | .fn f caps::args=>oR P f (args++caps) h K
 | .fG f caps::args=>oR P f (caps++args) h K
 | _=>False
def vW (P:Program) (name:String) (h:List (Option HB)) (K:SV→List (Option HB)→List Nat→List Nat→Prop):List SV→Prop
 | s::args=>match oB s with
   | some (t,x)=>match oD P t name with
     | some (f,none)=>oR P f (x::args) h K
     | some (f,some (n,agg))=>match iz n agg (aB h) x with
       | some (p,y,_,rd)=>p∧oR P f (y::args) h fun sv h' pre us=>K sv h' (rd++pre) us
       | none=>False
     | none=>False
   | none=>False
 | _=>False
def zx (h:List (Option HB)) (K:SV→List (Option HB)→List Nat→List Nat→Prop):XR→Prop
 | some (p,sv,u,rd)=>p∧K sv (wT h u) rd (Dg u)
 | none=>False
def sV (P:Program) (ao:AO) (args:List SV) (h:List (Option HB)) (K:SV→List (Option HB)→List Nat→List Nat→Prop):Prop:=
 match ao with
 | .call f=>oR P f args h K
 | .oc=>xO P h K args
 | .inv name=>vW P name h K args
 | ao=>zx h K (bY ao args (aB h) h.length)
def RD (P:Program) (aZ:List Nat) (K:St→Prop):List bI→List TE→St→Prop
 | [],acc,s=>oY aZ 0 acc=true∧K s
 | op::r,acc,s=>match kV (lk s.env) op.guard with
   | some true=>sV P op.ao (op.xs.map (je (lk s.env))) s.h fun sv h' pre us=>RD P aZ K r (acc++[⟨oK op,op.dst,pre,us⟩]) ⟨gf op.dst sv s.env,h'⟩
   | some false=>RD P aZ K r (acc++[⟨oK op,op.dst,[],[]⟩]) ⟨gf op.dst (.aP []) s.env,s.h⟩
   | none=>False
theorem CB {hp:Hp}:∀ {rd:List Nat},(∀ id∈rd,(hp id).isSome=true)→(rd.filterMap fun id=>(hp id).map fun hb=>(id,hb)).map (·.1)=rd
 | [],_=>rfl
 | x::r,h=>by
   obtain ⟨hb,hx⟩:=Option.isSome_iff_exists.1 (h x (by simp))
   simp only [List.filterMap_cons,hx,Option.map_some,List.map_cons]
   rw [CB (fun id hid=>h id (by simp [hid]))]
theorem SG {P:Program} {o:Oper} {ao:AO} {gC:List Operand} (hc:kU P o.op=some (ao,gC)) {args:List SV} {h:List (Option HB)} {K:SV→List (Option HB)→List Nat→List Nat→Prop} (hW:sV P ao args h K) :
 ∃ pre us sv,oT P o args pre us sv∧aY (aB h) pre∧bq pre h us∧K sv (mh h us) (pre.map (·.1)) (us.map (·.1)):=by
 unfold sV at hW
 split at hW
 ·obtain ⟨pre,us,sv,h1,h2,h3,h4⟩:=hW
  exact ⟨pre,us,sv,Hs hc h1,h2,h3,h4⟩
 ·unfold xO at hW
  split at hW
  ·obtain ⟨pre,us,sv,h1,h2,h3,h4⟩:=hW
   exact ⟨pre,us,sv,Hu hc h1,h2,h3,h4⟩
  ·obtain ⟨pre,us,sv,h1,h2,h3,h4⟩:=hW
   exact ⟨pre,us,sv,Ht hc h1,h2,h3,h4⟩
  ·exact hW.elim
 ·unfold vW at hW
  split at hW
  ·rename_i s iU
   split at hW
   ·rename_i t x hi
    split at hW
    ·rename_i f hf
     obtain ⟨pre,us,sv,h1,h2,h3,h4⟩:=hW
     exact ⟨pre,us,sv,Cs hc hi hf (y:=x) (fun hp hP=>rfl) (fun q hq=>hq) h1 (fun C hp hn _=>hn),h2,h3,h4⟩
    ·rename_i f n agg hf
     split at hW
     ·rename_i p y u rd hE
      obtain ⟨aD,pre,us,sv,h1,h2,h3,h4⟩:=hW
      obtain ⟨g1,g2,g3⟩:=FV hc hi hf hE aD h1 h2 h3
      refine ⟨_,us,sv,g1,g2,g3,?_⟩
      rw [List.map_append]
      have:(uy h rd).map (·.1)=rd:=CB (fun id hid=>GK hE id hid)
      rw [this];exact h4
     ·exact hW.elim
    ·exact hW.elim
   ·exact hW.elim
  ·exact hW.elim
 ·unfold zx at hW
  split at hW
  ·rename_i p sv u rd hE
   obtain ⟨hp,hK⟩:=hW
   have ox:aB h h.length=none:=by unfold aB;rw [List.getElem?_eq_none (Nat.le_refl _)]
   have ur:=Cr hE
   refine ⟨_,wS u,sv,Hv hc hE hp ox,fun q hq=>?_,?_,?_⟩
   ·obtain ⟨id,_,hid⟩:=List.mem_filterMap.1 hq
    cases fP:aB h id with
    | none=>simp [fP] at hid
    | some hb=>simp [fP] at hid;subst hid;exact fP
   ·cases u with
    | none=>trivial
    | some q=>
      refine ⟨?_,trivial⟩
      rcases ur.1 q rfl with h1 | h1
      ·exact .inl h1
      ·right
       have hs:=ur.2 _ h1
       obtain ⟨hb,pF⟩:=Option.isSome_iff_exists.1 hs
       refine ⟨?_,hb,List.mem_filterMap.2 ⟨q.1,h1,by simp [pF]⟩⟩
       unfold aB at pF
       cases hl:h[q.1]? with
       | none=>simp [hl] at pF
       | some x=>exact (List.getElem?_eq_some_iff.1 hl).1
   ·have:=CB (hp:=aB h) (rd:=rd) (fun id hid=>ur.2 id hid)
    rw [this]
    cases u with
    | none=>exact hK
    | some q=>exact hK
  ·exact hW.elim
def rD:List bI→List EN→List TE
 | op::l,e::es=>jb op e::rD l es
 | _,_=>[]
theorem Dd:∀ {l:List bI} {es:List EN} {a:Nat} {op:bI} {e:EN},l[a]?=some op→es[a]?=some e→(rD l es)[a]?=some (jb op e)
 | [],es,a,op,e,h,_=>by simp at h
 | _::_,[],a,op,e,_,h=>by simp at h
 | p::l,q::es,a,op,e,h1,h2=>by
   cases a with
   | zero=>simp at h1 h2;subst h1;subst h2;rfl
   | succ a=>simp only [rD,List.getElem?_cons_succ] at h1 h2 ⊢;exact Dd h1 h2
theorem CC {P:Program} {ops:Array Oper} {N:Nat} {aZ:List Nat} {K:St→Prop}:∀ (l:List bI) (i:Nat) (acc:List TE) (s:St),(∀ (j:Nat) (op:bI),l[j]?=some op→∃ o,ops[i+j]?=some o∧ny P ops N o=some op)→RD P aZ K l acc s→
 ∃ es s',Tr P ops i l s es s'∧oY aZ 0 (acc++rD l es)=true∧K s'
 | [],i,acc,s,_,h=>⟨[],s,rfl,by simpa [rD] using h.1,h.2⟩
 | op::l,i,acc,s,hc,h=>by
   have nC:∀ (j:Nat) (op:bI),l[j]?=some op→∃ o,ops[i+1+j]?=some o∧ny P ops N o=some op:=fun j op' hj=>by
    have:=hc (j+1) op' (by simpa using hj)
    rwa [show i+(j+1)=i+1+j by omega] at this
   obtain ⟨o,ho,mE⟩:=hc 0 op rfl
   rw [Nat.add_zero] at ho
   obtain ⟨gC,qN,lR,tX,tY⟩:=Ay mE
   unfold RD at h
   split at h
   ·rename_i hg
    obtain ⟨pre,us,sv,h1,h2,h3,h4⟩:=SG qN h
    obtain ⟨es,s',g1,g2,g3⟩:=CC l (i+1) _ _ nC h4
    refine ⟨.run (op.xs.map (je (lk s.env))) pre us sv::es,s',⟨⟨hg,rfl,fun o' ho'=>?_,h2,h3⟩,g1⟩,?_,g3⟩
    ·rw [ho] at ho';cases ho';exact h1
    ·simpa [rD,jb] using g2
   ·rename_i hg
    obtain ⟨es,s',g1,g2,g3⟩:=CC l (i+1) _ _ nC h
    exact ⟨.skip::es,s',⟨hg,g1⟩,by simpa [rD,jb] using g2,g3⟩
   ·exact h.elim
theorem To {P:Program} {C:Ctx} {n0:Nat} {ops:Array Oper} {K:St→Prop} {Q:Exit→Act→World→Prop} {l:List bI} (hm:P.follows .mixedOrders=true) (hsz:ops.size=l.length) (Fe:∀ (j:Nat) (op:bI),l[j]?=some op→∃ o,ops[j]?=some o∧ny P ops C.N o=some op)
 (Nr:uV 0 ops.toList=true) {s:St} {a:Act} {w:World} (h:RD P (nW ops.toList []) K l [] s) (R:jB C n0 s a w) (hK:∀ s a w,K s→jB C n0 s a w→Q .normal a w) (id:Nat):(Code.region id ops true).wp P Q a w:=by
 refine wp_region_any hm ?_
 obtain ⟨es,s',h1,h2,h3⟩:=CC l 0 [] s (fun j op hj=>by rw [Nat.zero_add];exact Fe j op hj) h
 have H:jS P ops C.N l es s s' (Ak l.length (nW ops.toList [])):=by
  refine ⟨h1,hsz,Fe,fun i o ho k hk=>?_,fun i o ho k hk=>?_,fun x y Ct Cu ea eb hxy ha hb NB NC=>?_⟩
  ·have:=DA Nr i o (by simpa using ho) k hk;omega
  ·obtain ⟨gI,hk⟩:=Cm.1 hk
   have:=DC ops.toList [] i o (by simpa using ho) k (by simpa using hk)
   rcases this with g | ⟨x,hx,g⟩
   ·exact ⟨ki o,fun x hx=>hx,.inl g⟩
   ·exact ⟨ki o,fun x hx=>hx,.inr ⟨x,hx,Cm.2 ⟨gI,g⟩⟩⟩
  ·have:=Ej (aZ:=nW ops.toList []) (l:=rD l es) (i:=0) (by simpa using h2) x y _ _ hxy (Dd ha NB) (Dd hb NC)
   rw [Nat.zero_add,Nat.zero_add] at this
   refine this.imp (fun h=>Cm.2 ⟨(List.getElem?_eq_some_iff.1 ha).1,h⟩) (fun h=>h)
 have hlen:=h1.length
 obtain ⟨aa,RF⟩:=R.rep
 have hst:=IY P ops h1 l.length (Nat.le_refl _)
 rw [h1.last] at hst
 have lA:kr C (lk s.env) (aB s.h) a { w with drawn:=w.drawn+1 } aa:=RF.step (RF.mem.quiet (w':={ w with drawn:=w.drawn+1 }) rfl rfl rfl rfl)
 refine TL H rfl R.wo R.h0 (fun a w aa RF=>hK s' a w h3 ⟨⟨aa,RF⟩,Nat.le_trans R.wo hst,R.h0⟩) ops.size _ (lk s.env) (aB s.h) a _ aa (by simp) ?_ ?_ ?_ lA
 ·rw [hsz];exact Ea _ _
 ·intro i o ho hL
  exfalso
  simp only [Lf,Array.getD_eq_getD_getElem?,Array.getElem?_replicate] at hL
  split at hL <;> simp at hL
 ·have hf:∀ i,Lf (Array.replicate ops.size false) i=false:=fun i=>by
   simp only [Lf,Array.getD_eq_getD_getElem?,Array.getElem?_replicate]
   split <;> simp
  refine ⟨fun m=>⟨0,by omega,?_,fun i op hi=>by omega,fun i op _ _ _=>hf i⟩,fun id=>⟨0,by omega,?_,fun i op e hi=>by omega,fun i op e _ _ _ _=>hf i⟩⟩
  ·cases l <;> cases es <;> rfl
  ·cases l <;> cases es <;> rfl
end Go.aL

namespace Go.aL
open Go
inductive AC where
 | skip
 | mK (ops:List bI)
 | uz (aZ:List Nat) (ops:List bI)
 | seq (a b:AC)
 | cond (x:XO) (a b:AC)
 | block (id:Nat) (a:AC)
 | loop (a:AC)
 | exit (id:Nat)
 | ret
 | qd
 deriving Inhabited
def AC.tP:AC→Bool
 | .seq a b=>a.tP && b.tP
 | .cond _ a b=>a.tP || b.tP
 | .loop _ | .exit _ | .ret=>false
 | _=>true
def xW (P:Program) (ops:Array Oper) (N:Nat):List Oper→Option (List bI)
 | []=>some []
 | o::r=>match ny P ops N o,xW P ops N r with
   | some x,some l=>some (x::l)
   | _,_=>none
theorem Az {P:Program} {ops:Array Oper} {N:Nat}:∀ {os:List Oper} {l:List bI},xW P ops N os=some l→os.length=l.length∧∀ (j:Nat) (op:bI),l[j]?=some op→∃ o,os[j]?=some o∧ny P ops N o=some op
 | [],l,h=>by cases h;exact ⟨rfl,fun j op hj=>by simp at hj⟩
 | o::r,l,h=>by
   unfold xW at h
   split at h
   ·rename_i x l' hx hl
    cases h
    obtain ⟨g1,g2⟩:=Az hl
    refine ⟨by simp [g1],fun j op hj=>?_⟩
    cases j with
    | zero=>simp at hj;subst hj;exact ⟨o,rfl,hx⟩
    | succ j=>simp only [List.getElem?_cons_succ] at hj ⊢;exact g2 j op hj
   ·cases h
def comp (P:Program) (N:Nat):Code→Option AC
 | .skip=>some .skip
 | .region _ ops draw=>match draw,xW P ops N ops.toList with
   | false,some l=>some (.mK l)
   | true,some l=>if P.follows .mixedOrders && uV 0 ops.toList then some (.uz (nW ops.toList []) l) else none
   | _,none=>none
 | .seq a b=>match comp P N a,comp P N b with
   | some x,some y=>some (.seq x y)
   | _,_=>none
 | .cond c a b=>match AB c,comp P N a,comp P N b with
   | some q,some x,some y=>if x.tP && y.tP then some (.seq (.cond q x y) .qd) else some (.cond q x y)
   | _,_,_=>none
 | .block id c=>match comp P N c with
   | some x=>some (.seq (.block id x) .qd)
   | none=>none
 | .loop c=>match comp P N c with
   | some x=>some (.loop x)
   | none=>none
 | .exit id=>some (.exit id)
 | .ret=>some .ret
 | _=>none
inductive Ex where
 | normal
 | exit (id:Nat)
 | ret
def Ex.zT:Ex→Exit
 | .normal=>.normal
 | .exit id=>.exit id
 | .ret=>.ret
def fX (n0:Nat) (s s':St):Prop:=∀ C a w,jB C n0 s a w→jB C n0 s' a w
def nq (n:St→Prop) (K:Ex→St→Prop):Ex→St→Prop
 | .normal,s=>n s
 | .exit id,s=>K (.exit id) s
 | .ret,s=>K .ret s
def xC (id:Nat) (K:Ex→St→Prop):Ex→St→Prop
 | .normal,s=>K .normal s
 | .exit j,s=>if j=id then K .normal s else K (.exit j) s
 | .ret,s=>K .ret s
def xY (T F:Prop):SV→Prop
 | .rv (.bool t)=>if t=true then T else F
 | _=>False
def W (P:Program) (n0:Nat):AC→(Ex→St→Prop)→St→Prop
 | .skip,K,s=>K .normal s
 | .mK ops,K,s=>RW P (K .normal) ops s
 | .uz aZ ops,K,s=>RD P aZ (K .normal) ops [] s
 | .seq a b,K,s=>W P n0 a (nq (W P n0 b K) K) s
 | .cond x a b,K,s=>xY (W P n0 a K s) (W P n0 b K s) (je (lk s.env) x)
 | .block id a,K,s=>W P n0 a (xC id K) s
 | .loop a,K,s=>∃ (ι:Type) (σ:ι→St) (pr:ι→Prop) (μ:ι→Nat) (i0:ι),pr i0∧fX n0 s (σ i0)∧∀ i,pr i→W P n0 a (nq (fun s'=>∃ i',pr i'∧μ i'<μ i∧fX n0 s' (σ i')) K) (σ i)
 | .exit id,K,s=>K (.exit id) s
 | .ret,K,s=>K .ret s
 | .qd,K,s=>∃ s',fX n0 s s'∧K .normal s'
theorem zS {n n':St→Prop} {K K':Ex→St→Prop} (hn:∀ s,n s→n' s) (h:∀ e s,K e s→K' e s):∀ e s,nq n K e s→nq n' K' e s
 | .normal,s,hk=>hn s hk
 | .exit id,s,hk=>h _ s hk
 | .ret,s,hk=>h _ s hk
theorem KM {id:Nat} {K K':Ex→St→Prop} (h:∀ e s,K e s→K' e s):∀ e s,xC id K e s→xC id K' e s
 | .normal,s,hk=>h _ s hk
 | .exit j,s,hk=>by
   have hk':if j=id then K .normal s else K (.exit j) s:=hk
   show if j=id then K' .normal s else K' (.exit j) s
   by_cases hj:j=id
   ·rw [if_pos hj] at hk' ⊢;exact h _ s hk'
   ·rw [if_neg hj] at hk' ⊢;exact h _ s hk'
 | .ret,s,hk=>h _ s hk
theorem SI {P:Program} {ao:AO} {args:List SV} {h:List (Option HB)} {K K':SV→List (Option HB)→Prop} (hk:∀ sv h,K sv h→K' sv h) (hw:sX P ao args h K):sX P ao args h K':=by
 have hc:∀ f args,qy P f args h K→qy P f args h K':=fun f args ⟨pre,us,sv,h1,h2,h3,h4⟩=>⟨pre,us,sv,h1,h2,h3,hk _ _ h4⟩
 unfold sX at hw ⊢
 split at hw
 ·exact hc _ _ hw
 ·unfold xP at hw ⊢
  split at hw
  ·exact hc _ _ hw
  ·exact hc _ _ hw
  ·exact hw.elim
 ·unfold vX at hw ⊢
  split at hw
  ·split at hw
   ·split at hw
    ·exact hc _ _ hw
    ·split at hw
     ·exact ⟨hw.1,hc _ _ hw.2⟩
     ·exact hw.elim
    ·exact hw.elim
   ·exact hw.elim
  ·exact hw.elim
 ·unfold zy at hw ⊢
  split at hw
  ·exact ⟨hw.1,hk _ _ hw.2⟩
  ·exact hw.elim
theorem Af {P:Program} {K K':St→Prop} (hk:∀ s,K s→K' s):∀ {l:List bI} {s:St},RW P K l s→RW P K' l s
 | [],s,h=>hk s h
 | op::l,s,h=>by
   unfold RW at h ⊢
   split at h
   ·exact SI (fun sv h' hh=>Af hk hh) h
   ·exact Af hk h
   ·exact h.elim
theorem SF {P:Program} {ao:AO} {args:List SV} {h:List (Option HB)} {K K':SV→List (Option HB)→List Nat→List Nat→Prop} (hk:∀ sv h p u,K sv h p u→K' sv h p u) (hw:sV P ao args h K):sV P ao args h K':=by
 have hc:∀ f args,oR P f args h K→oR P f args h K':=fun f args ⟨pre,us,sv,h1,h2,h3,h4⟩=>⟨pre,us,sv,h1,h2,h3,hk _ _ _ _ h4⟩
 have hcd:∀ f args rd,(oR P f args h fun sv h' pre us=>K sv h' (rd++pre) us)→oR P f args h fun sv h' pre us=>K' sv h' (rd++pre) us:=fun f args rd ⟨pre,us,sv,h1,h2,h3,h4⟩=>⟨pre,us,sv,h1,h2,h3,hk _ _ _ _ h4⟩
 unfold sV at hw ⊢
 split at hw
 ·exact hc _ _ hw
 ·unfold xO at hw ⊢
  split at hw
  ·exact hc _ _ hw
  ·exact hc _ _ hw
  ·exact hw.elim
 ·unfold vW at hw ⊢
  split at hw
  ·split at hw
   ·split at hw
    ·exact hc _ _ hw
    ·split at hw
     ·exact ⟨hw.1,hcd _ _ _ hw.2⟩
     ·exact hw.elim
    ·exact hw.elim
   ·exact hw.elim
  ·exact hw.elim
 ·unfold zx at hw ⊢
  split at hw
  ·exact ⟨hw.1,hk _ _ _ _ hw.2⟩
  ·exact hw.elim
theorem Ae {P:Program} {aZ:List Nat} {K K':St→Prop} (hk:∀ s,K s→K' s):∀ {l:List bI} {acc:List TE} {s:St},RD P aZ K l acc s→RD P aZ K' l acc s
 | [],acc,s,h=>⟨h.1,hk s h.2⟩
 | op::l,acc,s,h=>by
   unfold RD at h ⊢
   split at h
   ·exact SF (fun sv h' p u hh=>Ae hk hh) h
   ·exact Ae hk h
   ·exact h.elim
theorem qA {P:Program} {n0:Nat}:∀ {ac:AC} {K K':Ex→St→Prop} {s:St},(∀ e s,K e s→K' e s)→W P n0 ac K s→W P n0 ac K' s
 | .skip,K,K',s,h,hw=>h _ _ hw
 | .mK ops,K,K',s,h,hw=>Af (h _) hw
 | .uz aZ ops,K,K',s,h,hw=>Ae (h _) hw
 | .seq a b,K,K',s,h,hw=>qA (ac:=a) (zS (fun s hb=>qA (ac:=b) h hb) h) hw
 | .cond x a b,K,K',s,h,hw=>by
   unfold W xY at hw ⊢
   split at hw
   ·split at hw
    ·rename_i ht;rw [if_pos ht];exact qA (ac:=a) h hw
    ·rename_i ht;rw [if_neg ht];exact qA (ac:=b) h hw
   ·exact hw.elim
 | .block id a,K,K',s,h,hw=>qA (ac:=a) (KM h) hw
 | .loop a,K,K',s,h,hw=>by
   obtain ⟨ι,σ,pr,μ,i0,h0,he,hr⟩:=hw
   exact ⟨ι,σ,pr,μ,i0,h0,he,fun i hi=>qA (ac:=a) (zS (fun s hs=>hs) h) (hr i hi)⟩
 | .exit id,K,K',s,h,hw=>h _ _ hw
 | .ret,K,K',s,h,hw=>h _ _ hw
 | .qd,K,K',s,h,hw=>by obtain ⟨s',h1,h2⟩:=hw;exact ⟨s',h1,h _ _ h2⟩
theorem least {p:Nat→Prop} (h:∃ m,p m):∃ m,p m∧∀ k,p k→m≤k:=by
 obtain ⟨m,hm⟩:=h
 induction m using Nat.strongRecOn with
 | _ m ih=>
   by_cases hl:∃ k,p k∧k<m
   ·obtain ⟨k,hk,hlt⟩:=hl
    exact ih k hlt hk
   ·exact ⟨m,hm,fun k hk=>by
     by_cases hlt:k<m
     ·exact absurd ⟨k,hk,hlt⟩ hl
     ·omega⟩
theorem Ew {P:Program} {n0:Nat} {C:Ctx} {K:Ex→St→Prop} {Q:Exit→Act→World→Prop} (hq:∀ e s a w,K e s→jB C n0 s a w→Q e.zT a w) :
 ∀ e s a w,nq (W P n0 .qd K) K e s→jB C n0 s a w→Q e.zT a w
 | .normal,s,a,w,⟨s',h1,h2⟩,R=>hq .normal s' a w h2 (h1 C a w R)
 | .exit id,s,a,w,hk,R=>hq (.exit id) s a w hk R
 | .ret,s,a,w,hk,R=>hq .ret s a w hk R
theorem Wb {P:Program} {n0:Nat} {C:Ctx}:∀ (c:Code) (ac:AC) (K:Ex→St→Prop) (Q:Exit→Act→World→Prop) (s:St) (a:Act) (w:World),comp P C.N c=some ac→W P n0 ac K s→jB C n0 s a w→(∀ e s a w,K e s→jB C n0 s a w→Q e.zT a w)→c.wp P Q a w:=by
 intro c
 induction c with
 | skip=>intro ac K Q s a w hc hw R hq;cases hc;exact wp_skip (hq _ _ _ _ hw R)
 | region id ops draw=>
   intro ac K Q s a w hc hw R hq
   unfold comp at hc
   split at hc
   ·rename_i l hl
    cases hc
    obtain ⟨g1,g2⟩:=Az hl
    refine wp_region (Im (C:=C) (n0:=n0) (fun s a w hk R=>hq .normal s a w hk R) l _ s a w (by simpa using g1) (fun j i op hi hj=>?_) hw R)
    obtain ⟨o,ho,mE⟩:=g2 j op hj
    have hlt:j<ops.size:=by
     have:=(List.getElem?_eq_some_iff.1 hj).1
     have e:ops.toList.length=ops.size:=by simp
     omega
    rw [List.getElem?_range hlt] at hi
    cases hi
    exact ⟨o,by simpa using ho,mE⟩
   ·rename_i l hl
    split at hc
    ·rename_i hb
     cases hc
     simp only [Bool.and_eq_true] at hb
     obtain ⟨g1,g2⟩:=Az hl
     exact To hb.1 (by simpa using g1) (fun j op hj=>by
      obtain ⟨o,ho,mE⟩:=g2 j op hj
      exact ⟨o,by simpa using ho,mE⟩) hb.2 hw R (fun s a w hk R=>hq .normal s a w hk R) id
    ·cases hc
   ·cases hc
 | seq x y BR BS=>
   intro ac K Q s a w hc hw R hq
   unfold comp at hc
   split at hc
   ·rename_i x' y' hx hy
    cases hc
    refine wp_seq (BR x' _ _ s a w hx hw R (fun e s a w hk R=>?_))
    cases e with
    | normal=>exact BS y' K Q s a w hy hk R hq
    | exit id=>exact hq (.exit id) s a w hk R
    | ret=>exact hq .ret s a w hk R
   ·cases hc
 | cond c x y BR BS=>
   intro ac K Q s a w hc hw R hq
   unfold comp at hc
   split at hc
   ·rename_i q x' y' Bj hx hy
    have base:∀ (K:Ex→St→Prop),W P n0 (.cond q x' y') K s→(∀ e s a w,K e s→jB C n0 s a w→Q e.zT a w)→(Code.cond c x y).wp P Q a w:=by
     intro K hw hq
     unfold W xY at hw
     split at hw
     ·rename_i t ht
      obtain ⟨aa,RF⟩:=R.rep
      have hA:=xA RF (xs:=[c]) (ys:=[q]) (by simp [tJ,Bj])
      cases hA with
      | cons h1 _=>
        rw [ht] at h1
        have hb:=tc h1
        refine wp_cond hb ?_
        cases t with
        | true=>exact BR x' K Q s a w hx (by simpa using hw) R hq
        | false=>exact BS y' K Q s a w hy (by simpa using hw) R hq
     ·exact hw.elim
    split at hc
    ·cases hc
     exact base _ hw (Ew hq)
    ·cases hc
     exact base K hw hq
   ·cases hc
 | block id c ih=>
   intro ac K Q s a w hc hw R hq
   unfold comp at hc
   split at hc
   ·rename_i x hx
    cases hc
    have fP:=Ew (P:=P) hq
    refine wp_block (ih x _ _ s a w hx hw R (fun e s a w hk R=>?_))
    cases e with
    | normal=>exact fP .normal s a w hk R
    | exit j=>
      have hk':if j=id then (∃ s',fX n0 s s'∧K .normal s') else K (.exit j) s:=hk
      show if j=id then Q .normal a w else Q (.exit j) a w
      by_cases hj:j=id
      ·rw [if_pos hj] at hk' ⊢;exact fP .normal s a w hk' R
      ·rw [if_neg hj] at hk' ⊢;exact hq (.exit j) s a w hk' R
    | ret=>exact hq .ret s a w hk R
   ·cases hc
 | loop c ih=>
   intro ac K Q s a w hc hw R hq
   unfold comp at hc
   split at hc
   ·rename_i x hx
    cases hc
    obtain ⟨ι,σ,pr,μ,i0,h0,he,hr⟩:=hw
    have key:∀ n i,μ i=n→pr i→∀ a w,jB C n0 (σ i) a w→(Code.loop c).wp P Q a w:=by
     classical
     intro n i hn hi a w R
     let I:Act→World→Prop:=fun a w=>∃ i,pr i∧jB C n0 (σ i) a w
     have hex:∀ a w,I a w→∃ m,∃ i,pr i∧jB C n0 (σ i) a w∧μ i=m:=fun a w ⟨i,h1,h2⟩=>⟨μ i,i,h1,h2,rfl⟩
     have Fi:∀ a w,∃ m,I a w→(∃ i,pr i∧jB C n0 (σ i) a w∧μ i=m)∧∀ i,pr i→jB C n0 (σ i) a w→m≤μ i:=fun a w=>by
      by_cases h:I a w
      ·obtain ⟨m,hm,hl⟩:=least (p:=fun m=>∃ i,pr i∧jB C n0 (σ i) a w∧μ i=m) (hex a w h)
       exact ⟨m,fun _=>⟨hm,fun i hi hR=>hl _ ⟨i,hi,hR,rfl⟩⟩⟩
      ·exact ⟨0,fun h'=>absurd h' h⟩
     let M:Act→World→Nat:=fun a w=>(Fi a w).choose
     have hM:∀ a w,I a w→(∃ i,pr i∧jB C n0 (σ i) a w∧μ i=M a w)∧∀ i,pr i→jB C n0 (σ i) a w→M a w≤μ i:=fun a w h=>(Fi a w).choose_spec h
     refine wp_loop I M ⟨i,hi,R⟩ (fun a w hI=>?_)
     obtain ⟨⟨j,hj,hR,WC⟩,_⟩:=hM a w hI
     refine ih x _ _ (σ j) a w hx (hr j hj) hR (fun e s' a' w' hk R'=>?_)
     cases e with
     | normal=>
       obtain ⟨j',hj',hlt,ND⟩:=hk
       have EW:=ND C a' w' R'
       have EV:I a' w':=⟨j',hj',EW⟩
       refine ⟨EV,?_⟩
       have:=(hM a' w' EV).2 j' hj' EW
       omega
     | exit id=>exact hq (.exit id) s' a' w' hk R'
     | ret=>exact hq .ret s' a' w' hk R'
    exact key _ i0 rfl h0 a w (he C a w R)
   ·cases hc
 | exit id=>intro ac K Q s a w hc hw R hq;cases hc;exact wp_exit (hq _ _ _ _ hw R)
 | ret=>intro ac K Q s a w hc hw R hq;cases hc;exact wp_ret (hq _ _ _ _ hw R)
 | rangeFunc=>intro ac K Q s a w hc;cases hc
 | scope=>intro ac K Q s a w hc;cases hc
 | label=>intro ac K Q s a w hc;cases hc
 | goto=>intro ac K Q s a w hc;cases hc
 | refuse=>intro ac K Q s a w hc;cases hc
end Go.aL

namespace Go.aL
open Go
inductive It where
 | c (a:AC)
 | o (l:List bI)
 | d (aZ:List Nat) (acc:List TE) (l:List bI)
 | b (id:Nat)
 | l (m:Nat) (a:AC)
def WL (P:Program) (n0 m:Nat) (a:AC) (K:Ex→St→Prop) (s:St):Prop:=
 ∃ (ι:Type) (σ:ι→St) (pr:ι→Prop) (μ:ι→Nat) (i0:ι),(pr i0∧μ i0≤m)∧fX n0 s (σ i0)∧∀ i,pr i→W P n0 a (nq (fun s'=>∃ i',pr i'∧μ i'<μ i∧fX n0 s' (σ i')) K) (σ i)
theorem Kl {P:Program} {n0 m:Nat} {a:AC} {K:Ex→St→Prop} {s:St} (h:WL P n0 m a K s):W P n0 (.loop a) K s:=by
 obtain ⟨ι,σ,pr,μ,i0,⟨h1,_⟩,h2,h3⟩:=h
 exact ⟨ι,σ,pr,μ,i0,h1,h2,h3⟩
theorem Km {P:Program} {n0 m:Nat} {a:AC} {K:Ex→St→Prop} {s:St} (h:W P n0 a (nq (WL P n0 m a K) K) s):WL P n0 (m+1) a K s:=by
 let Inv:St→Nat→Prop:=fun s k=>k≤m∧∃ (ι:Type) (σ:ι→St) (pr:ι→Prop) (μ:ι→Nat) (i:ι),pr i∧σ i=s∧μ i=k∧∀ i,pr i→W P n0 a (nq (fun s'=>∃ i',pr i'∧μ i'<μ i∧fX n0 s' (σ i')) K) (σ i)
 refine ⟨Option (St×Nat),fun o=>(o.map (·.1)).getD s,fun o=>∀ q,o=some q→Inv q.1 q.2,fun o=>match o with | some q=>q.2 | none=>m+1,none,⟨fun q hq=>(by cases hq),Nat.le_refl _⟩,fun _ _ _ R=>R,fun o ho=>?_⟩
 cases o with
 | none=>
   refine qA (fun e s' hs=>?_) h
   revert hs
   refine zS (fun s' hs=>?_) (fun _ _ hk=>hk) e s'
   obtain ⟨ι,σ,pr,μ,i0,⟨h1,h2⟩,h3,h4⟩:=hs
   exact ⟨some (σ i0,μ i0),fun q hq=>(by cases hq;exact ⟨h2,ι,σ,pr,μ,i0,h1,rfl,rfl,h4⟩),Nat.lt_succ_of_le h2,h3⟩
 | some q=>
   obtain ⟨hk,ι,σ,pr,μ,i,h1,h2,h3,h4⟩:=ho q rfl
   have:=h4 i h1
   rw [h2] at this
   refine qA (fun e s' hs=>?_) this
   revert hs
   refine zS (fun s' hs=>?_) (fun _ _ hk=>hk) e s'
   obtain ⟨i',g1,g2,g3⟩:=hs
   exact ⟨some (σ i',μ i'),fun q' hq=>(by cases hq;exact ⟨by omega,ι,σ,pr,μ,i',g1,rfl,rfl,h4⟩),(by show μ i'<q.2;omega),g3⟩
def CI (P:Program) (n0:Nat):List It→(Ex→St→Prop)→Ex→St→Prop
 | [],K=>K
 | .c a::k,K=>nq (W P n0 a (CI P n0 k K)) (CI P n0 k K)
 | .o l::k,K=>nq (RW P (CI P n0 k K .normal) l) (CI P n0 k K)
 | .d aZ acc l::k,K=>nq (RD P aZ (CI P n0 k K .normal) l acc) (CI P n0 k K)
 | .b id::k,K=>xC id (CI P n0 k K)
 | .l m a::k,K=>nq (WL P n0 m a (CI P n0 k K)) (CI P n0 k K)
def G (P:Program) (n0:Nat) (k:List It) (K:Ex→St→Prop) (env:List (Nat×SV)) (h:List (Option HB)):Prop:=CI P n0 k K .normal ⟨env,h⟩
def GX (P:Program) (n0:Nat) (id:Nat) (k:List It) (K:Ex→St→Prop) (env:List (Nat×SV)) (h:List (Option HB)):Prop:=CI P n0 k K (.exit id) ⟨env,h⟩
def xX (P:Program) (n0:Nat) (a b:AC) (k:List It) (K:Ex→St→Prop) (env:List (Nat×SV)) (h:List (Option HB)):SV→Prop
 | .rv (.bool t)=>if t=true then G P n0 (.c a::k) K env h else G P n0 (.c b::k) K env h
 | _=>False
def rW (P:Program) (n0:Nat) (f:FuncId) (args:List SV) (dst:Option Nat) (r:List bI) (k:List It) (K:Ex→St→Prop) (env:List (Nat×SV)) (h:List (Option HB)):Prop:=
 qy P f args h fun sv h'=>G P n0 (.o r::k) K (gf dst sv env) h'
def Ar (P:Program) (n0:Nat) (dst:Option Nat) (r:List bI) (k:List It) (K:Ex→St→Prop) (env:List (Nat×SV)) (h:List (Option HB)):List SV→Prop
 | .fn f caps::args=>rW P n0 f (args++caps) dst r k K env h
 | .fG f caps::args=>rW P n0 f (caps++args) dst r k K env h
 | _=>False
def yZ (P:Program) (n0:Nat) (name:String) (dst:Option Nat) (r:List bI) (k:List It) (K:Ex→St→Prop) (env:List (Nat×SV)) (h:List (Option HB)):List SV→Prop
 | s::args=>match oB s with
   | some (t,x)=>match oD P t name with
     | some (f,none)=>rW P n0 f (x::args) dst r k K env h
     | some (f,some (n,agg))=>match iz n agg (aB h) x with
       | some (p,y,_,_)=>p∧rW P n0 f (y::args) dst r k K env h
       | none=>False
     | none=>False
   | none=>False
 | _=>False
def Cx (P:Program) (n0:Nat) (dst:Option Nat) (r:List bI) (k:List It) (K:Ex→St→Prop) (env:List (Nat×SV)) (h:List (Option HB)):XR→Prop
 | some (p,sv,u,_)=>p∧G P n0 (.o r::k) K (gf dst sv env) (wT h u)
 | none=>False
def sW (P:Program) (n0:Nat) (ao:AO) (args:List SV) (dst:Option Nat) (r:List bI) (k:List It) (K:Ex→St→Prop) (env:List (Nat×SV)) (h:List (Option HB)):Prop:=
 match ao with
 | .call f=>rW P n0 f args dst r k K env h
 | .oc=>Ar P n0 dst r k K env h args
 | .inv name=>yZ P n0 name dst r k K env h args
 | ao=>Cx P n0 dst r k K env h (bY ao args (aB h) h.length)
def sr (P:Program) (n0:Nat) (b:Bool) (ao:AO) (xs:List XO) (dst:Option Nat) (r:List bI) (k:List It) (K:Ex→St→Prop) (env:List (Nat×SV)) (h:List (Option HB)):SV→Prop
 | .rv (.bool t)=>if t=b then sW P n0 ao (xs.map (je (lk env))) dst r k K env h else G P n0 (.o r::k) K (gf dst (.aP []) env) h
 | .aP []=>G P n0 (.o r::k) K (gf dst (.aP []) env) h
 | _=>False
def rX (P:Program) (n0:Nat) (aZ:List Nat) (acc:List TE) (fD rm:List Nat) (f:FuncId) (args:List SV) (dst:Option Nat) (r:List bI) (k:List It) (K:Ex→St→Prop) (env:List (Nat×SV)) (h:List (Option HB)):Prop:=
 oR P f args h fun sv h' pre us=>G P n0 (.d aZ (acc++[⟨fD,dst,rm++pre,us⟩]) r::k) K (gf dst sv env) h'
def As (P:Program) (n0:Nat) (aZ:List Nat) (acc:List TE) (fD:List Nat) (dst:Option Nat) (r:List bI) (k:List It) (K:Ex→St→Prop) (env:List (Nat×SV)) (h:List (Option HB)):List SV→Prop
 | .fn f caps::args=>rX P n0 aZ acc fD [] f (args++caps) dst r k K env h
 | .fG f caps::args=>rX P n0 aZ acc fD [] f (caps++args) dst r k K env h
 | _=>False
def za (P:Program) (n0:Nat) (aZ:List Nat) (acc:List TE) (fD:List Nat) (name:String) (dst:Option Nat) (r:List bI) (k:List It) (K:Ex→St→Prop) (env:List (Nat×SV)) (h:List (Option HB)):List SV→Prop
 | s::args=>match oB s with
   | some (t,x)=>match oD P t name with
     | some (f,none)=>rX P n0 aZ acc fD [] f (x::args) dst r k K env h
     | some (f,some (n,agg))=>match iz n agg (aB h) x with
       | some (p,y,_,rd)=>p∧rX P n0 aZ acc fD rd f (y::args) dst r k K env h
       | none=>False
     | none=>False
   | none=>False
 | _=>False
def Cy (P:Program) (n0:Nat) (aZ:List Nat) (acc:List TE) (fD:List Nat) (dst:Option Nat) (r:List bI) (k:List It) (K:Ex→St→Prop) (env:List (Nat×SV)) (h:List (Option HB)):XR→Prop
 | some (p,sv,u,rd)=>p∧G P n0 (.d aZ (acc++[⟨fD,dst,rd,Dg u⟩]) r::k) K (gf dst sv env) (wT h u)
 | none=>False
def sY (P:Program) (n0:Nat) (aZ:List Nat) (acc:List TE) (fD:List Nat) (ao:AO) (args:List SV) (dst:Option Nat) (r:List bI) (k:List It) (K:Ex→St→Prop) (env:List (Nat×SV)) (h:List (Option HB)):Prop:=
 match ao with
 | .call f=>rX P n0 aZ acc fD [] f args dst r k K env h
 | .oc=>As P n0 aZ acc fD dst r k K env h args
 | .inv name=>za P n0 aZ acc fD name dst r k K env h args
 | ao=>Cy P n0 aZ acc fD dst r k K env h (bY ao args (aB h) h.length)
def su (P:Program) (n0:Nat) (aZ:List Nat) (acc:List TE) (fD:List Nat) (b:Bool) (ao:AO) (xs:List XO) (dst:Option Nat) (r:List bI) (k:List It) (K:Ex→St→Prop) (env:List (Nat×SV)) (h:List (Option HB)):SV→Prop
 | .rv (.bool t)=>if t=b then sY P n0 aZ acc fD ao (xs.map (je (lk env))) dst r k K env h else G P n0 (.d aZ (acc++[⟨fD,dst,[],[]⟩]) r::k) K (gf dst (.aP []) env) h
 | .aP []=>G P n0 (.d aZ (acc++[⟨fD,dst,[],[]⟩]) r::k) K (gf dst (.aP []) env) h
 | _=>False
section
variable {P:Program} {n0:Nat} {k:List It} {K:Ex→St→Prop} {env:List (Nat×SV)} {h:List (Option HB)}
theorem Ms:G P n0 [] K env h=K .normal ⟨env,h⟩:=rfl
theorem MC:G P n0 (.c .skip::k) K env h=G P n0 k K env h:=rfl
theorem My {ops:List bI}:G P n0 (.c (.mK ops)::k) K env h=G P n0 (.o ops::k) K env h:=rfl
theorem Mz {aZ:List Nat} {ops:List bI}:G P n0 (.c (.uz aZ ops)::k) K env h=G P n0 (.d aZ [] ops::k) K env h:=rfl
theorem MB {a b:AC}:G P n0 (.c (.seq a b)::k) K env h=G P n0 (.c a :: .c b::k) K env h:=rfl
theorem Mn {id:Nat} {a:AC}:G P n0 (.c (.block id a)::k) K env h=G P n0 (.c a :: .b id::k) K env h:=rfl
theorem Mq {id:Nat}:G P n0 (.b id::k) K env h=G P n0 k K env h:=rfl
theorem Mr {id:Nat}:G P n0 (.c (.exit id)::k) K env h=GX P n0 id k K env h:=rfl
theorem Mo {x:XO} {a b:AC}:G P n0 (.c (.cond x a b)::k) K env h=xX P n0 a b k K env h (je (lk env) x):=by
 show xY _ _ _=_
 generalize je (lk env) x=y
 cases y with
 | rv r=>cases r <;> rfl
 | _=>rfl
theorem rP {P:Program} {n0:Nat} {K:Ex→St→Prop} {s:St}:∀ {k:List It},CI P n0 k K .ret s=K .ret s
 | []=>rfl
 | .c a::k=>rP (k:=k)
 | .o a::k=>rP (k:=k)
 | .d a b c::k=>rP (k:=k)
 | .b a::k=>rP (k:=k)
 | .l a b::k=>rP (k:=k)
theorem MA:G P n0 (.c .ret::k) K env h=K .ret ⟨env,h⟩:=by
 show CI P n0 k K .ret ⟨env,h⟩=_
 exact rP
theorem MS {id:Nat}:GX P n0 id [] K env h=K (.exit id) ⟨env,h⟩:=rfl
theorem MP {id:Nat} {a:AC}:GX P n0 id (.c a::k) K env h=GX P n0 id k K env h:=rfl
theorem MT {id:Nat} {a:List bI}:GX P n0 id (.o a::k) K env h=GX P n0 id k K env h:=rfl
theorem MR {id m:Nat} {a:AC}:GX P n0 id (.l m a::k) K env h=GX P n0 id k K env h:=rfl
theorem jH {a:AC} (m:Nat) (hg:G P n0 (.l m a::k) K env h):G P n0 (.c (.loop a)::k) K env h:=Kl (P:=P) (n0:=n0) (m:=m) (a:=a) (K:=CI P n0 k K) (s:=⟨env,h⟩) hg
theorem jG {m:Nat} {a:AC} (hg:G P n0 (.c a :: .l m a::k) K env h):G P n0 (.l (m+1) a::k) K env h:=by
 show WL P n0 (m+1) a (CI P n0 k K) ⟨env,h⟩
 exact Km hg
theorem MO {id j:Nat}:GX P n0 id (.b j::k) K env h=if id=j then G P n0 k K env h else GX P n0 id k K env h:=rfl
theorem Mt:G P n0 (.o []::k) K env h=G P n0 k K env h:=rfl
theorem Mp {aZ:List Nat} {acc:List TE}:G P n0 (.d aZ acc []::k) K env h=(oY aZ 0 acc=true∧G P n0 k K env h):=rfl
theorem Ti {dst:Option Nat} {r:List bI} (o:XR):zy h (fun sv h'=>RW P (CI P n0 k K .normal) r ⟨gf dst sv env,h'⟩) o=Cx P n0 dst r k K env h o:=by
 cases o with
 | none=>rfl
 | some q=>obtain ⟨p,sv,u,rd⟩:=q;rfl
theorem Hw {dst:Option Nat} {ao:AO} {args:List SV} {r:List bI}:sX P ao args h (fun sv h'=>RW P (CI P n0 k K .normal) r ⟨gf dst sv env,h'⟩)=sW P n0 ao args dst r k K env h:=by
 cases ao
 case call f=>rfl
 case oc=>
  show xP _ _ _ _=Ar _ _ _ _ _ _ _ _ _
  cases args with
  | nil=>rfl
  | cons x t=>cases x <;> rfl
 case inv name=>
  show vX _ _ _ _ _=yZ _ _ _ _ _ _ _ _ _ _
  cases args with
  | nil=>rfl
  | cons x t=>
    simp only [vX,yZ]
    cases oB x with
    | none=>rfl
    | some q=>
      obtain ⟨t,y⟩:=q
      simp only
      cases oD P t name with
      | none=>rfl
      | some q=>
        obtain ⟨f,ld⟩:=q
        cases ld with
        | none=>rfl
        | some q=>
          obtain ⟨n,agg⟩:=q
          simp only
          cases iz n agg (aB h) y with
          | none=>rfl
          | some q=>obtain ⟨p,z,u,rd⟩:=q;rfl
 all_goals first | exact Ti _ | rfl
theorem Mu {dst:Option Nat} {ao:AO} {xs:List XO} {r:List bI}:G P n0 (.o (⟨dst,ao,xs,none⟩::r)::k) K env h=sW P n0 ao (xs.map (je (lk env))) dst r k K env h:=Hw
theorem Mx {dst:Option Nat} {ao:AO} {xs:List XO} {d:Nat} {b:Bool} {r:List bI}:G P n0 (.o (⟨dst,ao,xs,some (d,b)⟩::r)::k) K env h=sr P n0 b ao xs dst r k K env h (lk env d):=by
 show RW P _ _ _=_
 unfold RW
 simp only [kV]
 generalize lk env d=x
 cases x with
 | rv q=>
   cases q with
   | bool t=>cases t <;> cases b <;> first | exact Hw | rfl
   | _=>rfl
 | aP xs=>cases xs <;> rfl
 | _=>rfl
theorem Tg {aZ:List Nat} {acc:List TE} {fD:List Nat} {dst:Option Nat} {r:List bI} (o:XR):zx h (fun sv h' pre us=>RD P aZ (CI P n0 k K .normal) r (acc++[⟨fD,dst,pre,us⟩]) ⟨gf dst sv env,h'⟩) o=Cy P n0 aZ acc fD dst r k K env h o:=by
 cases o with
 | none=>rfl
 | some q=>obtain ⟨p,sv,u,rd⟩:=q;rfl
theorem Hr {aZ:List Nat} {acc:List TE} {fD:List Nat} {dst:Option Nat} {ao:AO} {args:List SV} {r:List bI}:sV P ao args h (fun sv h' pre us=>RD P aZ (CI P n0 k K .normal) r (acc++[⟨fD,dst,pre,us⟩]) ⟨gf dst sv env,h'⟩)=sY P n0 aZ acc fD ao args dst r k K env h:=by
 cases ao
 case call f=>rfl
 case oc=>
  show xO _ _ _ _=As _ _ _ _ _ _ _ _ _ _ _ _
  cases args with
  | nil=>rfl
  | cons x t=>cases x <;> rfl
 case inv name=>
  show vW _ _ _ _ _=za _ _ _ _ _ _ _ _ _ _ _ _ _
  cases args with
  | nil=>rfl
  | cons x t=>
    simp only [vW,za]
    cases oB x with
    | none=>rfl
    | some q=>
      obtain ⟨t,y⟩:=q
      simp only
      cases oD P t name with
      | none=>rfl
      | some q=>
        obtain ⟨f,ld⟩:=q
        cases ld with
        | none=>rfl
        | some q=>
          obtain ⟨n,agg⟩:=q
          simp only
          cases iz n agg (aB h) y with
          | none=>rfl
          | some q=>obtain ⟨p,z,u,rd⟩:=q;rfl
 all_goals first | exact Tg _ | rfl
theorem Mv {aZ:List Nat} {acc:List TE} {dst:Option Nat} {ao:AO} {xs:List XO} {r:List bI}:G P n0 (.d aZ acc (⟨dst,ao,xs,none⟩::r)::k) K env h=sY P n0 aZ acc (nP xs) ao (xs.map (je (lk env))) dst r k K env h:=Hr
theorem Mw {aZ:List Nat} {acc:List TE} {dst:Option Nat} {ao:AO} {xs:List XO} {d:Nat} {b:Bool} {r:List bI}:G P n0 (.d aZ acc (⟨dst,ao,xs,some (d,b)⟩::r)::k) K env h=su P n0 aZ acc (d::nP xs) b ao xs dst r k K env h (lk env d):=by
 show RD P _ _ _ _ _=_
 unfold RD
 simp only [kV]
 generalize lk env d=x
 cases x with
 | rv q=>
   cases q with
   | bool t=>cases t <;> cases b <;> first | exact Hr | rfl
   | _=>rfl
 | aP xs=>cases xs <;> rfl
 | _=>rfl
end
theorem bS {P:Program} {n0:Nat} {f:FuncId} {args:List SV} {dst:Option Nat} {r:List bI} {k:List It} {K:Ex→St→Prop} {env:List (Nat×SV)} {h:List (Option HB)} {pre us:List (Nat×HB)} {sv:SV}
 (hc:aI P f args pre us sv) (hp:aY (aB h) pre) (hu:bq pre h us) (hn:G P n0 (.o r::k) K (gf dst sv env) (mh h us)):rW P n0 f args dst r k K env h:=⟨pre,us,sv,hc,hp,hu,hn⟩
theorem af {P:Program} {n0:Nat} {f:FuncId} {args:List SV} {dst:Option Nat} {r:List bI} {k:List It} {K:Ex→St→Prop} {env:List (Nat×SV)} {h:List (Option HB)} {sv:SV}
 (hc:aI P f args [] [] sv) (hn:G P n0 (.o r::k) K (gf dst sv env) h):rW P n0 f args dst r k K env h:=⟨[],[],sv,hc,fun q hq=>by simp at hq,trivial,hn⟩
theorem ck {P:Program} {n0:Nat} {aZ:List Nat} {acc:List TE} {fD rm:List Nat} {f:FuncId} {args:List SV} {dst:Option Nat} {r:List bI} {k:List It} {K:Ex→St→Prop} {env:List (Nat×SV)} {h:List (Option HB)} {pre us:List (Nat×HB)} {sv:SV}
 (hc:aI P f args pre us sv) (hp:aY (aB h) pre) (hu:bq pre h us) (hn:G P n0 (.d aZ (acc++[⟨fD,dst,rm++pre.map (·.1),us.map (·.1)⟩]) r::k) K (gf dst sv env) (mh h us)):rX P n0 aZ acc fD rm f args dst r k K env h:=⟨pre,us,sv,hc,hp,hu,hn⟩
theorem ag {P:Program} {n0:Nat} {aZ:List Nat} {acc:List TE} {fD rm:List Nat} {f:FuncId} {args:List SV} {dst:Option Nat} {r:List bI} {k:List It} {K:Ex→St→Prop} {env:List (Nat×SV)} {h:List (Option HB)} {sv:SV}
 (hc:aI P f args [] [] sv) (hn:G P n0 (.d aZ (acc++[⟨fD,dst,rm,[]⟩]) r::k) K (gf dst sv env) h):rX P n0 aZ acc fD rm f args dst r k K env h:=⟨[],[],sv,hc,fun q hq=>by simp at hq,trivial,by simpa [mh] using hn⟩
theorem fE {P:Program} {n0:Nat} {a:AC} {k:List It} {K:Ex→St→Prop} {env:List (Nat×SV)} {h:List (Option HB)} {ι:Type} (en:ι→List (Nat×SV)) (hh:ι→List (Option HB)) (pr:ι→Prop) (μ:ι→Nat) (i0:ι)
 (h0:pr i0) (he:fX n0 ⟨env,h⟩ ⟨en i0,hh i0⟩)
 (hr:∀ i,pr i→∀ K':Ex→St→Prop,(∀ i' e' h',pr i'→μ i'<μ i→fX n0 ⟨e',h'⟩ ⟨en i',hh i'⟩→K' .normal ⟨e',h'⟩)→(∀ id e' h',GX P n0 id k K e' h'→K' (.exit id) ⟨e',h'⟩)→(∀ e' h',K .ret ⟨e',h'⟩→K' .ret ⟨e',h'⟩)→G P n0 [.c a] K' (en i) (hh i)) :
 G P n0 (.c (.loop a)::k) K env h:=by
 refine ⟨ι,fun i=>⟨en i,hh i⟩,pr,μ,i0,h0,he,fun i hi=>?_⟩
 refine hr i hi (nq (fun s'=>∃ i',pr i'∧μ i'<μ i∧fX n0 s' ⟨en i',hh i'⟩) (CI P n0 k K)) (fun i' e' h' h1 h2 h3=>⟨i',h1,h2,h3⟩) (fun id e' h' hx=>hx) (fun e' h' hx=>?_)
 show CI P n0 k K .ret _
 rw [rP];exact hx
theorem aA {P:Program} {n0:Nat} {k:List It} {K:Ex→St→Prop} {env:List (Nat×SV)} {h:List (Option HB)} (hg:G P n0 k K env h):G P n0 (.c .qd::k) K env h:=⟨⟨env,h⟩,fun _ _ _ R=>R,hg⟩
theorem js {P:Program} {n0:Nat} {k:List It} {K:Ex→St→Prop} {env:List (Nat×SV)} {h:List (Option HB)} (env':List (Nat×SV)) (h':List (Option HB)) (he:fX n0 ⟨env,h⟩ ⟨env',h'⟩) (hg:G P n0 k K env' h'):G P n0 (.c .qd::k) K env h:=⟨⟨env',h'⟩,he,hg⟩
end Go.aL

namespace Go.aL
open Go
inductive Bk (σ:Nat→Option Nat):SV→SV→Prop where
 | dead (y:SV):Bk σ .dead y
 | rv (r:RV):Bk σ (.rv r) (.rv r)
 | ptr (j id off:Nat) (h:σ j=some id):Bk σ (.ptr j off) (.ptr id off)
 | bX (j id az i off:Nat) (h:σ j=some id):Bk σ (.bX j az i off) (.bX id az i off)
 | row (j id az len:Nat) (h:σ j=some id):Bk σ (.row j az len) (.row id az len)
 | win (j id az off len:Nat) (h:σ j=some id):Bk σ (.win j az off len) (.win id az off len)
 | agg (xs ys:List SV) (hl:xs.length=ys.length) (h:∀ (i:Nat) (x y:SV),xs[i]?=some x→ys[i]?=some y→Bk σ x y):Bk σ (.agg xs) (.agg ys)
 | aP (xs ys:List SV) (hl:xs.length=ys.length) (h:∀ (i:Nat) (x y:SV),xs[i]?=some x→ys[i]?=some y→Bk σ x y):Bk σ (.aP xs) (.aP ys)
 | fn (f:FuncId) (xs ys:List SV) (hl:xs.length=ys.length) (h:∀ (i:Nat) (x y:SV),xs[i]?=some x→ys[i]?=some y→Bk σ x y):Bk σ (.fn f xs) (.fn f ys)
 | fG (f:FuncId) (xs ys:List SV) (hl:xs.length=ys.length) (h:∀ (i:Nat) (x y:SV),xs[i]?=some x→ys[i]?=some y→Bk σ x y):Bk σ (.fG f xs) (.fG f ys)
 | bV (t:TypeId) (x y:SV) (h:Bk σ x y):Bk σ (.bV t x) (.bV t y)
def rO (σ:Nat→Option Nat) (xs ys:List SV):Prop:=xs.length=ys.length∧∀ (i:Nat) (x y:SV),xs[i]?=some x→ys[i]?=some y→Bk σ x y
inductive mQ (σ:Nat→Option Nat):HB→HB→Prop where
 | var (xs ys:List SV) (h:rO σ xs ys):mQ σ (.var xs) (.var ys)
 | row (e az:Nat) (xs ys:List (List SV)) (hl:xs.length=ys.length) (h:∀ (i:Nat) (x y:List SV),xs[i]?=some x→ys[i]?=some y→rO σ x y):mQ σ (.row e az xs) (.row e az ys)
section entry
variable {w:World} {ok fN:Nat→Prop} {aa aK:Nat→Option Nat} {hp aD:Hp} {σ:Nat→Option Nat}
theorem Rp.back (hro:∀ b,ok b→fN b) (hs:∀ j id,σ j=some id→aK j=aa id∧((hp id).isSome=true→(aD j).isSome=true)∧(∀ cs,aD j=some (.var cs)→∃ cs',hp id=some (.var cs'))∧∀ e az xs,aD j=some (.row e az xs)→∃ xs',hp id=some (.row e az xs')) {x y:SV} {v:Value} (hr:Rp w ok aa hp y v) (hb:Bk σ x y):Rp w fN aK aD x v:=by
 induction hb generalizing v with
 | dead y=>exact .dead v
 | rv r=>cases hr with | rv _ _ h=>exact .rv r v (h.mono fun b hb _=>⟨hro b hb,rfl⟩)
 | ptr j id off hj=>
   obtain ⟨g1,g2,g3,g4⟩:=hs j id hj
   cases hr with
   | ptr _ _ _ h1 h0 h=>
     refine .ptr j off v h1 (g2 h0) (fun cs hc=>?_)
     obtain ⟨cs',nC⟩:=g3 cs hc
     rw [g1];exact h cs' nC
 | bX j id az i off hj=>
   obtain ⟨g1,g2,g3,g4⟩:=hs j id hj
   cases hr with
   | bX _ _ _ _ _ h1 h0 hv h=>
     refine .bX j az i off v h1 (g2 h0) (fun e fZ xs hx=>?_) (fun e xs hx=>?_)
     ·obtain ⟨xs',hx'⟩:=g4 e fZ xs hx;exact hv e fZ xs' hx'
     ·obtain ⟨xs',hx'⟩:=g4 e az xs hx;rw [g1];exact h e xs' hx'
 | row j id az len hj=>
   obtain ⟨g1,g2,g3,g4⟩:=hs j id hj
   cases hr with
   | row _ _ _ _ h1 h0 hv h=>
     refine .row j az len v h1 (g2 h0) (fun e fZ xs hx=>?_) (fun e xs hx=>?_)
     ·obtain ⟨xs',hx'⟩:=g4 e fZ xs hx;exact hv e fZ xs' hx'
     ·obtain ⟨xs',hx'⟩:=g4 e az xs hx;rw [g1];exact h e xs' hx'
 | win j id az off len hj=>
   obtain ⟨g1,g2,g3,g4⟩:=hs j id hj
   cases hr with
   | win _ _ _ _ _ h1 h0 hv hr hc=>
     refine .win j az off len v h1 (g2 h0) (fun e fZ xs hx=>?_) (fun e xs hx=>?_) (fun cs hx=>?_)
     ·obtain ⟨xs',hx'⟩:=g4 e fZ xs hx;exact hv e fZ xs' hx'
     ·obtain ⟨xs',hx'⟩:=g4 e az xs hx;rw [g1];exact hr e xs' hx'
     ·obtain ⟨cs',hx'⟩:=g3 cs hx;rw [g1];exact hc cs' hx'
 | agg xs ys hl h ih=>
   cases hr with
   | agg _ vs hvl h1 hy=>
     refine .agg xs vs (by omega) h1 (fun j x hx=>?_)
     have hlt:=(List.getElem?_eq_some_iff.1 hx).1
     have fL:=List.getElem?_eq_getElem (l:=ys) (i:=j) (by omega)
     exact ih j x _ hx fL (hy j _ fL)
 | aP xs ys hl h ih=>
   cases hr with
   | aP _ vs hvl hy=>
     refine .aP xs vs (by omega) (fun j x hx=>?_)
     have hlt:=(List.getElem?_eq_some_iff.1 hx).1
     have fL:=List.getElem?_eq_getElem (l:=ys) (i:=j) (by omega)
     exact ih j x _ hx fL (hy j _ fL)
 | fn f xs ys hl h ih=>
   cases hr with
   | fn _ _ vs hvl hy=>
     refine .fn f xs vs (by omega) (fun j x hx=>?_)
     have hlt:=(List.getElem?_eq_some_iff.1 hx).1
     have fL:=List.getElem?_eq_getElem (l:=ys) (i:=j) (by omega)
     exact ih j x _ hx fL (hy j _ fL)
 | fG f xs ys hl h ih=>
   cases hr with
   | fG _ _ vs hvl hy=>
     refine .fG f xs vs (by omega) (fun j x hx=>?_)
     have hlt:=(List.getElem?_eq_some_iff.1 hx).1
     have fL:=List.getElem?_eq_getElem (l:=ys) (i:=j) (by omega)
     exact ih j x _ hx fL (hy j _ fL)
 | bV t x y h ih=>cases hr with | bV _ _ v0 h0=>exact .bV t x v0 (ih h0)
theorem gE.back (hro:∀ b,ok b→fN b) (hs:∀ j id,σ j=some id→aK j=aa id∧((hp id).isSome=true→(aD j).isSome=true)∧(∀ cs,aD j=some (.var cs)→∃ cs',hp id=some (.var cs'))∧∀ e az xs,aD j=some (.row e az xs)→∃ xs',hp id=some (.row e az xs')) {cur:Array Value} {off:Nat} {xs ys:List SV} (h:gE w ok aa hp cur off ys) (hb:rO σ xs ys):gE w fN aK aD cur off xs:=fun j x hx=>by
 obtain ⟨hl,hb⟩:=hb
 have hlt:=(List.getElem?_eq_some_iff.1 hx).1
 have fL:=List.getElem?_eq_getElem (l:=ys) (i:=j) (by omega)
 obtain ⟨v,h1,h2,h3⟩:=h j _ fL
 exact ⟨v,h1,h2,h3.back hro hs (hb j x _ hx fL)⟩
theorem mj.back (hro:∀ b,ok b→fN b) (hs:∀ j id,σ j=some id→aK j=aa id∧((hp id).isSome=true→(aD j).isSome=true)∧(∀ cs,aD j=some (.var cs)→∃ cs',hp id=some (.var cs'))∧∀ e az xs,aD j=some (.row e az xs)→∃ xs',hp id=some (.row e az xs')) {j id:Nat} (hj:σ j=some id) {x y:HB} (h:mj w ok aa hp id y) (hb:mQ σ x y):mj w fN aK aD j x:=by
 have g1:=(hs j id hj).1
 rcases h with ⟨h1,e,az,rfl⟩ | ⟨b,cur,t,h1,h2,h3⟩
 ·cases hb with
  | row _ _ xs _ hl _=>
    have:xs=[]:=List.eq_nil_of_length_eq_zero (by simpa using hl)
    subst this
    exact .inl ⟨g1.trans h1,e,az,rfl⟩
 ·refine .inr ⟨b,cur,t,g1.trans h1,h2,?_⟩
  cases hb with
  | var xs ys hb=>exact ⟨by rw [h3.1,hb.1],h3.2.back hro hs hb⟩
  | row e az xs ys hl hb=>
    obtain ⟨a1,a2,a3⟩:=h3
    refine ⟨fun x hx=>?_,by rw [hl];exact a2,fun i x hx=>?_⟩
    ·obtain ⟨i,hi,rfl⟩:=List.mem_iff_getElem.1 hx
     have hy:=List.getElem?_eq_getElem (l:=ys) (i:=i) (by omega)
     rw [(hb i _ _ (List.getElem?_eq_getElem hi) hy).1]
     exact a1 _ (List.getElem_mem _)
    ·have hlt:=(List.getElem?_eq_some_iff.1 hx).1
     have hy:=List.getElem?_eq_getElem (l:=ys) (i:=i) (by omega)
     exact (a3 i _ hy).back hro hs (hb i x _ hx hy)
end entry
inductive Fz (τ:Nat→Option Nat) (h:Hp):SV→RV→Prop where
 | rv (r:RV):Fz τ h (.rv r) r
 | ptr (j:Nat) (cs:List SV) (rs:List RV) (hj:τ j=none) (hh:h j=some (.var cs)) (hl:cs.length=rs.length) (h1:∀ (i:Nat) (r:RV),rs[i]?=some r→r.one=true) (hf:∀ (i:Nat) (x:SV) (r:RV),cs[i]?=some x→rs[i]?=some r→Fz τ h x r):Fz τ h (.ptr j 0) (.rop rs)
 | row (j e az len:Nat) (xs:List (List SV)) (rs:List (List RV)) (hj:τ j=none) (hh:h j=some (.row e az xs)) (hl:rs.length=len) (hx:len≤xs.length) (hm:∀ (i:Nat) (x:List SV) (r:List RV),xs[i]?=some x→rs[i]?=some r→x.length=r.length)
    (h1:∀ (i:Nat) (r:List RV) (k:Nat) (q:RV),rs[i]?=some r→r[k]?=some q→q.one=true) (hf:∀ (i:Nat) (x:List SV) (r:List RV) (k:Nat) (y:SV) (q:RV),xs[i]?=some x→rs[i]?=some r→x[k]?=some y→r[k]?=some q→Fz τ h y q):Fz τ h (.row j az len) (.sl e rs)
 | win (j az off e len:Nat) (cs:List SV) (rs:List (List RV)) (hj:τ j=none) (hh:h j=some (.var cs)) (hl:rs.length=len) (hx:off+len*e≤cs.length) (hm:∀ r∈rs,r.length=e)
    (h1:∀ (i:Nat) (r:List RV) (k:Nat) (q:RV),rs[i]?=some r→r[k]?=some q→q.one=true) (hf:∀ (i:Nat) (r:List RV) (k:Nat) (y:SV) (q:RV),rs[i]?=some r→cs[off+(i*e+k)]?=some y→r[k]?=some q→Fz τ h y q):Fz τ h (.win j az off len) (.sl e rs)
 | agg (cs:List SV) (rs:List RV) (hl:cs.length=rs.length) (h1:∀ (i:Nat) (r:RV),rs[i]?=some r→r.one=true) (hf:∀ (i:Nat) (x:SV) (r:RV),cs[i]?=some x→rs[i]?=some r→Fz τ h x r):Fz τ h (.agg cs) (.agg rs)
 | fn (f:FuncId) (cs:List SV) (rs:List RV) (hl:cs.length=rs.length) (hf:∀ (i:Nat) (x:SV) (r:RV),cs[i]?=some x→rs[i]?=some r→Fz τ h x r):Fz τ h (.fn f cs) (.fn f rs)
 | bV (t:TypeId) (x:SV) (r:RV) (hf:Fz τ h x r):Fz τ h (.bV t x) (.bV t r)
inductive Rn (τ:Nat→Option Nat) (h:Hp):SV→SV→Prop where
 | dead (x:SV):Rn τ h x .dead
 | fz (x:SV) (r:RV) (hf:Fz τ h x r):Rn τ h x (.rv r)
 | ptr (j id off:Nat) (hj:τ j=some id):Rn τ h (.ptr j off) (.ptr id off)
 | bX (j id az i off:Nat) (hj:τ j=some id):Rn τ h (.bX j az i off) (.bX id az i off)
 | row (j id az len:Nat) (hj:τ j=some id):Rn τ h (.row j az len) (.row id az len)
 | win (j id az off len:Nat) (hj:τ j=some id):Rn τ h (.win j az off len) (.win id az off len)
 | agg (xs ys:List SV) (hl:xs.length=ys.length) (hf:∀ (i:Nat) (x y:SV),xs[i]?=some x→ys[i]?=some y→Rn τ h x y):Rn τ h (.agg xs) (.agg ys)
 | aP (xs ys:List SV) (hl:xs.length=ys.length) (hf:∀ (i:Nat) (x y:SV),xs[i]?=some x→ys[i]?=some y→Rn τ h x y):Rn τ h (.aP xs) (.aP ys)
 | fn (f:FuncId) (xs ys:List SV) (hl:xs.length=ys.length) (hf:∀ (i:Nat) (x y:SV),xs[i]?=some x→ys[i]?=some y→Rn τ h x y):Rn τ h (.fn f xs) (.fn f ys)
 | fG (f:FuncId) (xs ys:List SV) (hl:xs.length=ys.length) (hf:∀ (i:Nat) (x y:SV),xs[i]?=some x→ys[i]?=some y→Rn τ h x y):Rn τ h (.fG f xs) (.fG f ys)
 | bV (t:TypeId) (x y:SV) (hf:Rn τ h x y):Rn τ h (.bV t x) (.bV t y)
def rS (τ:Nat→Option Nat) (h:Hp) (xs ys:List SV):Prop:=xs.length=ys.length∧∀ (i:Nat) (x y:SV),xs[i]?=some x→ys[i]?=some y→Rn τ h x y
inductive oU (τ:Nat→Option Nat) (h:Hp):HB→HB→Prop where
 | var (xs ys:List SV) (hf:rS τ h xs ys):oU τ h (.var xs) (.var ys)
 | row (e az:Nat) (xs ys:List (List SV)) (hl:xs.length=ys.length) (hf:∀ (i:Nat) (x y:List SV),xs[i]?=some x→ys[i]?=some y→rS τ h x y):oU τ h (.row e az xs) (.row e az ys)
section leave
variable {w:World} {ok fN:Nat→Prop} {aa aK:Nat→Option Nat} {hp aD:Hp} {τ:Nat→Option Nat}
theorem Fz.ro (hro:∀ b,fN b→ok b) (hfz:∀ j b,τ j=none→(aD j).isSome=true→aK j=some b→ok b) (hmem:∀ j hb,aD j=some hb→mj w fN aK aD j hb) {x:SV} {r:RV} {v:Value} (hr:Rp w fN aK aD x v) (hf:Fz τ aD x r):RO w ok r v:=by
 induction hf generalizing v with
 | rv r=>cases hr with | rv _ _ h=>exact h.mono fun b hb _=>⟨hro b hb,rfl⟩
 | ptr j cs rs hj hh hl ho hf ih=>
   cases hr with
   | ptr _ _ _ h1 h0 h=>
     obtain ⟨b,hb,rfl⟩:=h cs hh
     rcases hmem j _ hh with ⟨h1,_⟩ | ⟨b',cur,t,h1,h2,h3⟩
     ·rw [hb] at h1;cases h1
     ·rw [hb] at h1;cases h1
      have hcell:∀ (i:Nat) (r:RV),rs[i]?=some r→∃ u,w.cell? ((⟨b,0,none⟩:Addr).add i)=some u∧RO w ok r u∧r.one=true:=fun i r hi=>by
       have hlt:=(List.getElem?_eq_some_iff.1 hi).1
       have hx:=List.getElem?_eq_getElem (l:=cs) (i:=i) (by omega)
       obtain ⟨u,a1,a2,a3⟩:=h3.2 i _ hx
       refine ⟨u,?_,ih i _ r hx hi a3,ho i r hi⟩
       rw [add_lit,pV h2];exact a1
      refine .rop rs ⟨b,0,none⟩ (fun i=>(w.cell? ((⟨b,0,none⟩:Addr).add i)).getD undef) (fun i r hi=>?_) (fun i r hi=>?_) (fun i r hi=>?_)
      ·obtain ⟨u,a1,_⟩:=hcell i r hi
       exact ⟨hfz j b hj (by simp [hh]) hb,by rw [a1];rfl⟩
      ·obtain ⟨u,_,_,a3⟩:=hcell i r hi;exact a3
      ·obtain ⟨u,a1,a2,_⟩:=hcell i r hi;rw [a1];exact a2
 | row j e az len xs rs hj hh hl hx hm ho hf ih=>
   cases hr with
   | row _ _ _ _ h1 h0 hv h=>
     rcases h e xs hh with ⟨g1,rfl,g3⟩ | ⟨b,cap,cur,t,g1,rfl,g3,g4,g5,g6⟩
     ·have:rs=[]:=List.eq_nil_of_length_eq_zero (by omega)
      subst this
      exact .sl e [] none 0 (fun _ _=>undef) (fun _=>⟨rfl,rfl⟩) (by simp) (by simp [maxLen]) (by simp) (fun i x j y hx=>by simp at hx) (fun i x j y hx=>by simp at hx) (fun i x j y hx=>by simp at hx)
     ·rcases hmem j _ hh with ⟨h1,_⟩ | ⟨b',cur',t',k1,k2,k3⟩
      ·rw [g1] at h1;cases h1
      ·rw [g1] at k1;cases k1
       rw [g3] at k2;cases k2
       obtain ⟨a1,a2,a3⟩:=k3
       have hlen:∀ (i:Nat) (r:List RV),rs[i]?=some r→∃ x,xs[i]?=some x∧x.length=e∧x.length=r.length:=fun i r hi=>by
        have hlt:=(List.getElem?_eq_some_iff.1 hi).1
        have kE:=List.getElem?_eq_getElem (l:=xs) (i:=i) (by omega)
        exact ⟨_,kE,a1 _ (List.getElem_mem _),hm i _ r kE hi⟩
       have hcell:∀ (i:Nat) (r:List RV) (k:Nat) (q:RV),rs[i]?=some r→r[k]?=some q→∃ u,w.cell? ((⟨b,0,none⟩:Addr).add (i*e+k))=some u∧RO w ok q u∧q.one=true:=fun i r k q hi hk=>by
        obtain ⟨x,kE,qQ,WK⟩:=hlen i r hi
        have hlt:=(List.getElem?_eq_some_iff.1 hk).1
        have hy:=List.getElem?_eq_getElem (l:=x) (i:=k) (by omega)
        obtain ⟨u,b1,b2,b3⟩:=a3 i x kE k _ hy
        refine ⟨u,?_,ih i x r k _ q kE hi hy hk b3,ho i r k q hi hk⟩
        rw [add_lit,pV g3,Nat.zero_add];exact b1
       rw [← hl]
       refine .sl e rs (some ⟨b,0,none⟩) cap (fun i k=>(w.cell? ((⟨b,0,none⟩:Addr).add (i*e+k))).getD undef) (fun h=>by cases h) (by omega) g5 (fun r hr=>?_) (fun i r k q hi hk=>?_) (fun i r k q hi hk=>?_) (fun i r k q hi hk=>?_)
       ·obtain ⟨i,hi,rfl⟩:=List.mem_iff_getElem.1 hr
        obtain ⟨x,_,b1,b2⟩:=hlen i _ (List.getElem?_eq_getElem hi)
        omega
       ·obtain ⟨u,b1,_⟩:=hcell i r k q hi hk
        exact ⟨_,rfl,hfz j b hj (by simp [hh]) g1,by rw [b1];rfl⟩
       ·obtain ⟨u,_,_,b3⟩:=hcell i r k q hi hk;exact b3
       ·obtain ⟨u,b1,b2,_⟩:=hcell i r k q hi hk;rw [b1];exact b2
 | win j az off e len cs rs hj hh hl hx hm ho hf ih=>
   cases hr with
   | win _ _ _ _ _ h1 h0 hv hr hc=>
     obtain ⟨ad,cap,rfl,g1,g2,g3,g4⟩:=hc cs hh
     rw [← hl]
     have key:∀ (i:Nat) (r:List RV) (k:Nat) (q:RV),rs[i]?=some r→r[k]?=some q→∃ a u,ad=some a∧ok a.block∧w.cell? (a.add (i*e+k))=some u∧RO w ok q u:=fun i r k q hi hk=>by
      have hlt:=(List.getElem?_eq_some_iff.1 hi).1
      have WE:=hm r (List.mem_of_getElem? hi)
      have gI:=(List.getElem?_eq_some_iff.1 hk).1
      obtain ⟨b,hb,rfl⟩:=g4 (by omega)
      rcases hmem j _ hh with ⟨h1,_,_,h2⟩ | ⟨b',cur,t,a1,a2,a3⟩
      ·cases h2
      ·rw [hb] at a1;cases a1
       have hik:i*e+k<len*e:=by
        have:(i+1)*e≤len*e:=Nat.mul_le_mul_right _ (by omega)
        rw [Nat.add_mul] at this;omega
       have hy:=List.getElem?_eq_getElem (l:=cs) (i:=off+(i*e+k)) (by omega)
       obtain ⟨u,b1,b2,b3⟩:=a3.2 _ _ hy
       refine ⟨⟨b,off,none⟩,u,rfl,hfz j b hj (by simp [hh]) hb,?_,ih i r k _ q hi hy hk b3⟩
       rw [add_lit,pV a2];simpa using b1
     refine .sl e rs ad cap (fun i k=>match ad with | some a=>(w.cell? (a.add (i*e+k))).getD undef | none=>undef) (fun h=>?_) (by omega) g2 hm (fun i r k q hi hk=>?_) ho (fun i r k q hi hk=>?_)
     ·have:=g3 h;exact ⟨List.eq_nil_of_length_eq_zero (by omega),this⟩
     ·obtain ⟨a,u,rfl,b1,b2,b3⟩:=key i r k q hi hk
      exact ⟨a,rfl,b1,by simp only [b2];rfl⟩
     ·obtain ⟨a,u,rfl,b1,b2,b3⟩:=key i r k q hi hk
      simp only [b2];exact b3
 | agg cs rs hl ho hf ih=>
   cases hr with
   | agg _ vs hvl h1 hy=>
     refine .agg rs vs (by omega) (fun i r hi=>?_) (fun i r hi=>?_)
     ·have hlt:=(List.getElem?_eq_some_iff.1 hi).1
      exact ho i r hi
     ·have hlt:=(List.getElem?_eq_some_iff.1 hi).1
      have hx:=List.getElem?_eq_getElem (l:=cs) (i:=i) (by omega)
      exact ih i _ r hx hi (hy i _ hx)
 | fn f cs rs hl hf ih=>
   cases hr with
   | fn _ _ vs hvl hy=>
     refine .fn f rs vs (by omega) (fun i r hi=>?_)
     have hlt:=(List.getElem?_eq_some_iff.1 hi).1
     have hx:=List.getElem?_eq_getElem (l:=cs) (i:=i) (by omega)
     exact ih i _ r hx hi (hy i _ hx)
 | bV t x r hf ih=>cases hr with | bV _ _ v0 h0=>exact .bV t r v0 (ih h0)
theorem Rp.leave (hro:∀ b,fN b→ok b) (hfz:∀ j b,τ j=none→(aD j).isSome=true→aK j=some b→ok b) (hmem:∀ j hb,aD j=some hb→mj w fN aK aD j hb)
 (hs:∀ j id,τ j=some id→aK j=aa id∧((aD j).isSome=true→(hp id).isSome=true)∧(∀ cs,hp id=some (.var cs)→∃ cs',aD j=some (.var cs'))∧∀ e az xs,hp id=some (.row e az xs)→∃ xs',aD j=some (.row e az xs'))
 {x y:SV} {v:Value} (hr:Rp w fN aK aD x v) (hf:Rn τ aD x y):Rp w ok aa hp y v:=by
 induction hf generalizing v with
 | dead x=>exact .dead v
 | fz x r hf=>exact .rv r v (Fz.ro hro hfz hmem hr hf)
 | ptr j id off hj=>
   obtain ⟨g1,g2,g3,g4⟩:=hs j id hj
   cases hr with
   | ptr _ _ _ h1 h0 h=>
     refine .ptr id off v h1 (g2 h0) (fun cs hc=>?_)
     obtain ⟨cs',nC⟩:=g3 cs hc
     rw [← g1];exact h cs' nC
 | bX j id az i off hj=>
   obtain ⟨g1,g2,g3,g4⟩:=hs j id hj
   cases hr with
   | bX _ _ _ _ _ h1 h0 hv h=>
     refine .bX id az i off v h1 (g2 h0) (fun e fZ xs hx=>?_) (fun e xs hx=>?_)
     ·obtain ⟨xs',hx'⟩:=g4 e fZ xs hx;exact hv e fZ xs' hx'
     ·obtain ⟨xs',hx'⟩:=g4 e az xs hx;rw [← g1];exact h e xs' hx'
 | row j id az len hj=>
   obtain ⟨g1,g2,g3,g4⟩:=hs j id hj
   cases hr with
   | row _ _ _ _ h1 h0 hv h=>
     refine .row id az len v h1 (g2 h0) (fun e fZ xs hx=>?_) (fun e xs hx=>?_)
     ·obtain ⟨xs',hx'⟩:=g4 e fZ xs hx;exact hv e fZ xs' hx'
     ·obtain ⟨xs',hx'⟩:=g4 e az xs hx;rw [← g1];exact h e xs' hx'
 | win j id az off len hj=>
   obtain ⟨g1,g2,g3,g4⟩:=hs j id hj
   cases hr with
   | win _ _ _ _ _ h1 h0 hv hr hc=>
     refine .win id az off len v h1 (g2 h0) (fun e fZ xs hx=>?_) (fun e xs hx=>?_) (fun cs hx=>?_)
     ·obtain ⟨xs',hx'⟩:=g4 e fZ xs hx;exact hv e fZ xs' hx'
     ·obtain ⟨xs',hx'⟩:=g4 e az xs hx;rw [← g1];exact hr e xs' hx'
     ·obtain ⟨cs',hx'⟩:=g3 cs hx;rw [← g1];exact hc cs' hx'
 | agg xs ys hl h ih=>
   cases hr with
   | agg _ vs hvl h1 hy=>
     refine .agg ys vs (by omega) h1 (fun j y fL=>?_)
     have hlt:=(List.getElem?_eq_some_iff.1 fL).1
     have hx:=List.getElem?_eq_getElem (l:=xs) (i:=j) (by omega)
     exact ih j _ y hx fL (hy j _ hx)
 | aP xs ys hl h ih=>
   cases hr with
   | aP _ vs hvl hy=>
     refine .aP ys vs (by omega) (fun j y fL=>?_)
     have hlt:=(List.getElem?_eq_some_iff.1 fL).1
     have hx:=List.getElem?_eq_getElem (l:=xs) (i:=j) (by omega)
     exact ih j _ y hx fL (hy j _ hx)
 | fn f xs ys hl h ih=>
   cases hr with
   | fn _ _ vs hvl hy=>
     refine .fn f ys vs (by omega) (fun j y fL=>?_)
     have hlt:=(List.getElem?_eq_some_iff.1 fL).1
     have hx:=List.getElem?_eq_getElem (l:=xs) (i:=j) (by omega)
     exact ih j _ y hx fL (hy j _ hx)
 | fG f xs ys hl h ih=>
   cases hr with
   | fG _ _ vs hvl hy=>
     refine .fG f ys vs (by omega) (fun j y fL=>?_)
     have hlt:=(List.getElem?_eq_some_iff.1 fL).1
     have hx:=List.getElem?_eq_getElem (l:=xs) (i:=j) (by omega)
     exact ih j _ y hx fL (hy j _ hx)
 | bV t x y h ih=>cases hr with | bV _ _ v0 h0=>exact .bV t y v0 (ih h0)
theorem gE.leave (hro:∀ b,fN b→ok b) (hfz:∀ j b,τ j=none→(aD j).isSome=true→aK j=some b→ok b) (hmem:∀ j hb,aD j=some hb→mj w fN aK aD j hb)
 (hs:∀ j id,τ j=some id→aK j=aa id∧((aD j).isSome=true→(hp id).isSome=true)∧(∀ cs,hp id=some (.var cs)→∃ cs',aD j=some (.var cs'))∧∀ e az xs,hp id=some (.row e az xs)→∃ xs',aD j=some (.row e az xs'))
 {cur:Array Value} {off:Nat} {xs ys:List SV} (h:gE w fN aK aD cur off xs) (hb:rS τ aD xs ys):gE w ok aa hp cur off ys:=fun j y fL=>by
 obtain ⟨hl,hb⟩:=hb
 have hlt:=(List.getElem?_eq_some_iff.1 fL).1
 have hx:=List.getElem?_eq_getElem (l:=xs) (i:=j) (by omega)
 obtain ⟨v,h1,h2,h3⟩:=h j _ hx
 exact ⟨v,h1,h2,h3.leave hro hfz hmem hs (hb j _ y hx fL)⟩
theorem mj.leave (hro:∀ b,fN b→ok b) (hfz:∀ j b,τ j=none→(aD j).isSome=true→aK j=some b→ok b) (hmem:∀ j hb,aD j=some hb→mj w fN aK aD j hb)
 (hs:∀ j id,τ j=some id→aK j=aa id∧((aD j).isSome=true→(hp id).isSome=true)∧(∀ cs,hp id=some (.var cs)→∃ cs',aD j=some (.var cs'))∧∀ e az xs,hp id=some (.row e az xs)→∃ xs',aD j=some (.row e az xs'))
 {j id:Nat} (hj:τ j=some id) {x y:HB} (h:mj w fN aK aD j x) (hb:oU τ aD x y):mj w ok aa hp id y:=by
 have g1:=(hs j id hj).1
 rcases h with ⟨h1,e,az,rfl⟩ | ⟨b,cur,t,h1,h2,h3⟩
 ·cases hb with
  | row _ _ _ ys hl _=>
    have:ys=[]:=List.eq_nil_of_length_eq_zero (by simpa using hl.symm)
    subst this
    exact .inl ⟨g1.symm.trans h1,e,az,rfl⟩
 ·refine .inr ⟨b,cur,t,g1.symm.trans h1,h2,?_⟩
  cases hb with
  | var xs ys hb=>exact ⟨h3.1.trans hb.1,h3.2.leave hro hfz hmem hs hb⟩
  | row e az xs ys hl hb=>
    obtain ⟨a1,a2,a3⟩:=h3
    refine ⟨fun y hy=>?_,by rw [← hl];exact a2,fun i y hy=>?_⟩
    ·obtain ⟨i,hi,rfl⟩:=List.mem_iff_getElem.1 hy
     have hx:=List.getElem?_eq_getElem (l:=xs) (i:=i) (by omega)
     rw [← (hb i _ _ hx (List.getElem?_eq_getElem hi)).1]
     exact a1 _ (List.getElem_mem _)
    ·have hlt:=(List.getElem?_eq_some_iff.1 hy).1
     have hx:=List.getElem?_eq_getElem (l:=xs) (i:=i) (by omega)
     exact (a3 i _ hx).leave hro hfz hmem hs (hb i _ y hx hy)
end leave
end Go.aL

namespace Go.aL
open Go
inductive RR where
 | t (n:Nat)
 | c (a n:Nat) (agg:Bool)
 deriving DecidableEq
def qH (P:Program):List ResultVar→Option (List RR)
 | []=>some []
 | .tmp t::r=>match qH P r with
   | some l=>some (.t t::l)
   | none=>none
 | .cell a t::r=>match cg P t,fC P t,qH P r with
   | some n,some agg,some l=>some (.c a n agg::l)
   | _,_,_=>none
def aQ (en:Nat→SV) (hp:Hp):List RR→Option (Prop×List SV)
 | []=>some (True,[])
 | .t n::r=>match aQ en hp r with
   | some (p,xs)=>some (p,en n::xs)
   | none=>none
 | .c a n agg::r=>match iz n agg hp (en a),aQ en hp r with
   | some (q,x,_,_),some (p,xs)=>some (q∧p,x::xs)
   | _,_=>none
def aV:List SV→SV
 | [x]=>x
 | xs=>.aP xs
def nK:Nat→List SV→List (Nat×SV)
 | _,[]=>[]
 | n,x::r=>(n,x)::nK (n+1) r
theorem GG:∀ (xs:List SV) (n m:Nat),lk (nK n xs) m=if n≤m then (xs[m - n]?).getD .dead else .dead
 | [],n,m=>by simp [nK,lk]
 | x::r,n,m=>by
   unfold nK lk
   by_cases h:n=m
   ·subst h;simp
   ·rw [if_neg h,GG r (n+1) m]
    by_cases h1:n+1≤m
    ·rw [if_pos h1,if_pos (by omega)]
     rw [show m - n=(m - (n+1))+1 by omega,List.getElem?_cons_succ]
    ·rw [if_neg h1,if_neg (by omega)]
structure Fin (σ:List Nat) (pre us:List (Nat×HB)) (rs:List RR) (sv:SV) (env:List (Nat×SV)) (h:List (Option HB)) (τ:Nat→Option Nat):Prop where
 inj:∀ i j id,τ i=some id→τ j=some id→i=j
 old:∀ (j id:Nat),σ[j]?=some id→τ j=some id
 new:∀ j id,τ j=some id→σ.length≤j→id∈us.map (·.1)∧∀ q∈pre,q.1≠id
 has:∀ j id,τ j=some id→∃ hb hb',aB h j=some hb∧oU τ (aB h) hb hb'∧∀ hp,aY hp pre→bM hp us id=some hb'
 all:∀ q∈us,∃ j,τ j=some q.1
 res:∃ p xs,aQ (lk env) (aB h) rs=some (p,xs)∧p∧Rn τ (aB h) (aV xs) sv
theorem zY {hp:Hp}:∀ {us:List (Nat×HB)} {id:Nat},id∉us.map (·.1)→bM hp us id=hp id
 | us,id,h=>th (fun q hq he=>h (List.mem_map.2 ⟨q,hq,he⟩))
def CE (vs:List Value):Value:=match vs with
 | [v]=>v
 | vs=>.tuple vs.toArray
theorem Tu {w:World} {ok:Nat→Prop} {aa:Nat→Option Nat} {hp:Hp} {xs:List SV} {vs:List Value} (hl:vs.length=xs.length) (h:∀ (j:Nat) (x:SV),xs[j]?=some x→Rp w ok aa hp x (vs.getD j undef)):Rp w ok aa hp (aV xs) (CE vs):=by
 match xs,vs with
 | [],[]=>exact .aP [] [] rfl h
 | [x],[v]=>exact h 0 x rfl
 | x::y::r,u::v::s=>exact .aP _ _ hl h
theorem Sf {P:Program} {t:TypeId} {v x:Value} {w w':World} (h:(Instr.loadAt t v).run P w = .ok x w'):(do loadVar t (← asAddr v):Sem Value).run P w = .ok x w':=by
 cases v with
 | pointer a=>
   cases a with
   | some a=>exact h
   | none=>simp [Instr.loadAt,Instr.sureAddr,stuck,Result.andThen] at h
 | _=>simp [Instr.loadAt,Instr.sureAddr,stuck,Result.andThen] at h
theorem TD {P:Program} {C:Ctx} {hp:Hp} {w:World} {aa:Nat→Option Nat} (R:cn C hp w aa) {en:Nat→SV} {tmps:Array Value} (he:∀ n,Rp w (aJ C aa hp) aa hp (en n) (tmps.getD n undef)) {fn:Func} {rs:List RR} (h:qH P fn.results.toList=some rs) {p:Prop} {xs:List SV} (hr:aQ en hp rs=some (p,xs)) (aD:p) :
 ∃ vs,(results fn tmps).run P w = .ok (CE vs) w∧Rp w (aJ C aa hp) aa hp (aV xs) (CE vs):=by
 have key:∀ (l:List ResultVar) (rs:List RR) (p:Prop) (xs:List SV),qH P l=some rs→aQ en hp rs=some (p,xs)→p→∃ vs,vs.length=xs.length∧(∀ (j:Nat) (x:SV),xs[j]?=some x→Rp w (aJ C aa hp) aa hp x (vs.getD j undef))∧(l.mapM fun r=>(match r with
  | .tmp t=>pure (tmps.getD t undef)
  | .cell a t=>do loadVar t (← asAddr (tmps.getD a undef)):Sem Value)).run P w = .ok vs w:=by
  intro l
  induction l with
  | nil=>intro rs p xs h hr hp;cases h;cases hr;exact ⟨[],rfl,fun j x hx=>by simp at hx,rfl⟩
  | cons x r ih=>
    intro rs p xs h hr hp
    cases x with
    | tmp t=>
      unfold qH at h
      split at h
      ·rename_i l hl
       cases h
       unfold aQ at hr
       split at hr
       ·rename_i p0 gC yQ
        cases hr
        obtain ⟨vs,h1,h2,h3⟩:=ih l p gC hl yQ hp
        refine ⟨tmps.getD t undef::vs,by simp [h1],fun j x hx=>?_,?_⟩
        ·cases j with
         | zero=>simp at hx;subst hx;exact he t
         | succ j=>exact h2 j x (by simpa using hx)
        ·simp only [List.mapM_cons,Sem.run_bind,Sem.run_pure,h3,Result.andThen]
       ·cases hr
      ·cases h
    | cell a t=>
      unfold qH at h
      split at h
      ·rename_i n agg l hs ha hl
       cases h
       unfold aQ at hr
       split at hr
       ·rename_i q x u rd p0 gC hE yQ
        cases hr
        obtain ⟨vs,h1,h2,h3⟩:=ih l p0 gC hl yQ hp.2
        obtain ⟨_,y,hy1,yS⟩:=Cl R hs ha (he a) hE hp.1
        refine ⟨y::vs,by simp [h1],fun j x hx=>?_,?_⟩
        ·cases j with
         | zero=>simp at hx;subst hx;exact yS
         | succ j=>exact h2 j x (by simpa using hx)
        ·have:=Sf hy1
         rw [List.mapM_cons,Sem.run_bind]
         refine (congrArg (fun r=>Result.andThen r _) this).trans ?_
         simp only [Result.andThen,Sem.run_bind,h3,Sem.run_pure]
       ·cases hr
      ·cases h
 obtain ⟨vs,h1,h2,h3⟩:=key _ _ _ _ h hr aD
 have hm:(fn.results.mapM fun r=>(match r with
  | .tmp t=>pure (tmps.getD t undef)
  | .cell a t=>do loadVar t (← asAddr (tmps.getD a undef)):Sem Value)).run P w = .ok vs.toArray w:=by
  rw [Array.mapM_eq_mapM_toList,Sem.run_map,h3]
  rfl
 refine ⟨vs,?_,Tu h1 h2⟩
 unfold results
 rw [Sem.run_bind]
 refine (congrArg (fun r=>Result.andThen r _) hm).trans ?_
 show (pure _:Sem Value).run P w=_
 rw [Sem.run_pure]
 match vs with
 | []=>rfl
 | [t]=>rfl
 | t::u::r=>rfl
section
variable {P:Program} {C:Ctx} {hp:Hp} {w:World} {aa:Nat→Option Nat}
def inner (C:Ctx) (aa:Nat→Option Nat) (hp:Hp) (w:World) (N:Nat) (σ:List Nat) (hs0:List (Option HB)):Ctx:=
 ⟨w,aJ C aa hp,fun b=>∃ (j:Nat) (id:Nat),σ[j]?=some id∧aa id=some b,N,fun j=>(σ[j]?).bind aa,aB hs0⟩
theorem pz {hs:List (Option HB)} {j:Nat} {hb:HB}:aB hs j=some hb↔hs[j]?=some (some hb):=by
 unfold aB
 cases h:hs[j]? with
 | none=>simp
 | some x=>simp
theorem LL (R:cn C hp w aa) {N:Nat} {σ:List Nat} {hs0:List (Option HB)} {pre:List (Nat×HB)} (hpre:aY hp pre) (hl:hs0.length=σ.length) (hinj:∀ (i j id:Nat),σ[i]?=some id→σ[j]?=some id→i=j)
 (oz:∀ (j id:Nat),σ[j]?=some id→∃ hb hb',hs0[j]?=some (some hb)∧(id,hb')∈pre∧mQ (fun j=>σ[j]?) hb hb') :
 cn (inner C aa hp w N σ hs0) (aB hs0) w (fun j=>(σ[j]?).bind aa)∧(∀ b,aJ C aa hp b→aJ (inner C aa hp w N σ hs0) (fun j=>(σ[j]?).bind aa) (aB hs0) b)∧
 (∀ {x y:SV} {v:Value},Rp w (aJ C aa hp) aa hp y v→Bk (fun j=>σ[j]?) x y→Rp w (aJ (inner C aa hp w N σ hs0) (fun j=>(σ[j]?).bind aa) (aB hs0)) (fun j=>(σ[j]?).bind aa) (aB hs0) x v):=by
 have at_:∀ j hb,aB hs0 j=some hb→∃ id hb',σ[j]?=some id∧hp id=some hb'∧mQ (fun j=>σ[j]?) hb hb':=fun j hb h=>by
  rw [pz] at h
  have hlt:=(List.getElem?_eq_some_iff.1 h).1
  have hid:=List.getElem?_eq_getElem (l:=σ) (i:=j) (by omega)
  obtain ⟨hb0,hb',h1,h2,h3⟩:=oz j _ hid
  rw [h] at h1;cases h1
  exact ⟨_,hb',hid,hpre _ h2,h3⟩
 have hro:∀ b,aJ C aa hp b→aJ (inner C aa hp w N σ hs0) (fun j=>(σ[j]?).bind aa) (aB hs0) b:=fun b hb=>by
  refine ⟨.inl hb,fun j hj=>?_⟩
  obtain ⟨x,hx⟩:=Option.isSome_iff_exists.1 hj
  obtain ⟨id,hb',h1,h2,h3⟩:=at_ j x hx
  simp only [h1,Option.bind_some]
  exact hb.2 id (by simp [h2])
 have hs:∀ (j id:Nat),σ[j]?=some id→(σ[j]?).bind aa=aa id∧((hp id).isSome=true→(aB hs0 j).isSome=true)∧(∀ cs,aB hs0 j=some (.var cs)→∃ cs',hp id=some (.var cs'))∧∀ e az xs,aB hs0 j=some (.row e az xs)→∃ xs',hp id=some (.row e az xs'):=fun j id h=>by
  obtain ⟨hb0,hb',h1,h2,h3⟩:=oz j id h
  refine ⟨by rw [h];rfl,fun _=>by rw [pz.2 h1];rfl,fun cs hc=>?_,fun e az xs hc=>?_⟩
  ·rw [pz.2 h1] at hc;cases hc
   cases h3 with
   | var _ ys _=>exact ⟨ys,hpre _ h2⟩
  ·rw [pz.2 h1] at hc;cases hc
   cases h3 with
   | row _ _ _ ys _ _=>exact ⟨ys,hpre _ h2⟩
 refine ⟨⟨fun j hb h=>?_,fun i j b h1 h2 h3 h4=>?_,fun j b h1 h2=>?_,⟨rfl,rfl,rfl,Nat.le_refl _,fun b _ _=>rfl⟩,fun j hb hb0 h1 h2=>?_⟩,hro,fun hr hb=>hr.back hro hs hb⟩
 ·obtain ⟨id,hb',h1,h2,h3⟩:=at_ j hb h
  exact (R.heap id hb' h2).back hro hs h1 h3
 ·obtain ⟨x,hx⟩:=Option.isSome_iff_exists.1 h1
  obtain ⟨y,hy⟩:=Option.isSome_iff_exists.1 h2
  obtain ⟨id,_,a1,a2,_⟩:=at_ i x hx
  obtain ⟨id',_,b1,b2,_⟩:=at_ j y hy
  simp only [a1,b1,Option.bind_some] at h3 h4
  obtain rfl:=R.inj id id' b (by simp [a2]) (by simp [b2]) h3 h4
  exact hinj i j id a1 b1
 ·obtain ⟨x,hx⟩:=Option.isSome_iff_exists.1 h1
  obtain ⟨id,_,a1,a2,_⟩:=at_ j x hx
  simp only [a1,Option.bind_some] at h2
  exact ⟨.inl ⟨h1,by simp only [inner,a1,Option.bind_some];exact h2,j,id,a1,h2⟩,(R.own id b (by simp [a2]) h2).2⟩
 ·have qf:aB hs0 j=some hb0:=h2
  rw [h1] at qf;cases qf
  exact jz.refl _ _ _
theorem RK (R:cn C hp w aa) {N:Nat} {σ:List Nat} {hs0:List (Option HB)} {pre us:List (Nat×HB)} (hpre:aY hp pre) (hnew:rR C hp pre us)
 (oz:∀ (j id:Nat),σ[j]?=some id→∃ hb hb',hs0[j]?=some (some hb)∧(id,hb')∈pre∧mQ (fun j=>σ[j]?) hb hb')
 {w':World} {aK:Nat→Option Nat} {h:List (Option HB)} (R':cn (inner C aa hp w N σ hs0) (aB h) w' aK) {rs:List RR} {sv:SV} {env:List (Nat×SV)} {τ:Nat→Option Nat} (F:Fin σ pre us rs sv env h τ) :
 ∃ gu,Step C hp (bM hp us) w w' aa gu∧∀ (x y:SV) (v:Value),Rp w' (aJ (inner C aa hp w N σ hs0) aK (aB h)) aK (aB h) x v→Rn τ (aB h) x y→Rp w' (aJ C gu (bM hp us)) gu (bM hp us) y v:=by
 classical
 let gu:Nat→Option Nat:=fun id=>if h:∃ j,τ j=some id then aK h.choose else aa id
 have rT:∀ j id,τ j=some id→gu id=aK j:=fun j id hj=>by
  have hex:∃ j,τ j=some id:=⟨j,hj⟩
  show (if h:∃ j,τ j=some id then aK h.choose else aa id)=_
  rw [dif_pos hex,F.inj _ _ _ hex.choose_spec hj]
 have rN:∀ id,(¬ ∃ j,τ j=some id)→gu id=aa id:=fun id hj=>by
  show (if h:∃ j,τ j=some id then aK h.choose else aa id)=_
  rw [dif_neg hj]
 have hT:∀ j id,τ j=some id→∃ hb hb',aB h j=some hb∧oU τ (aB h) hb hb'∧bM hp us id=some hb':=fun j id hj=>by
  obtain ⟨hb,hb',h1,h2,h3⟩:=F.has j id hj
  exact ⟨hb,hb',h1,h2,h3 hp hpre⟩
 have hN:∀ id,(¬ ∃ j,τ j=some id)→bM hp us id=hp id:=fun id hj=>th (fun q hq he=>hj (by rw [← he];exact F.all q hq))
 have hold:∀ j id,τ j=some id→(hp id).isSome=true→σ[j]?=some id:=fun j id hj hs=>by
  by_cases hlt:j<σ.length
  ·have hid:=List.getElem?_eq_getElem hlt
   have:=F.old j _ hid
   rw [hj] at this;cases this
   exact hid
  ·obtain ⟨hu,hq⟩:=F.new j id hj (by omega)
   obtain ⟨q,BF,ng⟩:=List.mem_map.1 hu
   rcases hnew q BF with ⟨hb,hm⟩ | ⟨hn,_⟩
   ·exact absurd ng (hq (q.1,hb) hm)
   ·rw [ng] at hn;rw [hn] at hs;cases hs
 have hnone:∀ j id,τ j=some id→hp id=none→C.h0 id=none:=fun j id hj hn=>by
  by_cases hlt:j<σ.length
  ·have hid:=List.getElem?_eq_getElem hlt
   have:=F.old j _ hid
   rw [hj] at this;cases this
   obtain ⟨hb,hb',_,h2,_⟩:=oz j _ hid
   rw [hpre _ h2] at hn;cases hn
  ·obtain ⟨hu,hq⟩:=F.new j id hj (by omega)
   obtain ⟨q,BF,ng⟩:=List.mem_map.1 hu
   rcases hnew q BF with ⟨hb,hm⟩ | ⟨_,hn⟩
   ·exact absurd ng (hq (q.1,hb) hm)
   ·rw [← ng];exact hn
 have hsz:w.heap.size≤w'.heap.size:=R'.fr.size
 have iH:∀ b,b<w.heap.size→(∀ j id,σ[j]?=some id→aa id≠some b)→w'.heap[b]?=w.heap[b]?:=fun b hb hn=>R'.fr.block b hb (fun ⟨j,id,h1,h2⟩=>hn j id h1 h2)
 have hin:∀ (j id:Nat),σ[j]?=some id→(hp id).isSome=true:=fun j id hj=>by
  obtain ⟨hb,hb',_,h2,_⟩:=oz j id hj
  rw [hpre _ h2];rfl
 have vB:∀ j id,τ j=some id→(aB h j).isSome=true:=fun j id hj=>by
  obtain ⟨hb,_,h1,_⟩:=hT j id hj
  rw [h1];rfl
 have zq:∀ j id b,τ j=some id→aK j=some b→((σ[j]?=some id∧aa id=some b)∨w.heap.size≤b)∧b<w'.heap.size:=fun j id b hj hb=>by
  obtain ⟨h1,h2⟩:=R'.own j b (vB j id hj) hb
  refine ⟨?_,h2⟩
  rcases h1 with ⟨a1,a2,_⟩ | a
  ·left
   have rU:(σ[j]?).bind aa=some b:=a2
   cases hid:σ[j]? with
   | none=>rw [hid] at rU;cases rU
   | some id'=>
     rw [hid] at rU
     have:=F.old j id' hid
     rw [hj] at this;cases this
     exact ⟨rfl,rU⟩
  ·exact .inr a
 have wF:∀ b,aJ (inner C aa hp w N σ hs0) aK (aB h) b→aJ C gu (bM hp us) b:=fun b hb=>by
  obtain ⟨h1,h2⟩:=hb
  have hb0:C.wE b∨C.w0.heap.size≤b:=by
   rcases h1 with a | a
   ·exact a.1
   ·exact .inr (Nat.le_trans R.fr.size a)
  refine ⟨hb0,fun id hid he=>?_⟩
  by_cases hr:∃ j,τ j=some id
  ·obtain ⟨j,hj⟩:=hr
   rw [rT j id hj] at he
   exact h2 j (vB j id hj) he
  ·rw [hN id hr] at hid
   rw [rN id hr] at he
   rcases h1 with a | a
   ·exact a.2 id hid he
   ·have:=(R.own id b hid he).2
    have a':w.heap.size≤b:=a
    omega
 have wG:∀ j b,τ j=none→(aB h j).isSome=true→aK j=some b→aJ C gu (bM hp us) b:=fun j b hj hs hb=>by
  have hbw:w.heap.size≤b:=by
   rcases (R'.own j b hs hb).1 with ⟨a1,a2,_⟩ | a
   ·have rU:(σ[j]?).bind aa=some b:=a2
    cases hid:σ[j]? with
    | none=>rw [hid] at rU;cases rU
    | some id'=>rw [F.old j id' hid] at hj;cases hj
   ·exact a
  refine ⟨.inr (Nat.le_trans R.fr.size hbw),fun id hid he=>?_⟩
  by_cases hr:∃ j,τ j=some id
  ·obtain ⟨i,hi⟩:=hr
   rw [rT i id hi] at he
   have:=R'.inj i j b (vB i id hi) hs he hb
   subst this
   rw [hi] at hj;cases hj
  ·rw [hN id hr] at hid
   rw [rN id hr] at he
   have:=(R.own id b hid he).2
   omega
 have hs:∀ j id,τ j=some id→aK j=gu id∧((aB h j).isSome=true→(bM hp us id).isSome=true)∧(∀ cs,bM hp us id=some (.var cs)→∃ cs',aB h j=some (.var cs'))∧∀ e az xs,bM hp us id=some (.row e az xs)→∃ xs',aB h j=some (.row e az xs'):=fun j id hj=>by
  obtain ⟨hb,hb',h1,h2,h3⟩:=hT j id hj
  refine ⟨(rT j id hj).symm,fun _=>by rw [h3];rfl,fun cs hc=>?_,fun e az xs hc=>?_⟩
  ·rw [h3] at hc;cases hc
   cases h2 with
   | var xs _ _=>exact ⟨xs,h1⟩
  ·rw [h3] at hc;cases hc
   cases h2 with
   | row _ _ xs _ _ _=>exact ⟨xs,h1⟩
 have sU:∀ b,aJ C aa hp b→b<w.heap.size→aJ C gu (bM hp us) b∧w'.heap[b]?=w.heap[b]?:=fun b hb hlt=>by
  refine ⟨⟨hb.1,fun id hid he=>?_⟩,iH b hlt (fun j id hj he=>hb.2 id (hin j id hj) he)⟩
  by_cases hr:∃ j,τ j=some id
  ·obtain ⟨j,hj⟩:=hr
   rw [rT j id hj] at he
   rcases (zq j id b hj he).1 with ⟨a1,a2⟩ | a
   ·exact hb.2 id (hin j id a1) a2
   ·omega
  ·rw [hN id hr] at hid
   rw [rN id hr] at he
   exact hb.2 id hid he
 have Ez:∀ id hb,hp id=some hb→∃ hb',bM hp us id=some hb'∧jz w w' (aa id) (gu id) hb hb':=fun id hb hq=>by
  by_cases hr:∃ j,τ j=some id
  ·obtain ⟨j,hj⟩:=hr
   obtain ⟨yC,hb',h1,h2,h3⟩:=hT j id hj
   refine ⟨hb',h3,?_⟩
   have hid:=hold j id hj (by rw [hq];rfl)
   obtain ⟨hb0,Wy,g1,g2,g3⟩:=oz j id hid
   have:=hpre _ g2
   rw [hq] at this;cases this
   have ev:=R'.jW j yC hb0 h1 (pz.2 g1)
   have ev':jz w w' (aa id) (aK j) hb0 yC:=by
    have e:(inner C aa hp w N σ hs0).CG j=aa id:=by show (σ[j]?).bind aa=_;rw [hid];rfl
    rw [e] at ev;exact ev
   rw [rT j id hj]
   cases g3 with
   | var xs ys hb=>
     cases h2 with
     | var uP We hf=>exact ev'
     | row=>exact ev'.elim
   | row e az xs ys hl hb=>
     cases h2 with
     | var=>exact ev'.elim
     | row e2 zZ uP We vC hf=>exact ev'
  ·refine ⟨hb,by rw [hN id hr];exact hq,?_⟩
   rw [rN id hr]
   cases hb with
   | var cs=>rfl
   | row e az xs=>
     refine ⟨Nat.le_refl _,fun _=>⟨rfl,rfl,fun b hb cur t hc=>⟨cur,t,?_,rfl⟩⟩⟩
     rw [iH b ((R.own id b (by rw [hq];rfl) hb).2) (fun j id' hj he=>?_)];exact hc
     obtain rfl:=R.inj id id' b (by rw [hq];rfl) (hin j id' hj) hb he
     exact hr ⟨j,F.old j id hj⟩
 have E:jc w w' (aJ C aa hp) (aJ C gu (bM hp us)) aa gu hp (bM hp us):=jc.of sU Ez
 refine ⟨gu,⟨⟨fun id hb hq=>?_,fun i j b h1 h2 h3 h4=>?_,fun id b h1 h2=>?_,⟨R'.fr.os.trans R.fr.os,R'.fr.tape.trans R.fr.tape,R'.fr.output.trans R.fr.output,Nat.le_trans R.fr.size hsz,fun b h1 h2=>?_⟩,fun id hb hb0 h1 h2=>?_⟩,E⟩,fun x y v hr hf=>hr.leave wF wG (fun j hb hj=>R'.heap j hb hj) hs hf⟩
 ·by_cases hr:∃ j,τ j=some id
  ·obtain ⟨j,hj⟩:=hr
   obtain ⟨yC,hb',h1,h2,h3⟩:=hT j id hj
   rw [hq] at h3;cases h3
   exact (R'.heap j yC h1).leave wF wG (fun j hb hj=>R'.heap j hb hj) hs hj h2
  ·rw [hN id hr] at hq
   rcases R.heap id hb hq with ⟨a1,a2⟩ | ⟨b,cur,t,a1,a2,a3⟩
   ·exact .inl ⟨(rN id hr).trans a1,a2⟩
   ·refine .inr ⟨b,cur,t,(rN id hr).trans a1,?_,a3.mono E⟩
    rw [iH b ((R.own id b (by rw [hq];rfl) a1).2) (fun j id' hj he=>?_)];exact a2
    obtain rfl:=R.inj id id' b (by rw [hq];rfl) (hin j id' hj) a1 he
    exact hr ⟨j,F.old j id hj⟩
 ·by_cases hi:∃ k,τ k=some i <;> by_cases hj:∃ k,τ k=some j
  ·obtain ⟨k,hk⟩:=hi
   obtain ⟨l,hl⟩:=hj
   rw [rT k i hk] at h3
   rw [rT l j hl] at h4
   have:=R'.inj k l b (vB k i hk) (vB l j hl) h3 h4
   subst this
   rw [hk] at hl;cases hl;rfl
  ·obtain ⟨k,hk⟩:=hi
   rw [rT k i hk] at h3
   rw [rN j hj] at h4
   rw [hN j hj] at h2
   rcases (zq k i b hk h3).1 with ⟨a1,a2⟩ | a
   ·exact R.inj i j b (hin k i a1) h2 a2 h4
   ·have:=(R.own j b h2 h4).2;omega
  ·obtain ⟨k,hk⟩:=hj
   rw [rT k j hk] at h4
   rw [rN i hi] at h3
   rw [hN i hi] at h1
   rcases (zq k j b hk h4).1 with ⟨a1,a2⟩ | a
   ·exact R.inj i j b h1 (hin k j a1) h3 a2
   ·have:=(R.own i b h1 h3).2;omega
  ·rw [rN i hi] at h3;rw [hN i hi] at h1
   rw [rN j hj] at h4;rw [hN j hj] at h2
   exact R.inj i j b h1 h2 h3 h4
 ·by_cases hr:∃ j,τ j=some id
  ·obtain ⟨j,hj⟩:=hr
   rw [rT j id hj] at h2
   obtain ⟨a,a'⟩:=zq j id b hj h2
   refine ⟨?_,a'⟩
   rcases a with ⟨a1,a2⟩ | a
   ·exact (R.own id b (hin j id a1) a2).1
   ·exact .inr (Nat.le_trans R.fr.size a)
  ·rw [hN id hr] at h1
   rw [rN id hr] at h2
   obtain ⟨a,a'⟩:=R.own id b h1 h2
   exact ⟨a,by omega⟩
 ·rw [iH b (by have:=R.fr.size;omega) (fun j id hj he=>?_)]
  ·exact R.fr.block b h1 h2
  ·rcases (R.own id b (hin j id hj) he).1 with a | a
   ·exact h2 a.2.2
   ·omega
 ·by_cases hq:∃ kL,hp id=some kL
  ·obtain ⟨kL,hq⟩:=hq
   obtain ⟨hb',a1,a2⟩:=Ez id kL hq
   rw [h1] at a1;cases a1
   exact (R.jW id kL hb0 hq h2).trans a2
  ·have hn:hp id=none:=by cases ng:hp id with
    | none=>rfl
    | some x=>exact absurd ⟨x,ng⟩ hq
   by_cases hr:∃ j,τ j=some id
   ·obtain ⟨j,hj⟩:=hr
    rw [hnone j id hj hn] at h2;cases h2
   ·rw [hN id hr,hn] at h1;cases h1
end
structure aU (P:Program) (f:FuncId) (N:Nat) (ac:AC) (rs:List RR):Prop where
 call:tF P f=true
 ex:∃ fn c,P.funcs[f]?=some fn∧fn.body=some c∧fn.ntmps=N∧comp P N c=some ac∧qH P fn.results.toList=some rs
def yu (P:Program) (f:FuncId) (N:Nat) (rs:List RR):Option AC:=match P.funcs[f]? with
 | some fn=>if tF P f && fn.ntmps == N then match fn.body,qH P fn.results.toList with
   | some c,some rs'=>if rs'=rs then comp P N c else none
   | _,_=>none
   else none
 | none=>none
theorem AY {P:Program} {f:FuncId} {N:Nat} {ac:AC} {rs:List RR} (h:yu P f N rs=some ac):aU P f N ac rs:=by
 unfold yu at h
 split at h
 ·rename_i fn hf
  split at h
  ·rename_i hc
   simp only [Bool.and_eq_true,beq_iff_eq] at hc
   split at h
   ·rename_i c rs' hb hr
    split at h
    ·rename_i he;subst he
     exact ⟨hc.1,fn,c,hf,hb,hc.2,h,hr⟩
    ·cases h
   ·cases h
  ·cases h
 ·cases h
theorem xN {P:Program} {f:FuncId} {N:Nat} {ac:AC} {rs:List RR} (H:aU P f N ac rs) {args:List SV} {pre us:List (Nat×HB)} {sv:SV} (σ:List Nat) (hs0:List (Option HB)) (iU:List SV)
 (hargs:args.length≤N) (hA:rO (fun j=>σ[j]?) iU args) (hl:hs0.length=σ.length) (hinj:∀ (i j id:Nat),σ[i]?=some id→σ[j]?=some id→i=j)
 (oz:∀ (j id:Nat),σ[j]?=some id→∃ hb hb',hs0[j]?=some (some hb)∧(id,hb')∈pre∧mQ (fun j=>σ[j]?) hb hb')
 (hrun:∀ K:Ex→St→Prop,(∀ env h env' h' τ,fX σ.length ⟨env,h⟩ ⟨env',h'⟩→Fin σ pre us rs sv env' h' τ→K .normal ⟨env,h⟩∧K .ret ⟨env,h⟩)→G P σ.length [.c ac] K (nK 0 iU) hs0):aI P f args pre us sv:=by
 obtain ⟨Nv,fn,c,hf,hb,hN,hc,hr⟩:=H
 subst hN
 refine ⟨Nv,fun C hp w aa vs hpre hnew R hvl hvs=>?_⟩
 obtain ⟨R0,hro,Nt⟩:=LL R (N:=fn.ntmps) hpre hl hinj oz
 refine calls_of_wp hf hb ?_
 have hG:=hrun (fun e s=>(∀ id,e≠.exit id)∧∃ s' τ,fX σ.length s s'∧Fin σ pre us rs sv s'.env s'.h τ) (fun env h env' h' τ hE hF=>⟨⟨by simp,⟨env',h'⟩,τ,hE,hF⟩,⟨by simp,⟨env',h'⟩,τ,hE,hF⟩⟩)
 have R1:jB (inner C aa hp w fn.ntmps σ hs0) σ.length ⟨nK 0 iU,hs0⟩ { tmps:=vs.toArray++Array.replicate (fn.ntmps - vs.toArray.size) undef,defers:=[] } w:=by
  refine ⟨⟨_,R0,fun n=>?_,?_,rfl⟩,by rw [← hl];exact Nat.le_refl _,fun id hid=>?_⟩
  ·show Rp _ _ _ _ (lk (nK 0 iU) n) _
   rw [GG,if_pos (Nat.zero_le _),Nat.sub_zero]
   cases hx:iU[n]? with
   | none=>exact .dead _
   | some x=>
     have hlt:=(List.getElem?_eq_some_iff.1 hx).1
     have hy:=List.getElem?_eq_getElem (l:=args) (i:=n) (by have:=hA.1;omega)
     have hv:=Nt (hvs n _ hy) (hA.2 n x _ hx hy)
     have:(vs.toArray++Array.replicate (fn.ntmps - vs.toArray.size) undef).getD n undef=vs.getD n undef:=by
      have hn:n<vs.length:=by have:=hA.1;omega
      simp [Array.getD_eq_getD_getElem?,List.getD_eq_getElem?_getD,Array.getElem?_append,hn]
     rw [this];exact hv
  ·show (vs.toArray++Array.replicate (fn.ntmps - vs.toArray.size) undef).size=fn.ntmps
   simp;omega
  ·show aB hs0 id=none
   unfold aB
   rw [List.getElem?_eq_none (by omega)]
 refine Wb c ac _ _ _ _ _ hc hG R1 (fun e s a w' hk RS=>?_)
 obtain ⟨hne,s',τ,hE,F⟩:=hk
 obtain ⟨⟨aK,RF⟩,_,_⟩:=hE _ _ _ RS
 obtain ⟨gu,hS,hL⟩:=RK R hpre hnew oz RF.mem F
 obtain ⟨p,xs,r1,r2,r3⟩:=F.res
 obtain ⟨vs,v1,v2⟩:=TD RF.mem RF.env hr r1 r2
 have hres:=hL _ _ _ v2 r3
 cases e with
 | normal=>exact ⟨RF.defers,_,v1,_,gu,rfl,hS,hres⟩
 | exit id=>exact absurd rfl (hne id)
 | ret=>exact ⟨RF.defers,_,v1,_,gu,rfl,hS,hres⟩
end Go.aL

namespace Go.aL
open Go
theorem AQ {n0:Nat} {env env':List (Nat×SV)} {h h':List (Option HB)} (τ:Nat→Option Nat) (hn:n0≤h'.length)
 (hid:∀ j i,τ j=some i→i=j) (hkeep:∀ j,τ j=none→n0≤j)
 (hh:∀ j,(∃ hb hb',τ j=some j∧aB h j=some hb∧aB h' j=some hb'∧oU τ (aB h) hb hb')∨(aB h' j=none∧(τ j=none∨aB h j=none)))
 (he:∀ n,Rn τ (aB h) (lk env n) (lk env' n)):fX n0 ⟨env,h⟩ ⟨env',h'⟩:=by
 intro C a w R
 obtain ⟨⟨aa,RF⟩,_,h0⟩:=R
 have hsub:∀ j hb',aB h' j=some hb'→τ j=some j∧∃ hb,aB h j=some hb∧oU τ (aB h) hb hb':=fun j hb' hj=>by
  rcases hh j with ⟨hb,hb2,a1,a2,a3,a4⟩ | ⟨a1,_⟩
  ·rw [hj] at a3;cases a3;exact ⟨a1,hb,a2,a4⟩
  ·rw [hj] at a1;cases a1
 have hsome:∀ j,(aB h' j).isSome=true→(aB h j).isSome=true:=fun j hj=>by
  obtain ⟨hb',hb2⟩:=Option.isSome_iff_exists.1 hj
  obtain ⟨_,hb,h1,_⟩:=hsub j hb' hb2
  rw [h1];rfl
 have M:=RF.mem
 have wF:∀ b,aJ C aa (aB h) b→aJ C aa (aB h') b:=fun b hb=>⟨hb.1,fun id hid=>hb.2 id (hsome id hid)⟩
 have wG:∀ j b,τ j=none→(aB h j).isSome=true→aa j=some b→aJ C aa (aB h') b:=fun j b hj hs hb=>by
  refine ⟨?_,fun id hid he=>?_⟩
  ·rcases (M.own j b hs hb).1 with ⟨a1,_⟩ | a
   ·rw [h0 j (hkeep j hj)] at a1;cases a1
   ·exact .inr a
  ·have:=M.inj id j b (hsome id hid) hs he hb
   subst this
   obtain ⟨hb',hb2⟩:=Option.isSome_iff_exists.1 hid
   obtain ⟨h1,_⟩:=hsub id hb' hb2
   rw [h1] at hj;cases hj
 have hs:∀ j i,τ j=some i→aa j=aa i∧((aB h j).isSome=true→(aB h' i).isSome=true)∧(∀ cs,aB h' i=some (.var cs)→∃ cs',aB h j=some (.var cs'))∧∀ e az xs,aB h' i=some (.row e az xs)→∃ xs',aB h j=some (.row e az xs'):=fun j i hj=>by
  obtain rfl:=hid j i hj
  refine ⟨rfl,fun hi=>?_,fun cs hc=>?_,fun e az xs hc=>?_⟩
  ·rcases hh i with ⟨hb,hb2,a1,a2,a3,a4⟩ | ⟨_,a1 | a1⟩
   ·rw [a3];rfl
   ·rw [a1] at hj;cases hj
   ·rw [a1] at hi;cases hi
  ·obtain ⟨_,hb,h1,h2⟩:=hsub i _ hc
   cases h2 with
   | var xs _ _=>exact ⟨xs,h1⟩
  ·obtain ⟨_,hb,h1,h2⟩:=hsub i _ hc
   cases h2 with
   | row _ _ xs _ _ _=>exact ⟨xs,h1⟩
 refine ⟨⟨aa,⟨⟨fun j hb' hj=>?_,fun i j b h1 h2=>M.inj i j b (hsome i h1) (hsome j h2),fun j b h1 h2=>M.own j b (hsome j h1) h2,M.fr,fun j hb' hb0 h1 h2=>?_⟩,fun n=>(RF.env n).leave wF wG (fun j hb hj=>M.heap j hb hj) hs (he n),RF.size,RF.defers⟩⟩,hn,h0⟩
 ·obtain ⟨a1,hb,a2,a3⟩:=hsub j hb' hj
  exact (M.heap j hb a2).leave wF wG (fun j hb hj=>M.heap j hb hj) hs a1 a3
 ·obtain ⟨a1,hb,a2,a3⟩:=hsub j hb' h1
  have ev:=M.jW j hb hb0 a2 h2
  cases a3 with
  | var xs ys _=>cases hb0 <;> exact ev
  | row e az xs ys _ _=>cases hb0 <;> exact ev
theorem wA {P:SV→SV→Prop} (hd:∀ x,P x .dead) {env:List (Nat×SV)}:∀ {env':List (Nat×SV)},(∀ p∈env',P (lk env p.1) p.2)→∀ n,P (lk env n) (lk env' n)
 | [],_,n=>hd _
 | (m,v)::r,h,n=>by
   show P (lk env n) (if m=n then v else lk r n)
   by_cases he:m=n
   ·rw [if_pos he,← he];exact h (m,v) (by simp)
   ·rw [if_neg he];exact wA hd (fun p hp=>h p (List.mem_cons_of_mem _ hp)) n
theorem gO (n0:Nat) (s:St):fX n0 s s:=fun _ _ _ R=>R
theorem fX.trans {n0:Nat} {s s1 s2:St} (h:fX n0 s s1) (k:fX n0 s1 s2):fX n0 s s2:=fun C a w R=>k C a w (h C a w R)
theorem bh {n0:Nat} {env env':List (Nat×SV)} {h:List (Option HB)} (he:∀ p∈env',p.2 = .dead∨lk env p.1=p.2):fX n0 ⟨env,h⟩ ⟨env',h⟩:=by
 intro C a w R
 obtain ⟨⟨aa,RF⟩,h1,h0⟩:=R
 refine ⟨⟨aa,RF.mem,fun n=>?_,RF.size,RF.defers⟩,h1,h0⟩
 have:=wA (P:=fun x y=>y = .dead∨x=y) (fun x=>.inl rfl) he n
 rcases this with h | h
 ·show Rp _ _ _ _ (lk env' n) _
  rw [h];exact .dead _
 ·show Rp _ _ _ _ (lk env' n) _
  rw [← h];exact RF.env n
inductive jA:RV→Prop where
 | int (k:IntKind) (n:Int):jA (.int k n)
 | bool (b:Bool):jA (.bool b)
 | str (s:ByteArray):jA (.str s)
 | lJ:jA .lJ
 | cr:jA .cr
 | nL:jA .nL
 | oJ:jA .oJ
 | bV (t:TypeId) (r:RV) (h:jA r):jA (.bV t r)
 | agg (rs:List RV) (h:∀ (j:Nat) (r:RV),rs[j]?=some r→jA r):jA (.agg rs)
 | fn (f:FuncId) (rs:List RV) (h:∀ (j:Nat) (r:RV),rs[j]?=some r→jA r):jA (.fn f rs)
theorem RO.flat {w w':World} {ok fN:Nat→Prop} {r:RV} {v:Value} (hr:RO w ok r v) (hf:jA r):RO w' fN r v:=by
 induction hf generalizing v with
 | int k n=>cases hr;exact .int k n
 | bool b=>cases hr;exact .bool b
 | str s=>cases hr;exact .str s
 | lJ=>cases hr;exact .lJ
 | cr=>cases hr;exact .cr
 | nL=>cases hr;exact .nL
 | oJ=>cases hr;exact .oJ
 | bV t r h ih=>cases hr with | bV _ _ v h=>exact .bV t r v (ih h)
 | agg rs h ih=>cases hr with | agg _ vs hl h1 hy=>exact .agg rs vs hl h1 (fun j y hj=>ih j y hj (hy j y hj))
 | fn f rs h ih=>cases hr with | fn _ _ vs hl hy=>exact .fn f rs vs hl (fun j y hj=>ih j y hj (hy j y hj))
inductive iL:SV→Prop where
 | dead:iL .dead
 | rv (r:RV) (h:jA r):iL (.rv r)
 | ptr (id off:Nat):iL (.ptr id off)
 | bX (id az i off:Nat):iL (.bX id az i off)
 | row (id az len:Nat):iL (.row id az len)
 | win (id az off len:Nat):iL (.win id az off len)
 | agg (cs:List SV) (h:∀ (j:Nat) (y:SV),cs[j]?=some y→iL y):iL (.agg cs)
 | aP (cs:List SV) (h:∀ (j:Nat) (y:SV),cs[j]?=some y→iL y):iL (.aP cs)
 | fn (f:FuncId) (cs:List SV) (h:∀ (j:Nat) (y:SV),cs[j]?=some y→iL y):iL (.fn f cs)
 | bV (t:TypeId) (x:SV) (h:iL x):iL (.bV t x)
inductive oS:HB→Prop where
 | var (cs:List SV) (h:∀ (j:Nat) (y:SV),cs[j]?=some y→iL y):oS (.var cs)
 | row (e az:Nat) (xs:List (List SV)) (h:∀ (i:Nat) (x:List SV) (j:Nat) (y:SV),xs[i]?=some x→x[j]?=some y→iL y):oS (.row e az xs)
section
variable {w:World} {ok fN:Nat→Prop} {aa aK:Nat→Option Nat} {hp aD:Hp}
theorem Rp.flat (hs:∀ j,(hp j).isSome=true→aD j=hp j∧aK j=aa j) {s:SV} {v:Value} (hr:Rp w ok aa hp s v) (hf:iL s):Rp w fN aK aD s v:=by
 induction hf generalizing v with
 | dead=>exact .dead v
 | rv r h=>cases hr with | rv _ _ hr=>exact .rv r v (hr.flat h)
 | ptr id off=>cases hr with | ptr _ _ _ h1 h0 h=>obtain ⟨a,b⟩:=hs id h0;exact .ptr id off v h1 (by rw [a];exact h0) (by rw [a,b];exact h)
 | bX id az i off=>cases hr with | bX _ _ _ _ _ h1 h0 hv h=>obtain ⟨a,b⟩:=hs id h0;exact .bX id az i off v h1 (by rw [a];exact h0) (by rw [a];exact hv) (by rw [a,b];exact h)
 | row id az len=>cases hr with | row _ _ _ _ h1 h0 hv h=>obtain ⟨a,b⟩:=hs id h0;exact .row id az len v h1 (by rw [a];exact h0) (by rw [a];exact hv) (by rw [a,b];exact h)
 | win id az off len=>cases hr with | win _ _ _ _ _ h1 h0 hv hr hc=>obtain ⟨a,b⟩:=hs id h0;exact .win id az off len v h1 (by rw [a];exact h0) (by rw [a];exact hv) (by rw [a,b];exact hr) (by rw [a,b];exact hc)
 | agg cs h ih=>cases hr with | agg _ vs hl h1 hy=>exact .agg cs vs hl h1 (fun j y hj=>ih j y hj (hy j y hj))
 | aP cs h ih=>cases hr with | aP _ vs hl hy=>exact .aP cs vs hl (fun j y hj=>ih j y hj (hy j y hj))
 | fn f cs h ih=>cases hr with | fn _ _ vs hl hy=>exact .fn f cs vs hl (fun j y hj=>ih j y hj (hy j y hj))
 | bV t x h ih=>cases hr with | bV _ _ v0 h0=>exact .bV t x v0 (ih h0)
theorem gE.flat (hs:∀ j,(hp j).isSome=true→aD j=hp j∧aK j=aa j) {cur:Array Value} {off:Nat} {cs:List SV} (h:gE w ok aa hp cur off cs) (hf:∀ (j:Nat) (y:SV),cs[j]?=some y→iL y):gE w fN aK aD cur off cs:=fun j y hy=>by
 obtain ⟨v,h1,h2,h3⟩:=h j y hy
 exact ⟨v,h1,h2,h3.flat hs (hf j y hy)⟩
theorem mj.flat (hs:∀ j,(hp j).isSome=true→aD j=hp j∧aK j=aa j) {id:Nat} {hb:HB} (hid:(hp id).isSome=true) (h:mj w ok aa hp id hb) (hf:oS hb):mj w fN aK aD id hb:=by
 have hr:=(hs id hid).2
 rcases h with ⟨h1,h2⟩ | ⟨b,cur,t,h1,h2,h3⟩
 ·exact .inl ⟨hr.trans h1,h2⟩
 ·refine .inr ⟨b,cur,t,hr.trans h1,h2,?_⟩
  cases hf with
  | var cs hf=>exact ⟨h3.1,h3.2.flat hs hf⟩
  | row e az xs hf=>exact ⟨h3.1,h3.2.1,fun i x hx=>(h3.2.2 i x hx).flat hs (fun j y hy=>hf i x j y hx hy)⟩
end
theorem nS {us:List (Nat×HB)} {id:Nat}:(bM (fun _=>none) us id).isSome=true↔id∈us.map (·.1):=by
 have gen:∀ (us:List (Nat×HB)) (hp:Hp),(bM hp us id).isSome=true↔(hp id).isSome=true∨id∈us.map (·.1):=by
  intro us
  induction us with
  | nil=>intro hp;simp [bM]
  | cons q r ih=>
    intro hp
    obtain ⟨i,hb⟩:=q
    rw [bM,ih]
    by_cases h:id=i
    ·subst h;simp
    ·rw [gi _ _ h];simp [h]
 rw [gen];simp
theorem Jn {us:List (Nat×HB)} {id:Nat} {hb:HB}:∀ {hp:Hp},bM hp us id=some hb→hp id=some hb∨(id,hb)∈us:=by
 induction us with
 | nil=>intro hp h;exact .inl h
 | cons q r ih=>
   intro hp h
   obtain ⟨i,hb0⟩:=q
   rcases ih h with h | h
   ·by_cases he:id=i
    ·subst he;rw [ct] at h;cases h;exact .inr (by simp)
    ·rw [gi _ _ he] at h;exact .inl h
   ·exact .inr (by simp [h])
theorem KV {P:Program} {f:FuncId} {rs:List RV} {args:List SV} {pre us:List (Nat×HB)} {sv:SV} (H:aI P f (rs.map .rv) [] us sv) (hl:args.length=rs.length)
 (hz:∀ hp,aY hp pre→∀ (j:Nat) (y:SV) (r:RV),args[j]?=some y→rs[j]?=some r→Fz (fun _=>none) hp y r) (hfl:iL sv) (kD:∀ q∈us,oS q.2∧∀ p∈pre,p.1≠q.1):aI P f args pre us sv:=by
 refine ⟨H.1,fun C hp w aa vs hpre hnew R hvl hvs=>?_⟩
 let C2:Ctx:=⟨w,fun b=>aJ C aa hp b∨∃ id,(hp id).isSome=true∧aa id=some b,fun _=>False,C.N,fun _=>none,fun _=>none⟩
 have sJ:∀ b,C2.wE b→aJ C2 (fun _=>none) (fun _=>none) b:=fun b hb=>⟨.inl hb,fun id hid=>by simp at hid⟩
 have R2:cn C2 (fun _=>none) w (fun _=>none):=⟨fun id hb h=>(by cases h),fun i j b h=>(by simp at h),fun i b h=>(by simp at h),⟨rfl,rfl,rfl,Nat.le_refl _,fun b _ _=>rfl⟩,fun id hb hb0 h=>(by cases h)⟩
 have qj:∀ id,id∈us.map (·.1)→hp id=none∧C.h0 id=none:=fun id hid=>by
  obtain ⟨q,hq,rfl⟩:=List.mem_map.1 hid
  rcases hnew q hq with ⟨hb,hm⟩ | h
  ·exact absurd rfl ((kD q hq).2 (q.1,hb) hm)
  ·exact h
 refine (H.2 C2 (fun _=>none) w (fun _=>none) vs (fun q hq=>by simp at hq) (fun q hq=>.inr ⟨rfl,rfl⟩) R2 (by simp [hvl,hl]) (fun j s hj=>?_)).mono ?_
 ·rw [List.getElem?_map] at hj
  cases hr:rs[j]? with
  | none=>simp [hr] at hj
  | some r=>
    simp [hr] at hj
    subst hj
    have hlt:=(List.getElem?_eq_some_iff.1 hr).1
    have hy:=List.getElem?_eq_getElem (l:=args) (i:=j) (by omega)
    refine .rv _ _ (Fz.ro (τ:=fun _=>none) (fun b hb=>sJ b (.inl hb)) (fun i b _ hi hb=>sJ b (.inr ⟨i,hi,hb⟩)) (fun i hb hi=>R.heap i hb hi) (hvs j _ hy) (hz hp hpre j _ r hy hr))
 ·rintro e w' ⟨v,aK,rfl,S,hR⟩
  have R':=S.mem
  have iH:∀ b,b<w.heap.size→w'.heap[b]?=w.heap[b]?:=fun b hb=>R'.fr.block b hb (fun h=>h)
  have hsz:w.heap.size≤w'.heap.size:=R'.fr.size
  have qk:∀ id b,id∈us.map (·.1)→aK id=some b→w.heap.size≤b∧b<w'.heap.size:=fun id b hid hb=>by
   obtain ⟨h1,h2⟩:=R'.own id b (nS.2 hid) hb
   rcases h1 with ⟨a,_⟩ | a
   ·cases a
   ·exact ⟨a,h2⟩
  let gu:Nat→Option Nat:=fun id=>if id∈us.map (·.1) then aK id else aa id
  have rT:∀ id,id∈us.map (·.1)→gu id=aK id:=fun id h=>if_pos h
  have rN:∀ id,id∉us.map (·.1)→gu id=aa id:=fun id h=>if_neg h
  have hN:∀ id,id∉us.map (·.1)→bM hp us id=hp id:=fun id h=>zY h
  have hT:∀ id,id∈us.map (·.1)→bM hp us id=bM (fun _=>none) us id:=fun id h=>wU h
  have hs:∀ j,(bM (fun _=>none) us j).isSome=true→bM hp us j=bM (fun _=>none) us j∧gu j=aK j:=fun j hj=>⟨hT j (nS.1 hj),rT j (nS.1 hj)⟩
  have sU:∀ b,aJ C aa hp b→b<w.heap.size→aJ C gu (bM hp us) b∧w'.heap[b]?=w.heap[b]?:=fun b hb hlt=>by
   refine ⟨⟨hb.1,fun id hid he=>?_⟩,iH b hlt⟩
   by_cases hm:id∈us.map (·.1)
   ·rw [rT id hm] at he
    have:=(qk id b hm he).1;omega
   ·rw [hN id hm] at hid
    rw [rN id hm] at he
    exact hb.2 id hid he
  have E:jc w w' (aJ C aa hp) (aJ C gu (bM hp us)) aa gu hp (bM hp us):=jc.of sU (fun id hb hq=>by
   have hm:id∉us.map (·.1):=fun hm=>by rw [(qj id hm).1] at hq;cases hq
   refine ⟨hb,by rw [hN id hm];exact hq,?_⟩
   rw [rN id hm]
   cases hb with
   | var cs=>rfl
   | row e az xs=>exact ⟨Nat.le_refl _,fun _=>⟨rfl,rfl,fun b hb cur t hc=>⟨cur,t,by rw [iH b (R.own id b (by rw [hq];rfl) hb).2];exact hc,rfl⟩⟩⟩)
  refine ⟨v,gu,rfl,⟨⟨fun id hb hq=>?_,fun i j b h1 h2 h3 h4=>?_,fun id b h1 h2=>?_,⟨R'.fr.os.trans R.fr.os,R'.fr.tape.trans R.fr.tape,R'.fr.output.trans R.fr.output,Nat.le_trans R.fr.size hsz,fun b h1 h2=>?_⟩,fun id hb hb0 h1 h2=>?_⟩,E⟩,hR.flat hs hfl⟩
  ·by_cases hm:id∈us.map (·.1)
   ·rw [hT id hm] at hq
    have Bt:oS hb:=by
     rcases Jn hq with h | h
     ·cases h
     ·exact (kD _ h).1
    exact (R'.heap id hb hq).flat hs (nS.2 hm) Bt
   ·rw [hN id hm] at hq
    rcases R.heap id hb hq with ⟨a1,a2⟩ | ⟨b,cur,t,a1,a2,a3⟩
    ·exact .inl ⟨(rN id hm).trans a1,a2⟩
    ·refine .inr ⟨b,cur,t,(rN id hm).trans a1,?_,a3.mono E⟩
     rw [iH b (R.own id b (by rw [hq];rfl) a1).2];exact a2
  ·by_cases hi:i∈us.map (·.1) <;> by_cases hj:j∈us.map (·.1)
   ·rw [rT i hi] at h3;rw [rT j hj] at h4
    exact R'.inj i j b (nS.2 hi) (nS.2 hj) h3 h4
   ·rw [rT i hi] at h3;rw [rN j hj] at h4;rw [hN j hj] at h2
    have h5:=qk i b hi h3;have h6:=R.own j b h2 h4;omega
   ·rw [rN i hi] at h3;rw [rT j hj] at h4;rw [hN i hi] at h1
    have h5:=qk j b hj h4;have h6:=R.own i b h1 h3;omega
   ·rw [rN i hi] at h3;rw [rN j hj] at h4;rw [hN i hi] at h1;rw [hN j hj] at h2
    exact R.inj i j b h1 h2 h3 h4
  ·by_cases hm:id∈us.map (·.1)
   ·rw [rT id hm] at h2
    obtain ⟨a1,a2⟩:=qk id b hm h2
    exact ⟨.inr (Nat.le_trans R.fr.size a1),a2⟩
   ·rw [hN id hm] at h1;rw [rN id hm] at h2
    obtain ⟨a1,a2⟩:=R.own id b h1 h2
    exact ⟨a1,by omega⟩
  ·rw [iH b (by have:=R.fr.size;omega)];exact R.fr.block b h1 h2
  ·by_cases hm:id∈us.map (·.1)
   ·rw [(qj id hm).2] at h2;cases h2
   ·rw [hN id hm] at h1
    have ev:=R.jW id hb hb0 h1 h2
    obtain ⟨hb',g1,g2⟩:∃ hb',bM hp us id=some hb'∧jz w w' (aa id) (gu id) hb hb':=by
     refine ⟨hb,by rw [hN id hm];exact h1,?_⟩
     rw [rN id hm]
     cases hb with
     | var cs=>rfl
     | row e az xs=>exact ⟨Nat.le_refl _,fun _=>⟨rfl,rfl,fun b hb cur t hc=>⟨cur,t,by rw [iH b (R.own id b (by rw [h1];rfl) hb).2];exact hc,rfl⟩⟩⟩
    rw [hN id hm,h1] at g1;cases g1
    exact ev.trans g2
end Go.aL

namespace Go.aL
open Go
def aF (τ:Nat→Option Nat) (h:Hp):List SV→List SV→Prop
 | [],[]=>True
 | x::xs,y::ys=>Rn τ h x y∧aF τ h xs ys
 | _,_=>False
theorem uA {τ:Nat→Option Nat} {h:Hp}:∀ {xs ys:List SV},aF τ h xs ys↔rS τ h xs ys
 | [],[]=>⟨fun _=>⟨rfl,fun i x y hx=>by simp at hx⟩,fun _=>trivial⟩
 | [],_::_=>⟨fun h=>h.elim,fun h=>by simp [rS] at h⟩
 | _::_,[]=>⟨fun h=>h.elim,fun h=>by simp [rS] at h⟩
 | x::xs,y::ys=>by
   unfold aF
   rw [uA (xs:=xs) (ys:=ys)]
   constructor
   ·rintro ⟨h1,h2,h3⟩
    refine ⟨by simp [h2],fun i a b ha hb=>?_⟩
    cases i with
    | zero=>simp at ha hb;subst ha;subst hb;exact h1
    | succ i=>exact h3 i a b (by simpa using ha) (by simpa using hb)
   ·rintro ⟨h2,h3⟩
    exact ⟨h3 0 x y rfl rfl,by simpa using h2,fun i a b ha hb=>h3 (i+1) a b (by simpa using ha) (by simpa using hb)⟩
section
variable {τ:Nat→Option Nat} {h:Hp}
theorem aG {r r':RV}:Rn τ h (.rv r) (.rv r')↔r=r':=⟨fun hr=>by cases hr with | fz _ _ hf=>cases hf;rfl,fun e=>by subst e;exact .fz _ _ (.rv _)⟩
theorem iJ {x:SV}:Rn τ h x .dead↔True:=⟨fun _=>trivial,fun _=>.dead _⟩
theorem hJ {i j o o':Nat}:Rn τ h (.ptr i o) (.ptr j o')↔τ i=some j∧o=o':=⟨fun hr=>by cases hr with | ptr _ _ _ hj=>exact ⟨hj,rfl⟩,fun ⟨e,e'⟩=>by subst e';exact .ptr _ _ _ e⟩
theorem gw {i j v v' l l':Nat}:Rn τ h (.row i v l) (.row j v' l')↔τ i=some j∧v=v'∧l=l':=⟨fun hr=>by cases hr with | row _ _ _ _ hj=>exact ⟨hj,rfl,rfl⟩,fun ⟨e,e',e2⟩=>by subst e';subst e2;exact .row _ _ _ _ e⟩
theorem aH {xs ys:List SV}:Rn τ h (.agg xs) (.agg ys)↔aF τ h xs ys:=by rw [uA];exact ⟨fun hr=>by cases hr with | agg _ _ hl hf=>exact ⟨hl,hf⟩,fun ⟨e,e'⟩=>.agg _ _ e e'⟩
theorem bf {xs ys:List SV}:Rn τ h (.aP xs) (.aP ys)↔aF τ h xs ys:=by rw [uA];exact ⟨fun hr=>by cases hr with | aP _ _ hl hf=>exact ⟨hl,hf⟩,fun ⟨e,e'⟩=>.aP _ _ e e'⟩
theorem Ts {f f':FuncId} {xs ys:List SV}:Rn τ h (.fG f xs) (.fG f' ys)↔f=f'∧aF τ h xs ys:=by rw [uA];exact ⟨fun hr=>by cases hr with | fG _ _ _ hl hf=>exact ⟨rfl,hl,hf⟩,fun ⟨e,e',e2⟩=>by subst e;exact .fG _ _ _ e' e2⟩
theorem iK {t t':TypeId} {x y:SV}:Rn τ h (.bV t x) (.bV t' y)↔t=t'∧Rn τ h x y:=⟨fun hr=>by cases hr with | bV _ _ _ hf=>exact ⟨rfl,hf⟩,fun ⟨e,e'⟩=>by subst e;exact .bV _ _ _ e'⟩
end
def aR (τ:Nat→Option Nat) (h:Hp) (sv:SV):Option (Prop×List SV)→Prop
 | some (p,xs)=>p∧Rn τ h (aV xs) sv
 | none=>False
theorem KU {P:Program} {f:FuncId} {N:Nat} {ac:AC} {rs:List RR} (H:aU P f N ac rs) (lB:List RV) (sv:SV) (hN:lB.length≤N)
 (hrun:∀ K:Ex→St→Prop,(∀ env h,aR (fun _=>none) (aB h) sv (aQ (lk env) (aB h) rs)→K .normal ⟨env,h⟩∧K .ret ⟨env,h⟩)→G P 0 [.c ac] K (nK 0 (lB.map .rv)) []):aI P f (lB.map .rv) [] [] sv:=by
 refine xN H [] [] (lB.map .rv) (by simpa using hN) ⟨rfl,fun i x y hx hy=>?_⟩ rfl (by simp) (by simp) (fun K hK=>hrun K (fun env h hr=>?_))
 ·rw [hx] at hy;cases hy
  rw [List.getElem?_map] at hx
  cases hr:lB[i]? with
  | none=>simp [hr] at hx
  | some r=>simp [hr] at hx;subst hx;exact .rv r
 ·unfold aR at hr
  split at hr
  ·rename_i p xs hres
   exact hK env h env h (fun _=>none) (gO _ _) ⟨by simp,by simp,by simp,by simp,by simp,p,xs,hres,hr.1,hr.2⟩
  ·exact hr.elim
theorem wrap_i64 {n:Int} (h1 : -9223372036854775808≤n) (h2:n<9223372036854775808):IntKind.i64.wrap n=n:=by
 unfold IntKind.wrap
 simp only [IntKind.signed,IntKind.bits]
 by_cases h:(9223372036854775808:Int)≤n % 18446744073709551616 <;> simp [h] <;> omega
end Go.aL

namespace Go.aL
open Go
def vk (P:Program) (rec:TypeId→Bool):Nat→List Field→Option Nat
 | off,[]=>some off
 | off,f::r=>if f.offset=off && rec f.type then vk P rec (off+P.cellsOf f.type) r else none
def og (P:Program):Nat→TypeId→Bool
 | 0,_=>false
 | n+1,t=>match P.underlying t with
   | some .bool | some (.int _) | some .string=>P.cellsOf t == 1
   | some (.slice e)=>P.cellsOf t == 1 && og P n e
   | some (.struct fs)=>vk P (og P n) 0 fs.toList == some (P.cellsOf t)
   | some (.array m e)=>og P n e && P.cellsOf t == m*P.cellsOf e
   | _=>false
def uL (P:Program) (rec:TypeId→List RV→Prop):List Field→List RV→Prop
 | [],rs=>rs=[]
 | f::r,rs=>∃ a b,rs=a++b∧rec f.type a∧uL P rec r b
def kQ (P:Program):Nat→TypeId→List RV→Prop
 | 0,_,_=>False
 | n+1,t,rs=>match P.underlying t with
   | some .bool=>∃ b,rs=[.bool b]
   | some (.int k)=>∃ i,rs=[.int k i]∧(Lit.int k i).wf=true
   | some .string=>∃ s,rs=[.str s]∧s.size≤maxLen
   | some (.slice e)=>∃ xs,rs=[.sl (P.cellsOf e) xs]∧xs.length≤maxLen∧∀ x∈xs,kQ P n e x
   | some (.struct fs)=>uL P (kQ P n) fs.toList rs
   | some (.array m e)=>∃ xs:List (List RV),rs=xs.flatten∧xs.length=m∧∀ x∈xs,kQ P n e x
   | _=>False
def mm (w:World) (ok:Nat→Prop) (vs:List Value) (rs:List RV):Prop:=vs.length=rs.length∧∀ (j:Nat) (r:RV),rs[j]?=some r→r.one=true∧RO w ok r (vs.getD j undef)
theorem mm.append {w:World} {ok:Nat→Prop} {vs us:List Value} {rs qs:List RV} (h:mm w ok vs rs) (k:mm w ok us qs):mm w ok (vs++us) (rs++qs):=by
 refine ⟨by simp [h.1,k.1],fun j r hj=>?_⟩
 by_cases hlt:j<rs.length
 ·rw [List.getElem?_append_left hlt] at hj
  have:=h.2 j r hj
  rw [List.getD_eq_getElem?_getD,List.getElem?_append_left (by rw [h.1];exact hlt),← List.getD_eq_getElem?_getD]
  exact this
 ·rw [List.getElem?_append_right (by omega)] at hj
  have:=k.2 _ r hj
  rw [List.getD_eq_getElem?_getD,List.getElem?_append_right (by rw [h.1];omega),h.1,← List.getD_eq_getElem?_getD]
  exact this
theorem mm.one {w:World} {ok:Nat→Prop} {v:Value} {r:RV} (h:RO w ok r v) (h1:r.one=true):mm w ok [v] [r]:=
 ⟨rfl,fun j q hj=>by
  cases j with
  | zero=>simp at hj;subst hj;exact ⟨h1,h⟩
  | succ j=>simp at hj⟩
section
variable {P:Program} {H:Type} {enc:TypeId×Value→H} {w:World} {base:Nat} {spare:Nat→Bool} {held:Bool}
theorem Jl (ok:Nat→Prop) {n m:Nat} (IH:∀ t,og P n t=true→∀ cs x,DataW.trod enc P w base spare held m t cs=some x→∃ rs,kQ P n t rs∧mm w ok cs rs∧cs.length=P.cellsOf t) :
 ∀ (fs:List Field) (off tot:Nat) (cs:List Value),vk P (og P n) off fs=some tot→cs.length=tot→(∀ f∈fs,∃ x,DataW.trod enc P w base spare held m f.type ((cs.drop f.offset).take (P.cellsOf f.type))=some x)→
 ∃ rs,uL P (kQ P n) fs rs∧mm w ok (cs.drop off) rs
 | [],off,tot,cs,h,hl,_=>by
   simp only [vk,Option.some.injEq] at h
   subst h
   refine ⟨[],rfl,?_⟩
   rw [List.drop_of_length_le (by omega)]
   exact ⟨rfl,fun j r hj=>by simp at hj⟩
 | f::fs,off,tot,cs,h,hl,hx=>by
   unfold vk at h
   split at h
   ·rename_i hf
    simp only [Bool.and_eq_true,decide_eq_true_eq] at hf
    obtain ⟨x,hx0⟩:=hx f (by simp)
    obtain ⟨a,Be,yz,No⟩:=IH f.type hf.2 _ _ hx0
    obtain ⟨b,hb1,hb2⟩:=Jl ok IH fs (off+P.cellsOf f.type) tot cs h hl (fun g hg=>hx g (by simp [hg]))
    refine ⟨a++b,⟨a,b,rfl,Be,hb1⟩,?_⟩
    rw [hf.1] at yz
    have:cs.drop off=(cs.drop off).take (P.cellsOf f.type)++cs.drop (off+P.cellsOf f.type):=by
     rw [← List.drop_drop,List.take_append_drop]
    rw [this]
    exact yz.append hb2
   ·cases h
theorem Jk (ok:Nat→Prop) {n m:Nat} {e:TypeId} (IH:∀ cs x,DataW.trod enc P w base spare held m e cs=some x→∃ rs,kQ P n e rs∧mm w ok cs rs∧cs.length=P.cellsOf e) :
 ∀ (k i:Nat) (cs:List Value),cs.length=(i+k)*P.cellsOf e→(∀ j,i≤j→j<i+k→∃ x,DataW.trod enc P w base spare held m e ((cs.drop (j*P.cellsOf e)).take (P.cellsOf e))=some x)→
 ∃ xs:List (List RV),xs.length=k∧(∀ x∈xs,kQ P n e x)∧mm w ok (cs.drop (i*P.cellsOf e)) xs.flatten
 | 0,i,cs,hl,_=>by
   refine ⟨[],rfl,by simp,?_⟩
   rw [List.drop_of_length_le (by simp at hl;omega)]
   exact ⟨rfl,fun j r hj=>by simp at hj⟩
 | k+1,i,cs,hl,hx=>by
   obtain ⟨x,hx0⟩:=hx i (Nat.le_refl _) (by omega)
   obtain ⟨a,Be,yz,No⟩:=IH _ _ hx0
   obtain ⟨xs,h1,h2,h3⟩:=Jk ok IH k (i+1) cs (by rw [hl];congr 1;omega) (fun j h1 h2=>hx j (by omega) (by omega))
   refine ⟨a::xs,by simp [h1],fun x hx=>?_,?_⟩
   ·rcases List.mem_cons.1 hx with rfl | hx
    ·exact Be
    ·exact h2 x hx
   ·have:cs.drop (i*P.cellsOf e)=(cs.drop (i*P.cellsOf e)).take (P.cellsOf e)++cs.drop ((i+1)*P.cellsOf e):=by
     rw [Nat.add_mul,Nat.one_mul,← List.drop_drop,List.take_append_drop]
    rw [this,List.flatten_cons]
    exact yz.append h3
theorem Lg {a:Addr} {n:Nat} {cs:List Value} (h:w.cells? base a n=some cs):cs.length=n∧∀ j,j<n→w.cell? (a.add j)=some (cs.getD j undef):=by
 unfold World.cells? at h
 split at h
 ·obtain ⟨h1,h2⟩:=mapM_some_get _ _ _ h
  refine ⟨by simpa using h1,fun j hj=>?_⟩
  have hr:(List.range n)[j]?=some j:=List.getElem?_range hj
  obtain ⟨h3,h4⟩:=h2 j j hr
  have hlt:j<cs.length:=by rw [h1];simpa using hj
  rw [List.getD_eq_getElem?_getD,List.getElem?_eq_getElem hlt,Option.getD_some,← h3,List.getElem?_eq_getElem hlt]
 ·cases h
theorem typed (ok:Nat→Prop) (hok:∀ b,b<w.heap.size→ok b):∀ (n:Nat) (t:TypeId),og P n t=true→∀ (fuel:Nat) (cs:List Value) (x:DataW H×List MemPlace),DataW.trod enc P w base spare held fuel t cs=some x→∃ rs,kQ P n t rs∧mm w ok cs rs∧cs.length=P.cellsOf t
 | 0,t,h,_,_,_,_=>by cases h
 | n+1,t,h,fuel,cs,x,hx=>by
   unfold og at h
   unfold kQ
   split at h
   ·rename_i hu
    obtain ⟨b,rfl,_⟩:=DataW.trod_bool hu hx
    try simp only [hu]
    exact ⟨[.bool b],⟨b,rfl⟩,.one (.bool b) rfl,by simp at h;simp [h]⟩
   ·rename_i k hu
    obtain ⟨i,rfl,_,hw⟩:=DataW.trod_int hu hx
    try simp only [hu]
    exact ⟨[.int k i],⟨i,rfl,hw⟩,.one (.int k i) rfl,by simp at h;simp [h]⟩
   ·rename_i hu
    obtain ⟨s,rfl,_,hs⟩:=DataW.trod_string hu hx
    try simp only [hu]
    exact ⟨[.str s],⟨s,rfl,hs⟩,.one (.str s) rfl,by simp at h;simp [h]⟩
   ·rename_i e hu
    simp only [Bool.and_eq_true,beq_iff_eq] at h
    try simp only [hu]
    rcases DataW.trod_slice hu hx with ⟨rfl,_⟩ | ⟨a,len,cap,elems,rest,m,rfl,rfl,_,hb,hl,hm,hel,hcell,_,_⟩
    ·refine ⟨[.sl (P.cellsOf e) []],⟨[],rfl,by simp,by simp⟩,.one ?_ rfl,by simpa using h.1.symm⟩
     exact .sl _ [] none 0 (fun _ _=>undef) (fun _=>⟨rfl,rfl⟩) (by simp) (by simp [maxLen]) (by simp) (fun i x j y hx=>by simp at hx) (fun i x j y hx=>by simp at hx) (fun i x j y hx=>by simp at hx)
    ·have key:∀ i,i<len→∃ (ci:List Value) (r:List RV),kQ P n e r∧mm w ok ci r∧ci.length=P.cellsOf e∧∀ j,j<P.cellsOf e→w.cell? ((a.add (i*P.cellsOf e)).add j)=some (ci.getD j undef):=fun i hi=>by
      have h1:=hcell i hi
      rw [List.getElem?_eq_getElem (by omega)] at h1
      simp only [Option.bind_eq_some_iff] at h1
      obtain ⟨ci,h2,h3⟩:=h1
      obtain ⟨r,g1,g2,g3⟩:=typed ok hok n e h.2 m ci _ h3
      exact ⟨ci,r,g1,g2,g3,(Lg h2).2⟩
     classical
     let cf:Nat→List Value:=fun i=>if h:i<len then (key i h).choose else []
     let rf:Nat→List RV:=fun i=>if h:i<len then (key i h).choose_spec.choose else []
     have hf:∀ i,i<len→kQ P n e (rf i)∧mm w ok (cf i) (rf i)∧(cf i).length=P.cellsOf e∧∀ j,j<P.cellsOf e→w.cell? ((a.add (i*P.cellsOf e)).add j)=some ((cf i).getD j undef):=fun i hi=>by
      have h1:cf i=(key i hi).choose:=dif_pos hi
      have h2:rf i=(key i hi).choose_spec.choose:=dif_pos hi
      rw [h1,h2]
      exact (key i hi).choose_spec.choose_spec
     have hlen:((List.range len).map rf).length=len:=by simp
     have aB:∀ (i:Nat) (x:List RV),((List.range len).map rf)[i]?=some x→i<len∧x=rf i:=fun i x hi=>by
      rw [List.getElem?_map] at hi
      cases hr:(List.range len)[i]? with
      | none=>simp [hr] at hi
      | some j=>
        have hlt:=(List.getElem?_eq_some_iff.1 hr).1
        simp at hlt
        rw [List.getElem?_range hlt] at hr
        cases hr
        rw [List.getElem?_range hlt] at hi
        simp at hi
        exact ⟨hlt,hi.symm⟩
     refine ⟨[.sl (P.cellsOf e) ((List.range len).map rf)],⟨_,rfl,by rw [hlen];omega,fun x hx=>?_⟩,.one ?_ rfl,by simpa using h.1.symm⟩
     ·obtain ⟨i,hi,rfl⟩:=List.mem_map.1 hx
      exact (hf i (by simpa using hi)).1
     ·have hcs:∀ (i:Nat) (x:List RV) (j:Nat) (y:RV),((List.range len).map rf)[i]?=some x→x[j]?=some y→i<len∧(rf i)[j]?=some y∧w.cell? (a.add (i*P.cellsOf e+j))=some ((cf i).getD j undef):=fun i x j y hi hj=>by
       obtain ⟨h1,rfl⟩:=aB i x hi
       obtain ⟨_,g2,g3,g4⟩:=hf i h1
       have hlt:=(List.getElem?_eq_some_iff.1 hj).1
       have:=g4 j (by rw [← g3,g2.1];exact hlt)
       rw [xq] at this
       exact ⟨h1,hj,this⟩
      have:=RO.sl (w:=w) (ok:=ok) (P.cellsOf e) ((List.range len).map rf) (some a) cap (fun i j=>(cf i).getD j undef) (fun h=>by cases h) (by rw [hlen];exact hl) hm (fun x hx=>by
       obtain ⟨i,hi,rfl⟩:=List.mem_map.1 hx
       obtain ⟨_,g2,g3,_⟩:=hf i (by simpa using hi)
       rw [← g2.1,g3]) (fun i x j y hi hj=>by
       obtain ⟨_,_,h3⟩:=hcs i x j y hi hj
       exact ⟨a,rfl,hok _ (by have:=World.block_lt_of_cell? w _ h3;rwa [xu] at this),h3⟩) (fun i x j y hi hj=>by
       obtain ⟨h1,h2,_⟩:=hcs i x j y hi hj
       exact ((hf i h1).2.1.2 j y h2).1) (fun i x j y hi hj=>by
       obtain ⟨h1,h2,_⟩:=hcs i x j y hi hj
       exact ((hf i h1).2.1.2 j y h2).2)
      rw [hlen] at this
      exact this
   ·rename_i fs hu
    simp only [beq_iff_eq] at h
    try simp only [hu]
    obtain ⟨xs,m,rfl,_,hl,BO,hf⟩:=DataW.trod_struct hu hx
    obtain ⟨rs,g1,g2⟩:=Jl (enc:=enc) (m:=m) ok (fun t ht cs x hx=>typed ok hok n t ht m cs x hx) fs.toList 0 (P.cellsOf t) cs h hl (fun f NF=>by
     obtain ⟨i,hi,he⟩:=List.mem_iff_getElem.1 NF
     have hi':i<fs.size:=by simpa using hi
     have pq:fs[i]?=some f:=by rw [Array.getElem?_eq_getElem hi'];simp at he;rw [he]
     have:=hf i f pq
     rw [List.getElem?_eq_getElem (by omega)] at this
     exact ⟨_,this⟩)
    exact ⟨rs,g1,by simpa using g2,hl⟩
   ·rename_i k e hu
    simp only [Bool.and_eq_true,beq_iff_eq] at h
    try simp only [hu]
    obtain ⟨xs,m,rfl,_,hl,BO,hf⟩:=DataW.trod_array hu hx
    obtain ⟨ys,g1,g2,g3⟩:=Jk (enc:=enc) (m:=m) ok (fun cs x hx=>typed ok hok n e h.1 m cs x hx) k 0 cs (by rw [hl,h.2];congr 1;omega) (fun j _ hj=>by
     have:=hf j (by omega)
     rw [List.getElem?_eq_getElem (by omega)] at this
     exact ⟨_,this⟩)
    exact ⟨ys.flatten,⟨ys,rfl,g1,g2⟩,by simpa using g3,hl⟩
   ·cases h
end
def nu (P:Program) (t:TypeId) (rs:List RV):SV:=match fC P t with
 | some true=>.agg (rs.map .rv)
 | _=>.rv (rs.headD .lJ)
theorem SQ {P:Program} {H:Type} {enc:TypeId×Value→H} {w:World} {r:Reach} {b0 n:Nat} {t:TypeId} {v:Value} {d:DataW H} {ps:List MemPlace} (hf:og P n t=true) (hval:Value.okWide P w r b0 t v) (hd:DataW.Trod enc P w 0 (fun _=>true) true t v d ps) (C:Ctx) (aa:Nat→Option Nat) :
 ∃ rs,kQ P n t rs∧∀ (ok:Nat→Prop) (aa:Nat→Option Nat) (hp:Hp),(∀ b,b<w.heap.size→ok b)→Rp w ok aa hp (nu P t rs) v:=by
 obtain ⟨fuel,hx⟩:=hd
 obtain ⟨rs,h1,h2,h3⟩:=typed (enc:=enc) (fun b=>b<w.heap.size) (fun b hb=>hb) n t hf fuel _ _ hx
 refine ⟨rs,h1,fun ok aa hp hok=>?_⟩
 have qf:mm w ok v.cells.toList rs:=⟨h2.1,fun j q hj=>⟨(h2.2 j q hj).1,(h2.2 j q hj).2.mono fun b hb _=>⟨hok b hb,rfl⟩⟩⟩
 unfold nu
 cases hu:P.underlying t with
 | none=>cases n <;> simp [og,hu] at hf
 | some kd=>
   have scalar:(fC P t=some false)→v.cells = #[v]→Rp w ok aa hp (.rv (rs.headD .lJ)) v:=fun _ hc=>by
    have hl:=qf.1
    rw [hc] at hl qf
    obtain ⟨q,rfl⟩:=List.length_eq_one_iff.1 hl.symm
    exact .rv _ _ (qf.2 0 q rfl).2
   have Kv:(∃ cs,v = .agg cs)→Rp w ok aa hp (.agg (rs.map .rv)) v:=fun ⟨cs,hv⟩=>by
    subst hv
    have hl:=qf.1
    have:Rp w ok aa hp (.agg (rs.map .rv)) (.agg cs.toList.toArray):=by
     refine .agg _ _ (by simpa [Value.cells] using hl) (fun j u hj=>?_) (fun j y hj=>?_)
     ·have hlt:=(List.getElem?_eq_some_iff.1 hj).1
      have hr:=List.getElem?_eq_getElem (l:=rs) (i:=j) (by simp [Value.cells] at hl;simp at hlt;omega)
      have:=qf.2 j _ hr
      have hu:(Value.cells (.agg cs)).toList.getD j undef=u:=by rw [List.getD_eq_getElem?_getD];show (cs.toList[j]?).getD undef=u;rw [hj];rfl
      rw [hu] at this
      exact this.2.wH this.1
     ·rw [List.getElem?_map] at hj
      cases hr:rs[j]? with
      | none=>simp [hr] at hj
      | some q=>simp [hr] at hj;subst hj;exact .rv _ _ (qf.2 j q hr).2
    simpa using this
   have Nx:(∀ cs,v≠.agg cs)→v.cells = #[v]:=fun h=>by cases v <;> first | rfl | exact absurd rfl (h _)
   cases n with
   | zero=>cases hf
   | succ n=>
     unfold og at hf
     unfold Value.okWide at hval
     cases kd <;> simp only [hu] at hf hval <;> first
      | (cases hf;done)
      | (have ha:fC P t=some true:=by simp [fC,hu]
         simp only [ha]
         obtain ⟨cs,hv,_⟩:=hval
         exact Kv ⟨cs,hv⟩)
      | (have ha:fC P t=some false:=by simp [fC,hu]
         simp only [ha]
         refine scalar ha (Nx (fun cs hv=>?_))
         subst hv
         simp [Cell.okWide,hu,Cell.ok] at hval)
theorem RH {P:Program} {f:FuncId} {ss:List SV} (h:aI P f ss [] [] (.rv (.bool true))) {w:World} {vs:List Value} (hl:vs.length=ss.length)
 (ha:∀ (j:Nat) (s:SV),ss[j]?=some s→∀ (ok:Nat→Prop) (aa:Nat→Option Nat) (hp:Hp),(∀ b,b<w.heap.size→ok b)→Rp w ok aa hp s (vs.getD j undef)) :
 Calls P f vs.toArray w fun e w'=>e = .returned (.bool true)∧RowKit.Below w.heap.size w w':=by
 let C:Ctx:=⟨w,fun _=>True,fun _=>False,0,fun _=>none,fun _=>none⟩
 have R:cn C (fun _=>none) w (fun _=>none):=⟨fun id hb h=>(by cases h),fun i j b h=>(by simp at h),fun i b h=>(by simp at h),⟨rfl,rfl,rfl,Nat.le_refl _,fun b _ _=>rfl⟩,fun id hb hb0 h=>(by cases h)⟩
 refine (h.2 C (fun _=>none) w (fun _=>none) vs (fun q hq=>by simp at hq) (fun q hq=>by simp at hq) R hl (fun j s hj=>ha j s hj _ _ _ (fun b hb=>⟨.inl trivial,fun id hid=>by simp at hid⟩))).mono ?_
 rintro e w' ⟨v,aK,rfl,S,hR⟩
 refine ⟨by rw [tc hR],S.mem.fr.os,S.mem.fr.tape,S.mem.fr.output,S.mem.fr.size,fun k hk=>S.mem.fr.block k hk (fun h=>h)⟩
end Go.aL

namespace Go.aL
open Go
def aN (xs:List (List RV)):List (List SV):=xs.map (List.map SV.rv)
section
variable {xs ys:List (List RV)}
theorem CN:xs.map (List.map SV.rv)=aN xs:=rfl
theorem au:(aN xs).length=xs.length:=by simp [aN]
theorem TJ {i:Nat}:((aN xs)[i]?).getD []=((xs[i]?).getD []).map SV.rv:=by
 unfold aN
 rw [List.getElem?_map]
 cases xs[i]? <;> rfl
theorem TK {n:Nat}:(aN xs).take n=aN (xs.take n):=by simp [aN]
theorem Ik:aN xs++aN ys=aN (xs++ys):=by simp [aN]
theorem map_inj {α β:Type} {f:α→β} (hf:∀ x y,f x=f y→x=y):∀ {a b:List α},a.map f=b.map f→a=b
 | [],[],_=>rfl
 | [],_::_,h=>by simp at h
 | _::_,[],h=>by simp at h
 | x::a,y::b,h=>by
   simp only [List.map_cons,List.cons.injEq] at h
   rw [hf x y h.1,map_inj hf h.2]
theorem nQ:aN xs=aN ys↔xs=ys:=by
 constructor
 ·intro h
  exact map_inj (fun a b h=>map_inj (fun x y h=>by cases h;rfl) h) h
 ·rintro rfl;rfl
end
def Ag (τ:Nat→Option Nat) (h:Hp) (xs ys:List (List SV)):Prop:=xs.length=ys.length∧∀ (i:Nat) (x y:List SV),xs[i]?=some x→ys[i]?=some y→rS τ h x y
theorem hD {τ:Nat→Option Nat} {h:Hp} {xs ys:List (List RV)}:Ag τ h (aN xs) (aN ys)↔xs=ys:=by
 constructor
 ·rintro ⟨hl,hr⟩
  refine List.ext_getElem? (fun i=>?_)
  rw [au,au] at hl
  by_cases hi:i<xs.length
  ·have h1:=List.getElem?_eq_getElem hi
   have h2:=List.getElem?_eq_getElem (l:=ys) (i:=i) (by omega)
   have:=hr i (xs[i].map SV.rv) ((ys[i]'(by omega)).map SV.rv) (by simp [aN,h1]) (by simp [aN,h2])
   rw [h1,h2]
   obtain ⟨k1,k2⟩:=this
   simp at k1
   congr 1
   refine List.ext_getElem? (fun j=>?_)
   by_cases hj:j<(xs[i]).length
   ·have g1:=List.getElem?_eq_getElem hj
    have g2:=List.getElem?_eq_getElem (l:=ys[i]'(by omega)) (i:=j) (by omega)
    have:=k2 j _ _ (by rw [List.getElem?_map,g1];rfl) (by rw [List.getElem?_map,g2];rfl)
    rw [g1,g2,aG.1 this]
   ·rw [List.getElem?_eq_none (by omega),List.getElem?_eq_none (by omega)]
  ·rw [List.getElem?_eq_none (by omega),List.getElem?_eq_none (by omega)]
 ·rintro rfl
  refine ⟨rfl,fun i x y hx hy=>?_⟩
  rw [hx] at hy;cases hy
  refine ⟨rfl,fun j a b ha hb=>?_⟩
  rw [ha] at hb;cases hb
  unfold aN at hx
  rw [List.getElem?_map] at hx
  cases hq:xs[i]? with
  | none=>simp [hq] at hx
  | some q=>
    simp [hq] at hx
    subst hx
    rw [List.getElem?_map] at ha
    cases hr:q[j]? with
    | none=>simp [hr] at ha
    | some r=>simp [hr] at ha;subst ha;exact aG.2 rfl
def fY (τ:Nat→Option Nat) (h:Hp):Option HB→Option HB→Prop
 | some (.var xs),some (.var ys)=>aF τ h xs ys
 | some (.row e v xs),some (.row e' v' ys)=>e=e'∧v=v'∧Ag τ h xs ys
 | _,_=>False
theorem fY.get {τ:Nat→Option Nat} {h:Hp} {x y:Option HB} (hr:fY τ h x y):∃ a b,x=some a∧y=some b∧oU τ h a b:=by
 unfold fY at hr
 split at hr
 ·exact ⟨_,_,rfl,rfl,.var _ _ (uA.1 hr)⟩
 ·obtain ⟨rfl,rfl,h1,h2⟩:=hr
  exact ⟨_,_,rfl,rfl,.row _ _ _ _ h1 h2⟩
 ·exact hr.elim
def gk:List (Nat×HB)→Nat→Option HB
 | [],_=>none
 | (i,hb)::r,id=>if id=i then some hb else gk r id
def ga:Option HB→List (Nat×HB)→Nat→Option HB
 | b,[],_=>b
 | b,(i,hb)::r,id=>ga (if id=i then some hb else b) r id
theorem Jm {id:Nat}:∀ {us:List (Nat×HB)} {hp:Hp},bM hp us id=ga (hp id) us id
 | [],hp=>rfl
 | (i,hb)::r,hp=>by
   rw [bM,Jm,ga]
   unfold up
   rfl
theorem EE {id:Nat} {hb:HB}:∀ {us:List (Nat×HB)} {a:Option HB},ga none us id=some hb→ga a us id=some hb
 | [],a,h=>by cases h
 | (i,hb0)::r,a,h=>by
   unfold ga at h ⊢
   by_cases hi:id=i
   ·rw [if_pos hi] at h ⊢;exact h
   ·rw [if_neg hi] at h ⊢;exact EE h
theorem GH {id:Nat} {hb:HB}:∀ {pre:List (Nat×HB)},gk pre id=some hb→(id,hb)∈pre
 | [],h=>by cases h
 | (i,hb0)::r,h=>by
   unfold gk at h
   split at h
   ·rename_i hi;cases h;subst hi;simp
   ·exact List.mem_cons_of_mem _ (GH h)
theorem LQ {pre us:List (Nat×HB)} {id:Nat} {hb:HB} (h:ga (gk pre id) us id=some hb) (hp:Hp) (hpre:aY hp pre):bM hp us id=some hb:=by
 rw [Jm]
 cases hl:gk pre id with
 | none=>rw [hl] at h;exact EE h
 | some b=>
   rw [hl] at h
   rw [hpre (id,b) (GH hl)];exact h
def gP (τ:Nat→Option Nat) (h:Hp) (pre us:List (Nat×HB)):Nat→List (Option Nat)→Prop
 | _,[]=>True
 | j,none::r=>gP τ h pre us (j+1) r
 | j,some id::r=>fY τ h (h j) (ga (gk pre id) us id)∧gP τ h pre us (j+1) r
theorem Gt {τ:Nat→Option Nat} {h:Hp} {pre us:List (Nat×HB)}:∀ {l:List (Option Nat)} {j:Nat},gP τ h pre us j l→∀ (i id:Nat),l[i]?=some (some id)→fY τ h (h (j+i)) (ga (gk pre id) us id)
 | [],j,_,i,id,hi=>by simp at hi
 | x::r,j,hk,i,id,hi=>by
   cases i with
   | zero=>
     simp at hi
     subst hi
     exact hk.1
   | succ i=>
     have hk':gP τ h pre us (j+1) r:=by cases x with | none=>exact hk | some q=>exact hk.2
     have:=Gt hk' i id (by simpa using hi)
     rwa [show j+1+i=j+(i+1) by omega] at this
def gB (tj:List (Option Nat)) (j:Nat):Option Nat:=(tj[j]?).getD none
def bW:List (Option Nat)→Prop
 | []=>True
 | none::r=>bW r
 | some x::r=>some x∉r∧bW r
theorem zm:∀ {l:List (Option Nat)},bW l→∀ (i j id:Nat),l[i]?=some (some id)→l[j]?=some (some id)→i=j
 | [],_,i,j,id,h,_=>by simp at h
 | x::r,hn,i,j,id,h1,h2=>by
   have hn':bW r:=by cases x with | none=>exact hn | some q=>exact hn.2
   cases i with
   | zero=>
     simp at h1
     subst h1
     cases j with
     | zero=>rfl
     | succ j=>exact absurd (List.mem_of_getElem? (by simpa using h2)) hn.1
   | succ i=>
     cases j with
     | zero=>
       simp at h2
       subst h2
       exact absurd (List.mem_of_getElem? (by simpa using h1)) hn.1
     | succ j=>rw [zm hn' i j id (by simpa using h1) (by simpa using h2)]
def newL (pre us:List (Nat×HB)):List (Option Nat)→Prop
 | []=>True
 | none::r=>newL pre us r
 | some id::r=>id∈us.map (·.1)∧id∉pre.map (·.1)∧newL pre us r
theorem He {pre us:List (Nat×HB)}:∀ {l:List (Option Nat)},newL pre us l→∀ (i id:Nat),l[i]?=some (some id)→id∈us.map (·.1)∧id∉pre.map (·.1)
 | [],_,i,id,h=>by simp at h
 | x::r,hn,i,id,h=>by
   have hn':newL pre us r:=by cases x with | none=>exact hn | some q=>exact hn.2.2
   cases i with
   | zero=>simp at h;subst h;exact ⟨hn.1,hn.2.1⟩
   | succ i=>exact He hn' i id (by simpa using h)
def ia (tj:List (Option Nat)):List (Nat×HB)→Prop
 | []=>True
 | (i,_)::r=>some i∈tj∧ia tj r
theorem Dr {tj:List (Option Nat)}:∀ {us:List (Nat×HB)},ia tj us→∀ q∈us,some q.1∈tj
 | [],_,q,h=>by simp at h
 | (i,hb)::r,hu,q,h=>by
   rcases List.mem_cons.1 h with rfl | h
   ·exact hu.1
   ·exact Dr hu.2 q h
def gZ (σ:List Nat) (pre us:List (Nat×HB)) (rs:List RR) (sv:SV) (env:List (Nat×SV)) (h:List (Option HB)) (kR:List (Option Nat)):Prop:=
 bW (σ.map some++kR)∧newL pre us kR∧ia (σ.map some++kR) us∧gP (gB (σ.map some++kR)) (aB h) pre us 0 (σ.map some++kR)∧aR (gB (σ.map some++kR)) (aB h) sv (aQ (lk env) (aB h) rs)
theorem EF {σ:List Nat} {pre us:List (Nat×HB)} {rs:List RR} {sv:SV} {env:List (Nat×SV)} {h:List (Option HB)} {kR:List (Option Nat)} (hr:gZ σ pre us rs sv env h kR):Fin σ pre us rs sv env h (gB (σ.map some++kR)):=by
 obtain ⟨h1,h2,h3,h4,h5⟩:=hr
 have yM:∀ j id,gB (σ.map some++kR) j=some id→(σ.map some++kR)[j]?=some (some id):=fun j id hj=>by
  unfold gB at hj
  cases hq:(σ.map some++kR)[j]? with
  | none=>rw [hq] at hj;cases hj
  | some x=>rw [hq] at hj;simp at hj;rw [hj]
 refine ⟨fun i j id hi hj=>zm h1 i j id (yM i id hi) (yM j id hj),fun j id hj=>?_,fun j id hj hl=>?_,fun j id hj=>?_,fun q hq=>?_,?_⟩
 ·unfold gB
  rw [List.getElem?_append_left (by have:=(List.getElem?_eq_some_iff.1 hj).1;simpa using this),List.getElem?_map,hj];rfl
 ·have:=yM j id hj
  rw [List.getElem?_append_right (by simpa using hl)] at this
  obtain ⟨g1,g2⟩:=He h2 _ id this
  exact ⟨g1,fun q hq he=>g2 (List.mem_map.2 ⟨q,hq,he⟩)⟩
 ·have:=Gt h4 j id (yM j id hj)
  rw [Nat.zero_add] at this
  obtain ⟨a,b,g1,g2,g3⟩:=this.get
  exact ⟨a,b,g1,g3,fun hp hpre=>LQ g2 hp hpre⟩
 ·obtain ⟨j,hj,he⟩:=List.mem_iff_getElem.1 (Dr h3 q hq)
  refine ⟨j,?_⟩
  unfold gB
  rw [List.getElem?_eq_getElem hj,he];rfl
 ·unfold aR at h5
  split at h5
  ·rename_i p xs hres;exact ⟨p,xs,hres,h5.1,h5.2⟩
  ·exact h5.elim
def aO (σ:Nat→Option Nat):List SV→List SV→Prop
 | [],[]=>True
 | x::xs,y::ys=>Bk σ x y∧aO σ xs ys
 | _,_=>False
theorem lO {σ:Nat→Option Nat}:∀ {xs ys:List SV},aO σ xs ys↔rO σ xs ys
 | [],[]=>⟨fun _=>⟨rfl,fun i x y hx=>by simp at hx⟩,fun _=>trivial⟩
 | [],_::_=>⟨fun h=>h.elim,fun h=>by simp [rO] at h⟩
 | _::_,[]=>⟨fun h=>h.elim,fun h=>by simp [rO] at h⟩
 | x::xs,y::ys=>by
   unfold aO
   rw [lO (xs:=xs) (ys:=ys)]
   constructor
   ·rintro ⟨h1,h2,h3⟩
    refine ⟨by simp [h2],fun i a b ha hb=>?_⟩
    cases i with
    | zero=>simp at ha hb;subst ha;subst hb;exact h1
    | succ i=>exact h3 i a b (by simpa using ha) (by simpa using hb)
   ·rintro ⟨h2,h3⟩
    exact ⟨h3 0 x y rfl rfl,by simpa using h2,fun i a b ha hb=>h3 (i+1) a b (by simpa using ha) (by simpa using hb)⟩
section
variable {σ:Nat→Option Nat}
theorem aS {r r':RV}:Bk σ (.rv r) (.rv r')↔r=r':=⟨fun hr=>by cases hr;rfl,fun e=>by subst e;exact .rv _⟩
theorem nX {x:SV}:Bk σ .dead x↔True:=⟨fun _=>trivial,fun _=>.dead _⟩
theorem lP {i j o o':Nat}:Bk σ (.ptr i o) (.ptr j o')↔σ i=some j∧o=o':=⟨fun hr=>by cases hr with | ptr _ _ _ hj=>exact ⟨hj,rfl⟩,fun ⟨e,e'⟩=>by subst e';exact .ptr _ _ _ e⟩
theorem lD {i j v v' l l':Nat}:Bk σ (.row i v l) (.row j v' l')↔σ i=some j∧v=v'∧l=l':=⟨fun hr=>by cases hr with | row _ _ _ _ hj=>exact ⟨hj,rfl,rfl⟩,fun ⟨e,e',e2⟩=>by subst e';subst e2;exact .row _ _ _ _ e⟩
theorem aW {xs ys:List SV}:Bk σ (.agg xs) (.agg ys)↔aO σ xs ys:=by rw [lO];exact ⟨fun hr=>by cases hr with | agg _ _ hl hf=>exact ⟨hl,hf⟩,fun ⟨e,e'⟩=>.agg _ _ e e'⟩
theorem nZ {xs ys:List SV}:Bk σ (.aP xs) (.aP ys)↔aO σ xs ys:=by rw [lO];exact ⟨fun hr=>by cases hr with | aP _ _ hl hf=>exact ⟨hl,hf⟩,fun ⟨e,e'⟩=>.aP _ _ e e'⟩
theorem bg {f f':FuncId} {xs ys:List SV}:Bk σ (.fn f xs) (.fn f' ys)↔f=f'∧aO σ xs ys:=by rw [lO];exact ⟨fun hr=>by cases hr with | fn _ _ _ hl hf=>exact ⟨rfl,hl,hf⟩,fun ⟨e,e',e2⟩=>by subst e;exact .fn _ _ _ e' e2⟩
theorem DE {f f':FuncId} {xs ys:List SV}:Bk σ (.fG f xs) (.fG f' ys)↔f=f'∧aO σ xs ys:=by rw [lO];exact ⟨fun hr=>by cases hr with | fG _ _ _ hl hf=>exact ⟨rfl,hl,hf⟩,fun ⟨e,e',e2⟩=>by subst e;exact .fG _ _ _ e' e2⟩
theorem nY {t t':TypeId} {x y:SV}:Bk σ (.bV t x) (.bV t' y)↔t=t'∧Bk σ x y:=⟨fun hr=>by cases hr with | bV _ _ _ hf=>exact ⟨rfl,hf⟩,fun ⟨e,e'⟩=>by subst e;exact .bV _ _ _ e'⟩
theorem bp {rs:List RV}:aO σ (rs.map .rv) (rs.map .rv)↔True:=⟨fun _=>trivial,fun _=>lO.2 ⟨rfl,fun i x y hx hy=>by
 rw [hx] at hy;cases hy
 rw [List.getElem?_map] at hx
 cases hr:rs[i]? with
 | none=>simp [hr] at hx
 | some r=>simp [hr] at hx;subst hx;exact .rv r⟩⟩
end
theorem fU {τ:Nat→Option Nat} {h:Hp} {rs qs:List RV}:aF τ h (rs.map .rv) (qs.map .rv)↔rs=qs:=by
 induction rs generalizing qs with
 | nil=>cases qs <;> simp [aF]
 | cons r rs ih=>cases qs with
   | nil=>simp [aF]
   | cons q qs=>simp [aF,aG,ih]
def ig (σ:Nat→Option Nat):List HB→List HB→Prop
 | [],[]=>True
 | .var xs::r,.var ys::q=>aO σ xs ys∧ig σ r q
 | .row e v xs::r,.row e' v' ys::q=>e=e'∧v=v'∧(xs=ys∧∃ zs,xs=aN zs)∧ig σ r q
 | _,_=>False
theorem ig.get {σ:Nat→Option Nat}:∀ {a b:List HB},ig σ a b→a.length=b.length∧∀ (j:Nat) (x y:HB),a[j]?=some x→b[j]?=some y→mQ σ x y
 | [],[],_=>⟨rfl,fun j x y hx=>by simp at hx⟩
 | .var xs::r,.var ys::q,h=>by
   obtain ⟨g1,g2⟩:=ig.get h.2
   refine ⟨by simp [g1],fun j x y hx hy=>?_⟩
   cases j with
   | zero=>simp at hx hy;subst hx;subst hy;exact .var _ _ (lO.1 h.1)
   | succ j=>exact g2 j x y (by simpa using hx) (by simpa using hy)
 | .row e v xs::r,.row e' v' ys::q,h=>by
   obtain ⟨rfl,rfl,⟨rfl,zs,rfl⟩,h4⟩:=h
   obtain ⟨g1,g2⟩:=ig.get h4
   refine ⟨by simp [g1],fun j x y hx hy=>?_⟩
   cases j with
   | zero=>
     simp at hx hy;subst hx;subst hy
     refine .row _ _ _ _ rfl (fun i x y hx hy=>?_)
     rw [hx] at hy;cases hy
     unfold aN at hx
     rw [List.getElem?_map] at hx
     cases hq:zs[i]? with
     | none=>simp [hq] at hx
     | some z=>simp [hq] at hx;subst hx;exact lO.1 (bp.2 trivial)
   | succ j=>exact g2 j x y (by simpa using hx) (by simpa using hy)
 | [],_::_,h=>h.elim
 | .var _::_,[],h=>h.elim
 | .row .. :: _,[],h=>h.elim
 | .var _::_,.row .. :: _,h=>h.elim
 | .row .. :: _,.var _::_,h=>h.elim
theorem mV {P:Program} {f:FuncId} {N:Nat} {ac:AC} {rs:List RR} (H:aU P f N ac rs) (σ:List Nat) (mB mC:List HB) (iU args:List SV) (us:List (Nat×HB)) (sv:SV) (hN:args.length≤N) (hA:aO (fun j=>σ[j]?) iU args) (hl:mB.length=σ.length) (yK:bW (σ.map some)) (hB:ig (fun j=>σ[j]?) mB mC)
 (hrun:∀ K:Ex→St→Prop,(∀ env h env' h' kR,fX σ.length ⟨env,h⟩ ⟨env',h'⟩→gZ σ (σ.zip mC) us rs sv env' h' kR→K .normal ⟨env,h⟩∧K .ret ⟨env,h⟩)→G P σ.length [.c ac] K (nK 0 iU) (mB.map some)):aI P f args (σ.zip mC) us sv:=by
 obtain ⟨g1,g2⟩:=hB.get
 refine xN H σ (mB.map some) iU hN (lO.1 hA) (by simpa using hl) (fun i j id h1 h2=>zm yK i j id (by simp [h1]) (by simp [h2])) (fun j id hj=>?_) (fun K hK=>hrun K (fun env h env' h' kR hE hr=>hK env h env' h' _ hE (EF hr)))
 have hlt:=(List.getElem?_eq_some_iff.1 hj).1
 have h1:=List.getElem?_eq_getElem (l:=mB) (i:=j) (by omega)
 have h2:=List.getElem?_eq_getElem (l:=mC) (i:=j) (by omega)
 refine ⟨_,_,by rw [List.getElem?_map,h1];rfl,?_,g2 j _ _ h1 h2⟩
 have hz:(σ.zip mC)[j]?=some (id,mC[j]'(by omega)):=by
  rw [List.getElem?_zip_eq_some];exact ⟨hj,h2⟩
 exact List.mem_of_getElem? hz
theorem iD {x:Option HB} {r:List (Option HB)}:aB (x::r) 0=x:=rfl
theorem iC {x:Option HB} {r:List (Option HB)} {n:Nat}:aB (x::r) (n+1)=aB r n:=rfl
theorem MQ {P:Program} {n0:Nat} {k:List It} {K:Ex→St→Prop} {env:List (Nat×SV)} {h:List (Option HB)} {id:Nat} {a:List Nat} {b:List TE} {c:List bI}:GX P n0 id (.d a b c::k) K env h=GX P n0 id k K env h:=rfl
theorem VD {α:Type} {o:Nat} {x l:List α}:splice l o x=l.take o++x++l.drop (o+x.length):=rfl
def tq (τ:Nat→Option Nat) (h:Hp):List SV→List RV→Prop
 | [],[]=>True
 | x::xs,r::rs=>Fz τ h x r∧tq τ h xs rs
 | _,_=>False
theorem tq.get {τ:Nat→Option Nat} {h:Hp}:∀ {xs:List SV} {rs:List RV},tq τ h xs rs→xs.length=rs.length∧∀ (j:Nat) (x:SV) (r:RV),xs[j]?=some x→rs[j]?=some r→Fz τ h x r
 | [],[],_=>⟨rfl,fun j x r hx=>by simp at hx⟩
 | x::xs,r::rs,hf=>by
   obtain ⟨g1,g2⟩:=tq.get hf.2
   refine ⟨by simp [g1],fun j y q hy hq=>?_⟩
   cases j with
   | zero=>simp at hy hq;subst hy;subst hq;exact hf.1
   | succ j=>exact g2 j y q (by simpa using hy) (by simpa using hq)
 | [],_::_,h=>h.elim
 | _::_,[],h=>h.elim
theorem om {τ:Nat→Option Nat} {h:Hp} {j e az len:Nat} {xs:List (List RV)} (hj:h j=some (.row e az (aN xs))) (lS:τ j=none) (hl:len≤xs.length) (h1:∀ x∈xs,∀ r∈x,r.one=true):Fz τ h (.row j az len) (.sl e (xs.take len)):=by
 have at_:∀ (i:Nat) (x:List SV) (r:List RV),(aN xs)[i]?=some x→(xs.take len)[i]?=some r→x=r.map .rv∧r∈xs:=fun i x r hx hr=>by
  have h1:=List.mem_of_mem_take (List.mem_of_getElem? hr)
  have hlt:=(List.getElem?_eq_some_iff.1 hr).1
  rw [List.getElem?_take,if_pos (by simp at hlt;omega)] at hr
  unfold aN at hx
  rw [List.getElem?_map,hr] at hx
  simp at hx
  exact ⟨hx.symm,h1⟩
 refine .row j e az len (aN xs) (xs.take len) lS hj (by simp;omega) (by rw [au];exact hl) (fun i x r hx hr=>?_) (fun i r k q hr hq=>?_) (fun i x r k y q hx hr hy hq=>?_)
 ·rw [(at_ i x r hx hr).1];simp
 ·exact h1 r (List.mem_of_mem_take (List.mem_of_getElem? hr)) q (List.mem_of_getElem? hq)
 ·rw [(at_ i x r hx hr).1,List.getElem?_map,hq] at hy
  simp at hy
  subst hy
  exact .rv q
theorem xM {P:Program} {f:FuncId} {rs:List RV} {args:List SV} {pre us:List (Nat×HB)} {sv:SV} (H:aI P f (rs.map .rv) [] us sv)
 (hz:∀ hp,aY hp pre→tq (fun _=>none) hp args rs) (hl:args.length=rs.length) (hfl:iL sv) (kD:∀ q∈us,oS q.2∧∀ p∈pre,p.1≠q.1):aI P f args pre us sv:=
 KV H hl (fun hp hpre j y r hy hr=>(hz hp hpre).get.2 j y r hy hr) hfl kD
theorem cn.ES {C:Ctx} {hp:Hp} {w:World} {aa:Nat→Option Nat} (R:cn C hp w aa) {i0 m o:Nat} {cs:List SV} (e:Nat) (hi:hp i0=some (.var cs)) (ho:cs[o]?=some (.rv .cr)) (hm:hp m=none) (hm0:C.h0 m=none) :
 ∃ aK,Step C hp (up (up hp m (some (.row e 0 []))) i0 (some (.var (cs.set o (.row m 0 0))))) w w aa aK:=by
 have S:=R.ghost m e 0 (.inl ⟨hm,hm0⟩)
 have hne:i0≠m:=fun h=>by subst h;rw [hm] at hi;cases hi
 have hi':(up hp m (some (.row e 0 []))) i0=some (.var cs):=by rw [gi _ _ hne];exact hi
 rcases S.mem.heap i0 _ hi' with ⟨_,e',az,hc⟩ | ⟨b,cur,t,h1,h2,h3⟩
 ·cases hc
 ·have S2:=S.mem.replace i0 (.var (cs.set o (.row m 0 0))) b cur t rfl rfl rfl (Nat.le_refl _) h2 (fun k _ _=>rfl) (.inl ⟨by rw [hi'];rfl,h1⟩) (fun hb hq=>by rw [hi'] at hq;cases hq;exact h1.symm) (fun hq=>by rw [hi'] at hq;cases hq) ⟨by rw [List.length_set];exact h3.1,fun j y hy=>by
   rw [List.getElem?_set] at hy
   split at hy
   ·rename_i hj
    subst hj
    split at hy
    ·cases hy
     obtain ⟨v,v1,v2,v3⟩:=h3.2 _ _ ho
     refine ⟨v,v1,v2,?_⟩
     cases v3 with
     | rv _ _ hr=>
       cases hr
       exact .row _ _ _ _ rfl (by rw [ct];rfl) (fun e fZ xs hx=>by rw [ct] at hx;cases hx;exact Nat.le_refl _) (fun e xs hx=>.inl ⟨ct _ _ _,rfl,rfl⟩)
    ·cases hy
   ·exact h3.2 j y hy⟩
  exact ⟨_,S.trans S2 (Nat.le_refl _)⟩
theorem KW {P:Program} {f:FuncId} {args:List SV} {pre us:List (Nat×HB)} {sv:SV} {i0 m e o:Nat} {cs:List SV} (ho:cs[o]?=some (.rv .cr)) (hm:∀ q∈pre,q.1≠m∧q.1≠i0) (hne:m≠i0) (h1:i0∈us.map (·.1)) (h2:m∈us.map (·.1))
 (H:aI P f args ((i0,.var (cs.set o (.row m 0 0)))::(m,.row e 0 [])::pre) us sv):aI P f args ((i0,.var cs)::pre) us sv:=by
 refine ⟨H.1,fun C hp w aa vs hpre hnew R hvl hvs=>?_⟩
 have hi:hp i0=some (.var cs):=hpre (i0,.var cs) (by simp)
 obtain ⟨hmn,hm0⟩:hp m=none∧C.h0 m=none:=by
  obtain ⟨q,hq,rfl⟩:=List.mem_map.1 h2
  rcases hnew q hq with ⟨hb,hmem⟩ | h
  ·rcases List.mem_cons.1 hmem with he | hmem
   ·cases he;exact absurd rfl hne
   ·exact absurd rfl (hm _ hmem).1
  ·exact h
 obtain ⟨zC,S⟩:=R.ES e hi ho hmn hm0
 have hE:∀ id,id≠m→id≠i0→(up (up hp m (some (.row e 0 []))) i0 (some (.var (cs.set o (.row m 0 0))))) id=hp id:=fun id a b=>by rw [gi _ _ b,gi _ _ a]
 have Of:bM (up (up hp m (some (.row e 0 []))) i0 (some (.var (cs.set o (.row m 0 0))))) us=bM hp us:=by
  funext id
  by_cases hid:id∈us.map (·.1)
  ·exact wU hid
  ·rw [zY hid,zY hid,hE id (fun h=>hid (h▸h2)) (fun h=>hid (h▸h1))]
 refine (H.2 C _ w zC vs (fun q hq=>?_) (fun q hq=>?_) S.mem hvl (fun j s hj=>(hvs j s hj).mono S.jW)).mono ?_
 ·rcases List.mem_cons.1 hq with rfl | hq
  ·exact ct _ _ _
  ·rcases List.mem_cons.1 hq with rfl | hq
   ·show (up (up hp m _) i0 _) m=_
    rw [gi _ _ hne,ct]
   ·rw [hE _ (hm q hq).1 (hm q hq).2];exact hpre q (by simp [hq])
 ·rcases hnew q hq with ⟨hb,hmem⟩ | ⟨a,b⟩
  ·rcases List.mem_cons.1 hmem with he | hmem
   ·exact .inl ⟨_,by rw [(Prod.mk.inj he).1];exact .head _⟩
   ·exact .inl ⟨hb,by simp [hmem]⟩
  ·by_cases FF:q.1=m
   ·exact .inl ⟨.row e 0 [],by rw [FF];simp⟩
   ·refine .inr ⟨?_,b⟩
    rw [hE _ FF (fun h=>by rw [h,hi] at a;cases a)];exact a
 ·rintro e' w' ⟨v,aK,rfl,S2,hR⟩
  rw [Of] at S2 hR
  exact ⟨v,aK,rfl,S.trans S2 (Nat.le_refl _),hR⟩
theorem KQ:(true != true)=false:=rfl
theorem KP:(true != false)=true:=rfl
theorem KO:(false != true)=true:=rfl
theorem KN:(false != false)=false:=rfl
end Go.aL

namespace Go.aL
open Go
def gD (k j:Nat):Option Nat:=if j<k then some j else none
def qo (τ:Nat→Option Nat) (h:Hp):Nat→List (Option HB)→Prop
 | _,[]=>True
 | _,none::_=>False
 | j,some hb::r=>fY τ h (h j) (some hb)∧qo τ h (j+1) r
theorem Gs {τ:Nat→Option Nat} {h:Hp}:∀ {l:List (Option HB)} {j:Nat},qo τ h j l→∀ i,i<l.length→∃ hb hb',l[i]?=some (some hb')∧h (j+i)=some hb∧oU τ h hb hb'
 | [],j,_,i,hi=>by simp at hi
 | none::_,j,hk,i,hi=>hk.elim
 | some x::r,j,hk,i,hi=>by
   cases i with
   | zero=>
     obtain ⟨a,b,g1,g2,g3⟩:=hk.1.get
     cases g2
     exact ⟨a,x,rfl,g1,g3⟩
   | succ i=>
     obtain ⟨a,b,g1,g2,g3⟩:=Gs hk.2 i (by simpa using hi)
     exact ⟨a,b,by simpa using g1,by rwa [show j+(i+1)=j+1+i by omega],g3⟩
theorem tN {n0:Nat} {env env':List (Nat×SV)} {h:List (Option HB)} (h':List (Option HB)) (hn:n0≤h'.length) (hk:qo (gD h'.length) (aB h) 0 h')
 (he:∀ p∈env',Rn (gD h'.length) (aB h) (lk env p.1) p.2):fX n0 ⟨env,h⟩ ⟨env',h'⟩:=by
 refine AQ (gD h'.length) hn (fun j i hj=>?_) (fun j hj=>?_) (fun j=>?_) (wA (fun x=>.dead x) he)
 ·unfold gD at hj;split at hj <;> cases hj;rfl
 ·unfold gD at hj;split at hj
  ·cases hj
  ·omega
 ·by_cases hj:j<h'.length
  ·obtain ⟨hb,hb',g1,g2,g3⟩:=Gs hk j hj
   rw [Nat.zero_add] at g2
   exact .inl ⟨hb,hb',by simp [gD,hj],g2,pz.2 g1,g3⟩
  ·refine .inr ⟨?_,.inl (by simp [gD,hj])⟩
   unfold aB
   rw [List.getElem?_eq_none (by omega)]
theorem pQ {τ:Nat→Option Nat} {h:Hp} {j e az len:Nat} {xs:List (List RV)} (hj:h j=some (.row e az (aN xs))) (lS:τ j=none) (hl:len=xs.length) (h1:∀ x∈xs,∀ r∈x,r.one=true):Rn τ h (.row j az len) (.rv (.sl e xs)):=by
 have:=om (τ:=τ) hj lS (len:=len) (by omega) h1
 rw [hl,List.take_length] at this
 rw [hl];exact .fz _ _ this
theorem RO.TN {w:World} {ok:Nat→Prop} {e:Nat} {v:Value} (h:RO w ok (.sl e []) v):RO w ok .cr v∨RO w ok .mN v:=by
 cases h with
 | sl _ _ a cap c h0 hc hm he hr h1 hy=>
   cases a with
   | none=>have:=(h0 rfl).2;subst this;exact .inl .cr
   | some a=>exact .inr (.mN a cap hm)
theorem DM {P:Program} {f:FuncId} {e:Nat} {lB bs:List SV} {pre us:List (Nat×HB)} {sv:SV} (h1:aI P f (lB ++ .rv .cr::bs) pre us sv) (h2:aI P f (lB ++ .rv .mN::bs) pre us sv):aI P f (lB ++ .rv (.sl e [])::bs) pre us sv:=by
 refine ⟨h1.1,fun C hp w aa vs hpre hnew R hvl hvs=>?_⟩
 have hj:=hvs lB.length (.rv (.sl e [])) (by simp)
 have key:∀ r:RV,RO w (aJ C aa hp) r (vs.getD lB.length undef)→∀ (j:Nat) (s:SV),(lB ++ .rv r::bs)[j]?=some s→Rp w (aJ C aa hp) aa hp s (vs.getD j undef):=fun r hr j s hs=>by
  by_cases he:j=lB.length
  ·subst he
   simp at hs
   subst hs
   exact .rv _ _ hr
  ·refine hvs j s ?_
   by_cases hlt:j<lB.length
   ·rw [List.getElem?_append_left hlt] at hs ⊢;exact hs
   ·rw [List.getElem?_append_right (by omega)] at hs ⊢
    obtain ⟨k,hk⟩:∃ k,j - lB.length=k+1:=⟨j - lB.length - 1,by omega⟩
    rw [hk,List.getElem?_cons_succ] at hs ⊢
    exact hs
 cases hj with
 | rv _ _ hr=>
   rcases RO.TN hr with hr | hr
   ·exact h1.2 C hp w aa vs hpre hnew R (by simpa using hvl) (key _ hr)
   ·exact h2.2 C hp w aa vs hpre hnew R (by simpa using hvl) (key _ hr)
end Go.aL

namespace Go.aL
open Go
section
variable {P:Program} {n0:Nat} {k:List It} {K:Ex→St→Prop} {env:List (Nat×SV)} {h:List (Option HB)}
theorem Lc {a b:AC}:xX P n0 a b k K env h (.rv (.bool true))=G P n0 (.c a::k) K env h:=rfl
theorem Lb {a b:AC}:xX P n0 a b k K env h (.rv (.bool false))=G P n0 (.c b::k) K env h:=rfl
theorem ai {a b:AC} {t:Bool} (h1:t=true→G P n0 (.c a::k) K env h) (h2:t=false→G P n0 (.c b::k) K env h):xX P n0 a b k K env h (.rv (.bool t)):=by
 cases t
 ·exact h2 rfl
 ·exact h1 rfl
section
variable {ao:AO} {xs:List XO} {dst:Option Nat} {r:List bI} {aZ:List Nat} {acc:List TE} {fD:List Nat}
theorem MG:sr P n0 true ao xs dst r k K env h (.rv (.bool true))=sW P n0 ao (xs.map (je (lk env))) dst r k K env h:=rfl
theorem MF:sr P n0 true ao xs dst r k K env h (.rv (.bool false))=G P n0 (.o r::k) K (gf dst (.aP []) env) h:=rfl
theorem ME:sr P n0 false ao xs dst r k K env h (.rv (.bool true))=G P n0 (.o r::k) K (gf dst (.aP []) env) h:=rfl
theorem MD:sr P n0 false ao xs dst r k K env h (.rv (.bool false))=sW P n0 ao (xs.map (je (lk env))) dst r k K env h:=rfl
theorem MH {b:Bool}:sr P n0 b ao xs dst r k K env h (.aP [])=G P n0 (.o r::k) K (gf dst (.aP []) env) h:=rfl
theorem MM {b:Bool}:su P n0 aZ acc fD b ao xs dst r k K env h (.aP [])=G P n0 (.d aZ (acc++[⟨fD,dst,[],[]⟩]) r::k) K (gf dst (.aP []) env) h:=rfl
theorem ax {b t:Bool} (h1:t=b→sW P n0 ao (xs.map (je (lk env))) dst r k K env h) (h2:t = !b→G P n0 (.o r::k) K (gf dst (.aP []) env) h):sr P n0 b ao xs dst r k K env h (.rv (.bool t)):=by
 cases t <;> cases b <;> first | exact h1 rfl | exact h2 rfl
theorem ML:su P n0 aZ acc fD true ao xs dst r k K env h (.rv (.bool true))=sY P n0 aZ acc fD ao (xs.map (je (lk env))) dst r k K env h:=rfl
theorem MK:su P n0 aZ acc fD true ao xs dst r k K env h (.rv (.bool false))=G P n0 (.d aZ (acc++[⟨fD,dst,[],[]⟩]) r::k) K (gf dst (.aP []) env) h:=rfl
theorem MJ:su P n0 aZ acc fD false ao xs dst r k K env h (.rv (.bool true))=G P n0 (.d aZ (acc++[⟨fD,dst,[],[]⟩]) r::k) K (gf dst (.aP []) env) h:=rfl
theorem MI:su P n0 aZ acc fD false ao xs dst r k K env h (.rv (.bool false))=sY P n0 aZ acc fD ao (xs.map (je (lk env))) dst r k K env h:=rfl
theorem ay {b t:Bool} (h1:t=b→sY P n0 aZ acc fD ao (xs.map (je (lk env))) dst r k K env h) (h2:t = !b→G P n0 (.d aZ (acc++[⟨fD,dst,[],[]⟩]) r::k) K (gf dst (.aP []) env) h):su P n0 aZ acc fD b ao xs dst r k K env h (.rv (.bool t)):=by
 cases t <;> cases b <;> first | exact h1 rfl | exact h2 rfl
end
end
theorem Te {x y:SV}:wJ [.rv (.bool true),x,y]=some (True,x,none,[]):=rfl
theorem Td {x y:SV}:wJ [.rv (.bool false),x,y]=some (True,y,none,[]):=rfl
theorem bB {x y:Int}:(x == y)=decide (x=y):=rfl
theorem Jv {m:Int} (h1:0≤m) (h2:m≤4611686018427387904):IntKind.i64.wrap (0 - m) = -m:=by rw [wrap_i64 (by omega) (by omega)];omega
theorem xL {P:Program} {f:FuncId} {N:Nat} {ac:AC} {rs:List RR} (H:aU P f N ac rs) (σ:List Nat) (mB mC:List HB) (iU args:List SV) (us:List (Nat×HB)) (sv:SV) (hN:args.length≤N) (hA:aO (fun j=>σ[j]?) iU args) (hl:mB.length=σ.length) (yK:bW (σ.map some)) (g1:mB.length=mC.length)
 (g2:∀ (j:Nat) (x y:HB),mB[j]?=some x→mC[j]?=some y→mQ (fun j=>σ[j]?) x y)
 (hrun:∀ K:Ex→St→Prop,(∀ env h env' h' kR,fX σ.length ⟨env,h⟩ ⟨env',h'⟩→gZ σ (σ.zip mC) us rs sv env' h' kR→K .normal ⟨env,h⟩∧K .ret ⟨env,h⟩)→G P σ.length [.c ac] K (nK 0 iU) (mB.map some)):aI P f args (σ.zip mC) us sv:=by
 refine xN H σ (mB.map some) iU hN (lO.1 hA) (by simpa using hl) (fun i j id h1 h2=>zm yK i j id (by simp [h1]) (by simp [h2])) (fun j id hj=>?_) (fun K hK=>hrun K (fun env h env' h' kR hE hr=>hK env h env' h' _ hE (EF hr)))
 have hlt:=(List.getElem?_eq_some_iff.1 hj).1
 have h1:=List.getElem?_eq_getElem (l:=mB) (i:=j) (by omega)
 have h2:=List.getElem?_eq_getElem (l:=mC) (i:=j) (by omega)
 refine ⟨_,_,by rw [List.getElem?_map,h1];rfl,?_,g2 j _ _ h1 h2⟩
 have hz:(σ.zip mC)[j]?=some (id,mC[j]'(by omega)):=by
  rw [List.getElem?_zip_eq_some];exact ⟨hj,h2⟩
 exact List.mem_of_getElem? hz
theorem KZ {P:Program} {f:FuncId} {args:List SV} {pre pre' us:List (Nat×HB)} {sv:SV} (h:aI P f args pre us sv) (hp:∀ q,q∈pre↔q∈pre'):aI P f args pre' us sv:=
 ⟨h.1,fun C kC w aa vs a b c d e=>h.2 C kC w aa vs (fun q hq=>a q ((hp q).1 hq)) (fun q hq=>(b q hq).imp (fun ⟨hb,hm⟩=>⟨hb,(hp _).2 hm⟩) id) c d e⟩
def gY (i:Nat) (os:List Nat):List (List SV):=os.map fun o=>[.ptr i o]
theorem HS {i:Nat} {os:List Nat}:(gY i os).length=os.length:=by simp [gY]
theorem zD {τ:Nat→Option Nat} {h:Hp} {i j:Nat} {os:List Nat} (lS:τ i=some j):Ag τ h (gY i os) (gY j os):=by
 refine ⟨by simp [gY],fun k x y hx hy=>?_⟩
 unfold gY at hx hy
 rw [List.getElem?_map] at hx hy
 cases hk:os[k]? with
 | none=>simp [hk] at hx
 | some o=>
   simp [hk] at hx hy
   subst hx;subst hy
   exact uA.1 ⟨.ptr _ _ _ lS,trivial⟩
theorem KL {σ:Nat→Option Nat} {i j e v:Nat} {os:List Nat} (oz:σ i=some j):mQ σ (.row e v (gY i os)) (.row e v (gY j os)):=by
 refine .row _ _ _ _ (by simp [gY]) (fun k x y hx hy=>?_)
 unfold gY at hx hy
 rw [List.getElem?_map] at hx hy
 cases hk:os[k]? with
 | none=>simp [hk] at hx
 | some o=>
   simp [hk] at hx hy
   subst hx;subst hy
   exact lO.1 ⟨.ptr _ _ _ oz,trivial⟩
theorem DG {σ:Nat→Option Nat} {rs:List RV}:mQ σ (.var (rs.map .rv)) (.var (rs.map .rv)):=.var _ _ (lO.1 (bp.2 trivial))
theorem Al {σ:Nat→Option Nat} {xs ys:List SV} (h:aO σ xs ys):mQ σ (.var xs) (.var ys):=.var _ _ (lO.1 h)
theorem DF {σ:Nat→Option Nat} {e v:Nat} {xs:List (List RV)}:mQ σ (.row e v (aN xs)) (.row e v (aN xs)):=by
 refine .row _ _ _ _ rfl (fun i x y hx hy=>?_)
 rw [hx] at hy;cases hy
 unfold aN at hx
 rw [List.getElem?_map] at hx
 cases hq:xs[i]? with
 | none=>simp [hq] at hx
 | some z=>simp [hq] at hx;subst hx;exact lO.1 (bp.2 trivial)
theorem Kw {p:Nat→HB→HB→Prop} {a a' b b' c c':HB} (h0:p 0 a a') (h1:p 1 b b') (h2:p 2 c c'):∀ (j:Nat) (x y:HB),[a,b,c][j]?=some x→[a',b',c'][j]?=some y→p j x y:=by
 intro j x y hx hy
 match j with
 | 0=>simp at hx hy;subst hx;subst hy;exact h0
 | 1=>simp at hx hy;subst hx;subst hy;exact h1
 | 2=>simp at hx hy;subst hx;subst hy;exact h2
 | j+3=>simp at hx
theorem Dp {p:Nat→HB→HB→Prop} {a a' b b':HB} (h0:p 0 a a') (h1:p 1 b b'):∀ (j:Nat) (x y:HB),[a,b][j]?=some x→[a',b'][j]?=some y→p j x y:=by
 intro j x y hx hy
 match j with
 | 0=>simp at hx hy;subst hx;subst hy;exact h0
 | 1=>simp at hx hy;subst hx;subst hy;exact h1
 | j+2=>simp at hx
theorem bt {P:Program} {f:FuncId} {N:Nat} {ac:AC} {rs:List RR} (H:aU P f N ac rs) (args:List SV) (sv:SV) (hN:args.length≤N) (hA:aO (fun j=>([]:List Nat)[j]?) args args)
 (hrun:∀ K:Ex→St→Prop,(∀ env h,aR (fun _=>none) (aB h) sv (aQ (lk env) (aB h) rs)→K .normal ⟨env,h⟩∧K .ret ⟨env,h⟩)→G P 0 [.c ac] K (nK 0 args) []):aI P f args [] [] sv:=by
 refine xN H [] [] args hN (lO.1 hA) rfl (by simp) (by simp) (fun K hK=>hrun K (fun env h hr=>?_))
 unfold aR at hr
 split at hr
 ·rename_i p xs hres
  exact hK env h env h (fun _=>none) (gO _ _) ⟨by simp,by simp,by simp,by simp,by simp,p,xs,hres,hr.1,hr.2⟩
 ·exact hr.elim
theorem bO {τ:Nat→Option Nat} {h:Hp} {env:List (Nat×SV)} {n:Nat} {r:RV} (hl:lk env n = .rv r):aR τ h (.rv r) (aQ (lk env) h [.t n]):=by
 simp [aQ,aR,aV,hl,aG]
theorem gL {τ:Nat→Option Nat} {h:Hp} {env:List (Nat×SV)} {n m:Nat} {r q:RV} (hl:lk env n = .rv r) (hm:lk env m = .rv q):aR τ h (.aP [.rv r,.rv q]) (aQ (lk env) h [.t n,.t m]):=by
 simp [aQ,aR,aV,hl,hm,aG,bf,aF]
theorem Ba {τ:Nat→Option Nat} {h:Hp}:∀ (bs:List RV),tq τ h (bs.map .rv) bs
 | []=>trivial
 | b::bs=>⟨.rv b,Ba bs⟩
theorem GB {P:Program} {f:FuncId} {e id v n:Nat} {xs:List (List RV)} {bs:List RV} {r:RV} (H:aI P f (.rv (.sl e xs)::bs.map .rv) [] [] (.rv r)) (hf:jA r) (hn:n=xs.length) (h1:∀ x∈xs,∀ r∈x,r.one=true) :
 aI P f (.row id v n::bs.map .rv) [(id,.row e v (aN xs))] [] (.rv r):=by
 refine xM (rs:=.sl e xs::bs) H (fun hp hpre=>⟨?_,?_⟩) (by simp) (.rv _ hf) (by simp)
 ·have:=om (h:=hp) (τ:=fun _=>none) (j:=id) (e:=e) (az:=v) (len:=n) (xs:=xs) (hpre _ (.head _)) rfl (by omega) h1
  rwa [hn,List.take_length,← hn] at this
 ·exact Ba bs
theorem GC {P:Program} {f:FuncId} {e id v n:Nat} {xs:List (List RV)} {bs:List RV} {rs:List RV} (H:aI P f (.rv (.sl e xs)::bs.map .rv) [] [] (.aP (rs.map .rv))) (hf:∀ r∈rs,jA r) (hn:n=xs.length) (h1:∀ x∈xs,∀ r∈x,r.one=true) :
 aI P f (.row id v n::bs.map .rv) [(id,.row e v (aN xs))] [] (.aP (rs.map .rv)):=by
 refine xM (rs:=.sl e xs::bs) H (fun hp hpre=>⟨?_,?_⟩) (by simp) (.aP _ (fun j y hy=>?_)) (by simp)
 ·have:=om (h:=hp) (τ:=fun _=>none) (j:=id) (e:=e) (az:=v) (len:=n) (xs:=xs) (hpre _ (.head _)) rfl (by omega) h1
  rwa [hn,List.take_length,← hn] at this
 ·exact Ba bs
 ·rw [List.getElem?_map] at hy
  cases hr:rs[j]? with
  | none=>simp [hr] at hy
  | some r=>simp [hr] at hy;subst hy;exact .rv _ (hf r (List.mem_of_getElem? hr))
end Go.aL

namespace Go.aL
open Go
theorem qL {n0:Nat} {env:List (Nat×SV)} {h:List (Option HB)} (n e v:Nat) (hn:lk env n = .rv .cr):fX n0 ⟨env,h⟩ ⟨(n,.row h.length v 0)::env,h++[some (.row e v [])]⟩:=by
 intro C a w R
 obtain ⟨⟨aa,RF⟩,h1,h0⟩:=R
 have hnone:aB h h.length=none:=by unfold aB;rw [List.getElem?_eq_none (Nat.le_refl _)]
 have vo:C.h0 h.length=none:=h0 _ h1
 have S:=RF.mem.ghost h.length e v (.inl ⟨hnone,vo⟩)
 have lA:=RF.step S
 have hh:aB (h++[some (.row e v [])])=up (aB h) h.length (some (.row e v [])):=by
  have:=yE (h:=h) (q:=(h.length,.row e v [])) (Nat.le_refl _)
  rw [← this]
  unfold aX;rw [if_pos rfl]
 have hv:=RF.env n
 rw [hn] at hv
 refine ⟨⟨up aa h.length none,?_,fun m=>?_,lA.size,lA.defers⟩,?_,h0⟩
 ·show cn C (aB (h++[some (.row e v [])])) w (up aa h.length none)
  rw [hh];exact lA.mem
 ·show Rp w (aJ C (up aa h.length none) (aB (h++[some (.row e v [])]))) (up aa h.length none) (aB (h++[some (.row e v [])])) (lk ((n,.row h.length v 0)::env) m) _
  rw [hh,wB]
  by_cases hm:m=n
  ·subst hm
   rw [ct]
   cases hv with
   | rv _ _ hr=>
     generalize a.tmps.getD m undef=v at hr
     cases hr
     refine .row _ _ _ _ rfl (by rw [ct];rfl) (fun e fZ xs hx=>by rw [ct] at hx;cases hx;exact Nat.le_refl _) (fun e xs hx=>.inl ⟨ct _ _ _,rfl,rfl⟩)
  ·rw [gi _ _ hm];exact lA.env m
 ·show n0≤(h++[some (HB.row e v [])]).length
  have MX:n0≤h.length:=h1
  simp;omega
theorem cn.MN {C:Ctx} {hp:Hp} {w:World} {aa:Nat→Option Nat} (R:cn C hp w aa) {i0 m k v:Nat} {xs:List (List SV)} (e:Nat) (hi:hp i0=some (.row 1 v xs)) (ho:xs[k]?=some [.rv .cr]) (hm:hp m=none) (hm0:C.h0 m=none) :
 ∃ aK,Step C hp (up (up hp m (some (.row e 0 []))) i0 (some (.row 1 v (xs.set k [.row m 0 0])))) w w aa aK:=by
 have S:=R.ghost m e 0 (.inl ⟨hm,hm0⟩)
 have hne:i0≠m:=fun h=>by subst h;rw [hm] at hi;cases hi
 have hi':(up hp m (some (.row e 0 []))) i0=some (.row 1 v xs):=by rw [gi _ _ hne];exact hi
 rcases S.mem.heap i0 _ hi' with ⟨_,e',az,hc⟩ | ⟨b,cur,t,h1,h2,h3⟩
 ·cases hc;simp at ho
 ·have S2:=S.mem.replace i0 (.row 1 v (xs.set k [.row m 0 0])) b cur t rfl rfl rfl (Nat.le_refl _) h2 (fun k _ _=>rfl) (.inl ⟨by rw [hi'];rfl,h1⟩) (fun hb hq=>by
   rw [hi'] at hq;cases hq
   exact ⟨Nat.le_refl _,fun _=>⟨rfl,h1.symm,fun b' _ cur t hc=>⟨cur,t,hc,rfl⟩⟩⟩) (fun hq=>by rw [hi'] at hq;cases hq) ⟨fun x hx=>by
   rcases List.mem_or_eq_of_mem_set hx with h | h
   ·exact h3.1 x h
   ·rw [h];rfl,by rw [List.length_set];exact h3.2.1,fun i x hx=>by
   rw [List.getElem?_set] at hx
   split at hx
   ·rename_i hik
    subst hik
    split at hx
    ·cases hx
     intro j y hy
     cases j with
     | succ j=>simp at hy
     | zero=>
       simp at hy
       subst hy
       obtain ⟨u,v1,v2,v3⟩:=h3.2.2 _ _ ho 0 _ rfl
       refine ⟨u,v1,v2,?_⟩
       cases v3 with
       | rv _ _ hr=>
         cases hr
         exact .row _ _ _ _ rfl (by rw [ct];rfl) (fun e fZ xs hx=>by rw [ct] at hx;cases hx;exact Nat.le_refl _) (fun e xs hx=>.inl ⟨ct _ _ _,rfl,rfl⟩)
    ·cases hx
   ·exact h3.2.2 i x hx⟩
  exact ⟨_,S.trans S2 (Nat.le_refl _)⟩
def iW (n:Nat) (e:Nat):List (Option HB):=List.replicate n (some (.row e 0 []))
def iG (b n k:Nat):List (List SV):=(List.range n).map fun p=>if p<k then [.row (b+p) 0 0] else [.rv .cr]
theorem LI {n0:Nat} {env:List (Nat×SV)} {h:List (Option HB)} {r v n e k:Nat} (hr:h[r]?=some (some (.row 1 v (iG h.length n k)))) (hk:k<n) :
 fX n0 ⟨env,h++iW k e⟩ ⟨env,(h.set r (some (.row 1 v (iG h.length n (k+1)))))++iW (k+1) e⟩:=by
 intro C a w R
 obtain ⟨⟨aa,RF⟩,h1,h0⟩:=R
 have hrl:r<h.length:=(List.getElem?_eq_some_iff.1 hr).1
 have hlen:(h++iW k e).length=h.length+k:=by simp [iW]
 have hnone:aB (h++iW k e) (h.length+k)=none:=by unfold aB;rw [List.getElem?_eq_none (by rw [hlen];exact Nat.le_refl _)]
 have vo:C.h0 (h.length+k)=none:=h0 _ (by have:n0≤(h++iW k e).length:=h1;omega)
 have hi:aB (h++iW k e) r=some (.row 1 v (iG h.length n k)):=by
  unfold aB;rw [List.getElem?_append_left hrl,hr]
 have ho:(iG h.length n k)[k]?=some [.rv .cr]:=by simp [iG,hk]
 have M:cn C (aB (h++iW k e)) w aa:=RF.mem
 obtain ⟨aK,S⟩:=M.MN e hi ho hnone vo
 have vO:(iG h.length n k).set k [.row (h.length+k) 0 0]=iG h.length n (k+1):=by
  refine List.ext_getElem (by simp [iG]) (fun i a1 a2=>?_)
  simp only [List.getElem_set,iG,List.getElem_map,List.getElem_range]
  by_cases hik:k=i
  ·subst hik;simp
  ·rw [if_neg hik]
   by_cases hlt:i<k
   ·rw [if_pos hlt,if_pos (by omega)]
   ·rw [if_neg hlt,if_neg (by omega)]
 have hh:aB ((h.set r (some (.row 1 v (iG h.length n (k+1)))))++iW (k+1) e)=up (up (aB (h++iW k e)) (h.length+k) (some (.row e 0 []))) r (some (.row 1 v ((iG h.length n k).set k [.row (h.length+k) 0 0]))):=by
  rw [vO]
  funext j
  unfold aB up
  by_cases hj:j=r
  ·subst hj
   rw [if_pos rfl,List.getElem?_append_left (by simpa using hrl),List.getElem?_set]
   simp [hrl]
  ·rw [if_neg hj]
   by_cases yG:j=h.length+k
   ·subst yG
    rw [if_pos rfl,List.getElem?_append_right (by simp)]
    simp [iW]
   ·rw [if_neg yG]
    dsimp only
    by_cases hjl:j<h.length
    ·rw [List.getElem?_append_left (by simpa using hjl),List.getElem?_append_left hjl,List.getElem?_set_ne (Ne.symm hj)]
    ·rw [List.getElem?_append_right (by simp;omega),List.getElem?_append_right (by omega)]
     simp only [List.length_set,iW,List.getElem?_replicate]
     by_cases Fs:j - h.length<k
     ·rw [if_pos (by omega),if_pos Fs]
     ·rw [if_neg (by omega),if_neg Fs]
 have lA:=RF.step S
 refine ⟨⟨aK,?_,fun m=>?_,lA.size,lA.defers⟩,?_,h0⟩
 ·show cn C (aB _) w aK
  rw [hh];exact lA.mem
 ·show Rp w (aJ C aK (aB _)) aK (aB _) _ _
  rw [hh];exact lA.env m
 ·show n0≤((h.set r _)++iW (k+1) e).length
  have:n0≤(h++iW k e).length:=h1
  simp [iW] at this ⊢;omega
theorem Ev {n0:Nat} {env:List (Nat×SV)} {h:List (Option HB)} {r v n e:Nat} (hr:h[r]?=some (some (.row 1 v (List.replicate n [.rv .cr])))) :
 fX n0 ⟨env,h⟩ ⟨env,(h.set r (some (.row 1 v (iG h.length n n))))++iW n e⟩:=by
 have hrl:r<h.length:=(List.getElem?_eq_some_iff.1 hr).1
 have hz:iG h.length n 0=List.replicate n [.rv .cr]:=by
  refine List.ext_getElem (by simp [iG]) (fun i h1 h2=>?_)
  simp [iG]
 have key:∀ k,k≤n→fX n0 ⟨env,h⟩ ⟨env,(h.set r (some (.row 1 v (iG h.length n k))))++iW k e⟩:=by
  intro k
  induction k with
  | zero=>
    intro _
    have:h.set r (some (.row 1 v (iG h.length n 0)))=h:=by
     rw [hz]
     refine List.ext_getElem? (fun i=>?_)
     rw [List.getElem?_set]
     by_cases hi:r=i
     ·subst hi;rw [if_pos rfl,if_pos hrl,hr]
     ·rw [if_neg hi]
    rw [this]
    simpa [iW] using gO n0 ⟨env,h⟩
  | succ k ih=>
    intro hk
    refine (ih (by omega)).trans ?_
    have hl:(h.set r (some (.row 1 v (iG h.length n k)))).length=h.length:=by simp
    have:=LI (n0:=n0) (env:=env) (h:=h.set r (some (.row 1 v (iG h.length n k)))) (r:=r) (v:=v) (n:=n) (e:=e) (k:=k) (by rw [hl,List.getElem?_set];simp [hrl]) (by omega)
    rw [hl,List.set_set] at this
    exact this
 exact key n (Nat.le_refl _)
theorem KX {P:Program} {f:FuncId} {rs:List RV} {us:List (Nat×HB)} {sv wO:SV} (H:aI P f (rs.map .rv) [] us sv) (hz:Rn (fun _=>none) (bM (fun _=>none) us) sv wO) (aD:∃ rs',wO = .rv rs'∨∃ qs:List RV,wO = .aP (qs.map .rv)):aI P f (rs.map .rv) [] [] wO:=by
 refine ⟨H.1,fun C hp w aa vs hpre hnew R hvl hvs=>?_⟩
 let C2:Ctx:=⟨w,fun b=>aJ C aa hp b,fun _=>False,C.N,fun _=>none,fun _=>none⟩
 have sJ:∀ b,C2.wE b→aJ C2 (fun _=>none) (fun _=>none) b:=fun b hb=>⟨.inl hb,fun id hid=>by simp at hid⟩
 have R2:cn C2 (fun _=>none) w (fun _=>none):=⟨fun id hb h=>(by cases h),fun i j b h=>(by simp at h),fun i b h=>(by simp at h),⟨rfl,rfl,rfl,Nat.le_refl _,fun b _ _=>rfl⟩,fun id hb hb0 h=>(by cases h)⟩
 refine (H.2 C2 (fun _=>none) w (fun _=>none) vs (fun q hq=>by simp at hq) (fun q hq=>.inr ⟨rfl,rfl⟩) R2 hvl (fun j s hj=>?_)).mono ?_
 ·have h1:=hvs j s hj
  rw [List.getElem?_map] at hj
  cases hr:rs[j]? with
  | none=>simp [hr] at hj
  | some r=>
    simp [hr] at hj
    subst hj
    cases h1 with
    | rv _ _ h=>exact .rv _ _ (h.mono fun b hb _=>⟨sJ b hb,rfl⟩)
 ·rintro e w' ⟨v,aK,rfl,S,hR⟩
  have R':=S.mem
  have hsz:w.heap.size≤w'.heap.size:=R'.fr.size
  have sU:∀ b,aJ C aa hp b→b<w.heap.size→aJ C aa hp b∧w'.heap[b]?=w.heap[b]?:=fun b hb hlt=>⟨hb,R'.fr.block b hlt (fun h=>h)⟩
  have Hl:∀ b,w.heap.size≤b→aJ C aa hp b:=fun b hb=>⟨.inr (Nat.le_trans R.fr.size hb),fun id hid he=>by have:=(R.own id b hid he).2;omega⟩
  have E:jc w w' (aJ C aa hp) (aJ C aa hp) aa aa hp hp:=jc.of sU (fun id hb hq=>⟨hb,hq,by
   cases hb with
   | var cs=>rfl
   | row e az xs=>exact ⟨Nat.le_refl _,fun _=>⟨rfl,rfl,fun b hb cur t hc=>⟨cur,t,by rw [R'.fr.block b (R.own id b (by rw [hq];rfl) hb).2 (fun h=>h)];exact hc,rfl⟩⟩⟩⟩)
  have out:Rp w' (aJ C aa hp) aa hp wO v:=hR.leave (τ:=fun _=>none) (aa:=aa) (hp:=hp) (fun b hb=>by
   rcases hb.1 with h | h
   ·exact h
   ·exact Hl b h) (fun j b _ hs hb=>by
   rcases (R'.own j b hs hb).1 with ⟨h,_⟩ | h
   ·cases h
   ·exact Hl b h) (fun j hb hj=>R'.heap j hb hj) (fun j id hj=>by cases hj) hz
  refine ⟨v,aa,rfl,⟨⟨fun id hb hq=>?_,R.inj,fun id b h1 h2=>⟨(R.own id b h1 h2).1,by have:=(R.own id b h1 h2).2;omega⟩,⟨R'.fr.os.trans R.fr.os,R'.fr.tape.trans R.fr.tape,R'.fr.output.trans R.fr.output,Nat.le_trans R.fr.size hsz,fun b h1 h2=>?_⟩,fun id hb hb0 h1 h2=>?_⟩,E⟩,out⟩
  ·have fP:hp id=some hb:=hq
   rcases R.heap id hb fP with h | ⟨b,cur,t,a1,a2,a3⟩
   ·exact .inl h
   ·refine .inr ⟨b,cur,t,a1,?_,a3.mono E⟩
    rw [R'.fr.block b (R.own id b (by rw [fP];rfl) a1).2 (fun h=>h)];exact a2
  ·have hb:b<w.heap.size:=by have:=R.fr.size;omega
   rw [R'.fr.block b hb (fun h=>h)]
   exact R.fr.block b h1 h2
  ·have fP:hp id=some hb:=h1
   refine (R.jW id hb hb0 fP h2).trans ?_
   cases hb with
   | var cs=>rfl
   | row e az xs=>exact ⟨Nat.le_refl _,fun _=>⟨rfl,rfl,fun b hb cur t hc=>⟨cur,t,by rw [R'.fr.block b (R.own id b (by rw [fP];rfl) hb).2 (fun h=>h)];exact hc,rfl⟩⟩⟩
end Go.aL

namespace Go.aL
open Go
inductive iO (n:Nat):SV→Prop where
 | dead:iO n .dead
 | rv (r:RV):iO n (.rv r)
 | ptr (id off:Nat) (h:id<n):iO n (.ptr id off)
 | bX (id az i off:Nat) (h:id<n):iO n (.bX id az i off)
 | row (id az len:Nat) (h:id<n):iO n (.row id az len)
 | win (id az off len:Nat) (h:id<n):iO n (.win id az off len)
 | agg (cs:List SV) (h:∀ (j:Nat) (y:SV),cs[j]?=some y→iO n y):iO n (.agg cs)
 | aP (cs:List SV) (h:∀ (j:Nat) (y:SV),cs[j]?=some y→iO n y):iO n (.aP cs)
 | fn (f:FuncId) (cs:List SV) (h:∀ (j:Nat) (y:SV),cs[j]?=some y→iO n y):iO n (.fn f cs)
 | fG (f:FuncId) (cs:List SV) (h:∀ (j:Nat) (y:SV),cs[j]?=some y→iO n y):iO n (.fG f cs)
 | bV (t:TypeId) (x:SV) (h:iO n x):iO n (.bV t x)
theorem iO.rn {n:Nat} {h:Hp} {x:SV} (hc:iO n x):Rn (gD n) h x x:=by
 induction hc with
 | dead=>exact .dead _
 | rv r=>exact .fz _ _ (.rv r)
 | ptr id off h=>exact .ptr _ _ _ (by simp [gD,h])
 | bX id az i off h=>exact .bX _ _ _ _ _ (by simp [gD,h])
 | row id az len h=>exact .row _ _ _ _ (by simp [gD,h])
 | win id az off len h=>exact .win _ _ _ _ _ (by simp [gD,h])
 | agg cs h ih=>exact .agg _ _ rfl (fun i x y hx hy=>by rw [hx] at hy;cases hy;exact ih i x hx)
 | aP cs h ih=>exact .aP _ _ rfl (fun i x y hx hy=>by rw [hx] at hy;cases hy;exact ih i x hx)
 | fn f cs h ih=>exact .fn _ _ _ rfl (fun i x y hx hy=>by rw [hx] at hy;cases hy;exact ih i x hx)
 | fG f cs h ih=>exact .fG _ _ _ rfl (fun i x y hx hy=>by rw [hx] at hy;cases hy;exact ih i x hx)
 | bV t x h ih=>exact .bV _ _ _ ih
def mR (n:Nat):List SV→Prop
 | []=>True
 | x::r=>iO n x∧mR n r
theorem mR.get {n:Nat}:∀ {l:List SV},mR n l→∀ (j:Nat) (y:SV),l[j]?=some y→iO n y
 | [],_,j,y,h=>by simp at h
 | x::r,hc,j,y,h=>by
   cases j with
   | zero=>simp at h;subst h;exact hc.1
   | succ j=>exact hc.2.get j y (by simpa using h)
theorem jU {n:Nat} {r:RV}:iO n (.rv r)↔True:=⟨fun _=>trivial,fun _=>.rv r⟩
theorem lQ {n i o:Nat}:iO n (.ptr i o)↔i<n:=⟨fun h=>by cases h;assumption,fun h=>.ptr _ _ h⟩
theorem jF {n i v l:Nat}:iO n (.row i v l)↔i<n:=⟨fun h=>by cases h;assumption,fun h=>.row _ _ _ h⟩
theorem jE {n:Nat} {rs:List RV}:mR n (rs.map .rv):=by
 induction rs with
 | nil=>trivial
 | cons r rs ih=>exact ⟨.rv r,ih⟩
def mS (n:Nat):HB→Prop
 | .var cs=>mR n cs
 | .row _ _ xs=>∀ (i:Nat) (x:List SV),xs[i]?=some x→mR n x
theorem iV {n e v:Nat} {xs:List (List RV)}:mS n (.row e v (aN xs)):=fun i x hx=>by
 unfold aN at hx
 rw [List.getElem?_map] at hx
 cases hq:xs[i]? with
 | none=>simp [hq] at hx
 | some z=>simp [hq] at hx;subst hx;exact jE
theorem mS.rn {n:Nat} {h:Hp} {hb:HB} (hc:mS n hb):oU (gD n) h hb hb:=by
 cases hb with
 | var cs=>exact .var _ _ ⟨rfl,fun i x y hx hy=>by rw [hx] at hy;cases hy;exact (mR.get hc i x hx).rn⟩
 | row e v xs=>exact .row _ _ _ _ rfl (fun i x y hx hy=>by
    rw [hx] at hy;cases hy
    exact ⟨rfl,fun j a b ha hb=>by rw [ha] at hb;cases hb;exact (mR.get (hc i x hx) j a ha).rn⟩)
def ij (n:Nat) (env:List (Nat×SV)):List (Nat×SV)→Prop
 | []=>True
 | (m,v)::r=>(v = .dead∨lk env m=v∧iO n v)∧ij n env r
theorem ij.get {n:Nat} {env:List (Nat×SV)}:∀ {env':List (Nat×SV)},ij n env env'→∀ p∈env',p.2 = .dead∨lk env p.1=p.2∧iO n p.2
 | [],_,p,hp=>by simp at hp
 | (m,v)::r,h,p,hp=>by
   rcases List.mem_cons.1 hp with rfl | hp
   ·exact h.1
   ·exact h.2.get p hp
def lz (P:HB→Prop):List (Option HB)→Prop
 | []=>True
 | some hb::r=>P hb∧lz P r
 | none::_=>False
theorem lz.get {P:HB→Prop}:∀ {l:List (Option HB)},lz P l→∀ j,j<l.length→∃ hb,l[j]?=some (some hb)∧P hb
 | [],_,j,hj=>by simp at hj
 | some hb::r,h,j,hj=>by
   cases j with
   | zero=>exact ⟨hb,rfl,h.1⟩
   | succ j=>obtain ⟨x,a,b⟩:=h.2.get j (by simpa using hj);exact ⟨x,by simpa using a,b⟩
 | none::r,h,_,_=>h.elim
theorem lz.of {P:HB→Prop}:∀ {l:List (Option HB)},(∀ (j:Nat) (x:Option HB),l[j]?=some x→∃ hb,x=some hb∧P hb)→lz P l
 | [],_=>trivial
 | x::r,h=>by
   obtain ⟨hb,rfl,hp⟩:=h 0 x rfl
   exact ⟨hp,lz.of fun j y hy=>h (j+1) y (by simpa using hy)⟩
theorem nA {n0:Nat} {env env':List (Nat×SV)} {h' C:List (Option HB)} (hn:n0≤h'.length) (hC:lz (mS h'.length) h') (he:ij h'.length env env'):fX n0 ⟨env,h'++C⟩ ⟨env',h'⟩:=by
 refine AQ (gD h'.length) hn (fun j i hj=>?_) (fun j hj=>?_) (fun j=>?_) (wA (fun x=>.dead x) (fun p hp=>?_))
 ·unfold gD at hj;split at hj <;> cases hj;rfl
 ·unfold gD at hj;split at hj
  ·cases hj
  ·omega
 ·by_cases hj:j<h'.length
  ·obtain ⟨hb,g1,g2⟩:=hC.get j hj
   exact .inl ⟨hb,hb,by simp [gD,hj],pz.2 (by rw [List.getElem?_append_left hj];exact g1),pz.2 g1,g2.rn⟩
  ·refine .inr ⟨?_,.inl (by simp [gD,hj])⟩
   unfold aB
   rw [List.getElem?_eq_none (by omega)]
 ·rcases he.get p hp with h | ⟨h1,h2⟩
  ·rw [h];exact .dead _
  ·rw [h1];exact h2.rn
structure jr (P:Program) (n:Nat) (t:TypeId) (rs:List RV):Prop where
 ty:kQ P n t rs
theorem Jj {P:Program} {f g:TypeId→List RV→Prop} (h:∀ t rs,f t rs→g t rs):∀ {fs:List Field} {rs:List RV},uL P f fs rs→uL P g fs rs
 | [],_,hf=>hf
 | _::_,_,⟨a,b,e,h1,h2⟩=>⟨a,b,e,h _ _ h1,Jj h h2⟩
theorem Ji {P:Program} {n:Nat} {t:TypeId} {k:IntKind} {rs:List RV} (hu:P.underlying t=some (.int k)) (h:jr P (n+1) t rs):∃ i,rs=[.int k i]∧(Lit.int k i).wf=true:=by
 have h:=h.ty;unfold kQ at h;simp only [hu] at h;exact h
theorem VP {P:Program} {n:Nat} {t:TypeId} {rs:List RV} (hu:P.underlying t=some .bool) (h:jr P (n+1) t rs):∃ b,rs=[.bool b]:=by
 have h:=h.ty;unfold kQ at h;simp only [hu] at h;exact h
theorem VQ {P:Program} {n:Nat} {t e:TypeId} {rs:List RV} (hu:P.underlying t=some (.slice e)) (h:jr P (n+1) t rs):∃ xs,rs=[.sl (P.cellsOf e) xs]∧xs.length≤maxLen∧∀ x∈xs,jr P n e x:=by
 have h:=h.ty;unfold kQ at h;simp only [hu] at h
 obtain ⟨xs,h1,h2,h3⟩:=h
 exact ⟨xs,h1,h2,fun x hx=>⟨h3 x hx⟩⟩
theorem zV {P:Program} {n:Nat} {t:TypeId} {fs:Array Field} {rs:List RV} (hu:P.underlying t=some (.struct fs)) (h:jr P (n+1) t rs):uL P (jr P n) fs.toList rs:=by
 have h:=h.ty;unfold kQ at h;simp only [hu] at h
 exact Jj (fun _ _ h=>⟨h⟩) h
theorem Jh {P:Program} {n m:Nat} {t e:TypeId} {rs:List RV} (hu:P.underlying t=some (.array m e)) (h:jr P (n+1) t rs):∃ xs:List (List RV),rs=xs.flatten∧xs.length=m∧∀ x∈xs,jr P n e x:=by
 have h:=h.ty;unfold kQ at h;simp only [hu] at h
 obtain ⟨xs,h1,h2,h3⟩:=h
 exact ⟨xs,h1,h2,fun x hx=>⟨h3 x hx⟩⟩
theorem wI {P:Program} {H:Type} {enc:TypeId×Value→H} {w:World} {r:Reach} {b0 n:Nat} {t:TypeId} {v:Value} {d:DataW H} {ps:List MemPlace} (hf:og P n t=true) (hval:Value.okWide P w r b0 t v) (hd:DataW.Trod enc P w 0 (fun _=>true) true t v d ps) :
 ∃ rs,jr P n t rs∧∀ (ok:Nat→Prop) (aa:Nat→Option Nat) (hp:Hp),(∀ b,b<w.heap.size→ok b)→Rp w ok aa hp (nu P t rs) v:=by
 obtain ⟨rs,h1,h2⟩:=SQ hf hval hd ⟨w,fun _=>True,fun _=>True,0,fun _=>.none,fun _=>.none⟩ (fun _=>.none)
 exact ⟨rs,⟨h1⟩,h2⟩
theorem xz {P:Program} {t:TypeId} {r:RV} (h:fC P t=some false):nu P t [r] = .rv r:=by
 unfold nu;rw [h];rfl
theorem KE {P:Program} {t:TypeId} {rs:List RV} (h:fC P t=some true):nu P t rs = .agg (rs.map .rv):=by
 unfold nu;rw [h]
theorem Tj {hp:Hp} {a:Nat} {hb:HB} (h:hp a=some hb):aY hp [(a,hb)]:=fun q hq=>by simp at hq;subst hq;exact h
end Go.aL

namespace Go.aL
open Go
attribute [go_sem] Ms MC My Mz MB Mn Mq Mo MA Mr MS MP MT MQ MO MR Mt Mp Mu Mx Mv Mw Ar yZ Cx sW As za Cy sY bY o1 o2 nh iz rC xH xw xJ xK fits oh oF oE zd zc ym oG wz nk qC xQ xy xD xF xE Am tC ry qw xx wD lf yU kX zb qn vj yg zn zl yb zg zi zh yl qU vY vZ uf sk yj yh uZ xR zJ rq oB uJ wP mw nw wk nK lk iD iC gf wT aX mh je nP Dg List.map_cons List.map_nil List.length_cons List.length_nil List.length_append List.length_map List.length_set List.set_cons_zero List.set_cons_succ List.cons_append List.nil_append List.append_nil List.getElem?_cons_zero List.getElem?_cons_succ List.getElem?_nil List.take_succ_cons List.take_zero List.drop_succ_cons List.drop_zero List.drop_nil List.take_nil Option.getD_some Option.getD_none Option.map_some Option.map_none true_and and_true Nat.zero_add Nat.add_zero decide_eq_true_eq Bool.false_eq_true au TJ CN TK Ik Int.toNat_natCast KQ KP KO KN Bool.not_true Bool.not_false VD rz qF chunks Lc Lb MG MF ME MD ML MK MJ MI MH MM Te Td
attribute [go_sem_proc] Nat.reduceEqDiff Nat.reduceAdd Nat.reduceSub Nat.reduceMul Nat.reduceLeDiff Nat.reduceLT reduceCtorEq Int.reduceToNat
attribute [go_sem_proc ↓] reduceIte
theorem RU (n:Nat):Int.ofNat (no_index (OfNat.ofNat n))=OfNat.ofNat n:=rfl
attribute [go_sem] RU
theorem jM:IntKind.i64.wrap (0+1)=1:=by decide
theorem jN:IntKind.i64.wrap (1+1)=2:=by decide
theorem jO:IntKind.i64.wrap (2+1)=3:=by decide
theorem jP:IntKind.i64.wrap (3+1)=4:=by decide
theorem jQ:IntKind.i64.wrap (4+1)=5:=by decide
theorem jR:IntKind.i64.wrap (5+1)=6:=by decide
theorem jD (n:Nat):((no_index (OfNat.ofNat n):Nat):Int)=OfNat.ofNat n:=rfl
def fc (P:Program) (f:FuncId) (N:Nat) (rs:List RR):AC:=(yu P f N rs).getD .skip
theorem bl {P:Program} {f:FuncId} {N:Nat} {rs:List RR} (h:(yu P f N rs).isSome=true):aU P f N (fc P f N rs) rs:=by
 obtain ⟨c,hc⟩:=Option.isSome_iff_exists.1 h
 unfold fc;rw [hc];exact AY hc
end Go.aL

namespace Go.aL
open Go
structure Ln where
 kind:Int
 n:Int
 deriving DecidableEq,Inhabited
structure Q4 (α:Type) where
 a:α
 b:α
 c:α
 d:α
 deriving DecidableEq,Inhabited
structure aC where
 shown:Bool
 position:Int
 off:Q4 Ln
 width:Ln
 height:Ln
 jv:Ln
 ju:Ln
 kg:Ln
 kf:Ln
 bF:Q4 Ln
 pad:Q4 Ln
 bD:Q4 Int
 bT:Bool
 yB:Bool
 z:Int
 clip:Bool
 back:Int
 line:Int
 deriving DecidableEq,Inhabited
structure Nd where
 s:aC
 parent:Int
 deriving DecidableEq,Inhabited
def Ln.cells (x:Ln):List RV:=[.int .i64 x.kind,.int .i64 x.n]
def Q4.pO (q:Q4 Ln):List RV:=[.int .i64 q.a.kind,.int .i64 q.a.n,.int .i64 q.b.kind,.int .i64 q.b.n,.int .i64 q.c.kind,.int .i64 q.c.n,.int .i64 q.d.kind,.int .i64 q.d.n]
def Q4.ints (q:Q4 Int):List RV:=[.int .i64 q.a,.int .i64 q.b,.int .i64 q.c,.int .i64 q.d]
def aC.cells (s:aC):List RV:=[.bool s.shown,.int .i64 s.position,
 .int .i64 s.off.a.kind,.int .i64 s.off.a.n,.int .i64 s.off.b.kind,.int .i64 s.off.b.n,.int .i64 s.off.c.kind,.int .i64 s.off.c.n,.int .i64 s.off.d.kind,.int .i64 s.off.d.n,
 .int .i64 s.width.kind,.int .i64 s.width.n,.int .i64 s.height.kind,.int .i64 s.height.n,.int .i64 s.jv.kind,.int .i64 s.jv.n,.int .i64 s.ju.kind,.int .i64 s.ju.n,.int .i64 s.kg.kind,.int .i64 s.kg.n,.int .i64 s.kf.kind,.int .i64 s.kf.n,
 .int .i64 s.bF.a.kind,.int .i64 s.bF.a.n,.int .i64 s.bF.b.kind,.int .i64 s.bF.b.n,.int .i64 s.bF.c.kind,.int .i64 s.bF.c.n,.int .i64 s.bF.d.kind,.int .i64 s.bF.d.n,
 .int .i64 s.pad.a.kind,.int .i64 s.pad.a.n,.int .i64 s.pad.b.kind,.int .i64 s.pad.b.n,.int .i64 s.pad.c.kind,.int .i64 s.pad.c.n,.int .i64 s.pad.d.kind,.int .i64 s.pad.d.n,
 .int .i64 s.bD.a,.int .i64 s.bD.b,.int .i64 s.bD.c,.int .i64 s.bD.d,
 .bool s.bT,.bool s.yB,.int .i64 s.z,.bool s.clip,.int .i64 s.back,.int .i64 s.line]
abbrev aC.sv (s:aC):SV:=.agg (s.cells.map .rv)
abbrev Ln.sv (x:Ln):SV:=.agg (x.cells.map .rv)
def Nd.cells (x:Nd):List RV:=x.s.cells++[.int .i64 x.parent]
abbrev Nd.sv (x:Nd):SV:=.agg (x.cells.map .rv)
def bw (l:List Nd):List (List RV):=l.map Nd.cells
def nM {α:Type} (q:Q4 α):Nat→α
 | 0=>q.a
 | 1=>q.b
 | 2=>q.c
 | _=>q.d
def Q4.list {α:Type} (q:Q4 α):List α:=[q.a,q.b,q.c,q.d]
def fQ (s:aC):List Ln:=s.off.list++[s.width,s.height,s.jv,s.ju,s.kg,s.kf]++s.bF.list++s.pad.list
theorem aq (s:aC):(fQ s).length=18:=rfl
def lW (l:List Ln):List (List RV):=l.map Ln.cells
def oH (x:Ln):Bool:=(decide (x.kind=0) && decide (x.n=0)) || decide (x.kind=1) || decide (x.kind=2)
def lX (p:Ln) (b:Int):Bool:=!(decide (p.kind=0) || decide (p.n<0) || decide (b<0))
def tf (s:aC):Bool:=decide (s.position≥0) && decide (s.position≤3) && decide (s.back≥0) && decide (s.line≥0) && (s.yB || decide (s.z=0))
def jq (s:aC):Bool:=(fQ s).all oH && ([s.width,s.height,s.jv,s.ju,s.kg,s.kf].all fun x=>decide (0≤x.n)) &&
 (lX s.pad.a s.bD.a && lX s.pad.b s.bD.b && lX s.pad.c s.bD.c && lX s.pad.d s.bD.d) && tf s
def qR (n most:Int):Bool:=decide (-most≤n) && decide (n≤most)
def pN (x:Ln):Bool:=!((decide (x.kind=1) && !qR x.n 1099511627776) || (decide (x.kind=2) && !qR x.n 1000000))
def lq (s:aC):Bool:=(fQ s).all pN && (s.bD.list.all fun n=>decide (n≤1099511627776)) && (qR s.z 1073741824 && decide (s.back≤16777216) && decide (s.line≤16777216))
theorem ah (s:aC):s.cells.length=48:=rfl
theorem ak (x:Nd):x.cells.length=49:=rfl
theorem an (l:List Nd):(bw l).length=l.length:=by simp [bw]
theorem iS {l:List Nd} {i:Nat} (h:i<l.length):(bw l)[i]?.getD []=(l[i]'h).cells:=by simp [bw,h]
theorem av (l:List Ln):(lW l).length=l.length:=by simp [lW]
theorem Ck {l:List Ln} {i:Nat} (h:i<l.length):(lW l)[i]?.getD []=(l[i]'h).cells:=by simp [lW,h]
theorem cD (s:aC):(s.cells.map SV.rv)[0]?=some (.rv (.bool s.shown)):=rfl
theorem dY (s:aC):(s.cells.drop 0)[0]?=some (.bool s.shown):=rfl
theorem cE (s:aC):(s.cells.map SV.rv)[1]?=some (.rv (.int .i64 s.position)):=rfl
theorem dZ (s:aC):(s.cells.drop 1)[0]?=some (.int .i64 s.position):=rfl
theorem cP (s:aC):(s.cells.map SV.rv)[2]?=some (.rv (.int .i64 s.off.a.kind)):=rfl
theorem eA (s:aC):(s.cells.drop 2)[0]?=some (.int .i64 s.off.a.kind):=rfl
theorem dc (s:aC):(s.cells.map SV.rv)[3]?=some (.rv (.int .i64 s.off.a.n)):=rfl
theorem eM (s:aC):(s.cells.drop 3)[0]?=some (.int .i64 s.off.a.n):=rfl
theorem dy (s:aC):(s.cells.map SV.rv)[4]?=some (.rv (.int .i64 s.off.b.kind)):=rfl
theorem eY (s:aC):(s.cells.drop 4)[0]?=some (.int .i64 s.off.b.kind):=rfl
theorem dI (s:aC):(s.cells.map SV.rv)[5]?=some (.rv (.int .i64 s.off.b.n)):=rfl
theorem fq (s:aC):(s.cells.drop 5)[0]?=some (.int .i64 s.off.b.n):=rfl
theorem dJ (s:aC):(s.cells.map SV.rv)[6]?=some (.rv (.int .i64 s.off.c.kind)):=rfl
theorem fu (s:aC):(s.cells.drop 6)[0]?=some (.int .i64 s.off.c.kind):=rfl
theorem dK (s:aC):(s.cells.map SV.rv)[7]?=some (.rv (.int .i64 s.off.c.n)):=rfl
theorem fy (s:aC):(s.cells.drop 7)[0]?=some (.int .i64 s.off.c.n):=rfl
theorem dL (s:aC):(s.cells.map SV.rv)[8]?=some (.rv (.int .i64 s.off.d.kind)):=rfl
theorem fA (s:aC):(s.cells.drop 8)[0]?=some (.int .i64 s.off.d.kind):=rfl
theorem dM (s:aC):(s.cells.map SV.rv)[9]?=some (.rv (.int .i64 s.off.d.n)):=rfl
theorem fB (s:aC):(s.cells.drop 9)[0]?=some (.int .i64 s.off.d.n):=rfl
theorem cF (s:aC):(s.cells.map SV.rv)[10]?=some (.rv (.int .i64 s.width.kind)):=rfl
theorem ec (s:aC):(s.cells.drop 10)[0]?=some (.int .i64 s.width.kind):=rfl
theorem cG (s:aC):(s.cells.map SV.rv)[11]?=some (.rv (.int .i64 s.width.n)):=rfl
theorem ee (s:aC):(s.cells.drop 11)[0]?=some (.int .i64 s.width.n):=rfl
theorem cH (s:aC):(s.cells.map SV.rv)[12]?=some (.rv (.int .i64 s.height.kind)):=rfl
theorem eg (s:aC):(s.cells.drop 12)[0]?=some (.int .i64 s.height.kind):=rfl
theorem cI (s:aC):(s.cells.map SV.rv)[13]?=some (.rv (.int .i64 s.height.n)):=rfl
theorem ek (s:aC):(s.cells.drop 13)[0]?=some (.int .i64 s.height.n):=rfl
theorem cJ (s:aC):(s.cells.map SV.rv)[14]?=some (.rv (.int .i64 s.jv.kind)):=rfl
theorem ep (s:aC):(s.cells.drop 14)[0]?=some (.int .i64 s.jv.kind):=rfl
theorem cK (s:aC):(s.cells.map SV.rv)[15]?=some (.rv (.int .i64 s.jv.n)):=rfl
theorem er (s:aC):(s.cells.drop 15)[0]?=some (.int .i64 s.jv.n):=rfl
theorem cL (s:aC):(s.cells.map SV.rv)[16]?=some (.rv (.int .i64 s.ju.kind)):=rfl
theorem eu (s:aC):(s.cells.drop 16)[0]?=some (.int .i64 s.ju.kind):=rfl
theorem cM (s:aC):(s.cells.map SV.rv)[17]?=some (.rv (.int .i64 s.ju.n)):=rfl
theorem ew (s:aC):(s.cells.drop 17)[0]?=some (.int .i64 s.ju.n):=rfl
theorem cN (s:aC):(s.cells.map SV.rv)[18]?=some (.rv (.int .i64 s.kg.kind)):=rfl
theorem ey (s:aC):(s.cells.drop 18)[0]?=some (.int .i64 s.kg.kind):=rfl
theorem cO (s:aC):(s.cells.map SV.rv)[19]?=some (.rv (.int .i64 s.kg.n)):=rfl
theorem ez (s:aC):(s.cells.drop 19)[0]?=some (.int .i64 s.kg.n):=rfl
theorem cQ (s:aC):(s.cells.map SV.rv)[20]?=some (.rv (.int .i64 s.kf.kind)):=rfl
theorem eC (s:aC):(s.cells.drop 20)[0]?=some (.int .i64 s.kf.kind):=rfl
theorem cR (s:aC):(s.cells.map SV.rv)[21]?=some (.rv (.int .i64 s.kf.n)):=rfl
theorem eD (s:aC):(s.cells.drop 21)[0]?=some (.int .i64 s.kf.n):=rfl
theorem cS (s:aC):(s.cells.map SV.rv)[22]?=some (.rv (.int .i64 s.bF.a.kind)):=rfl
theorem eE (s:aC):(s.cells.drop 22)[0]?=some (.int .i64 s.bF.a.kind):=rfl
theorem cT (s:aC):(s.cells.map SV.rv)[23]?=some (.rv (.int .i64 s.bF.a.n)):=rfl
theorem eF (s:aC):(s.cells.drop 23)[0]?=some (.int .i64 s.bF.a.n):=rfl
theorem cU (s:aC):(s.cells.map SV.rv)[24]?=some (.rv (.int .i64 s.bF.b.kind)):=rfl
theorem eG (s:aC):(s.cells.drop 24)[0]?=some (.int .i64 s.bF.b.kind):=rfl
theorem cV (s:aC):(s.cells.map SV.rv)[25]?=some (.rv (.int .i64 s.bF.b.n)):=rfl
theorem eH (s:aC):(s.cells.drop 25)[0]?=some (.int .i64 s.bF.b.n):=rfl
theorem cW (s:aC):(s.cells.map SV.rv)[26]?=some (.rv (.int .i64 s.bF.c.kind)):=rfl
theorem eI (s:aC):(s.cells.drop 26)[0]?=some (.int .i64 s.bF.c.kind):=rfl
theorem cX (s:aC):(s.cells.map SV.rv)[27]?=some (.rv (.int .i64 s.bF.c.n)):=rfl
theorem eJ (s:aC):(s.cells.drop 27)[0]?=some (.int .i64 s.bF.c.n):=rfl
theorem cY (s:aC):(s.cells.map SV.rv)[28]?=some (.rv (.int .i64 s.bF.d.kind)):=rfl
theorem eK (s:aC):(s.cells.drop 28)[0]?=some (.int .i64 s.bF.d.kind):=rfl
theorem cZ (s:aC):(s.cells.map SV.rv)[29]?=some (.rv (.int .i64 s.bF.d.n)):=rfl
theorem eL (s:aC):(s.cells.drop 29)[0]?=some (.int .i64 s.bF.d.n):=rfl
theorem de (s:aC):(s.cells.map SV.rv)[30]?=some (.rv (.int .i64 s.pad.a.kind)):=rfl
theorem eN (s:aC):(s.cells.drop 30)[0]?=some (.int .i64 s.pad.a.kind):=rfl
theorem dg (s:aC):(s.cells.map SV.rv)[31]?=some (.rv (.int .i64 s.pad.a.n)):=rfl
theorem eO (s:aC):(s.cells.drop 31)[0]?=some (.int .i64 s.pad.a.n):=rfl
theorem dh (s:aC):(s.cells.map SV.rv)[32]?=some (.rv (.int .i64 s.pad.b.kind)):=rfl
theorem eP (s:aC):(s.cells.drop 32)[0]?=some (.int .i64 s.pad.b.kind):=rfl
theorem di (s:aC):(s.cells.map SV.rv)[33]?=some (.rv (.int .i64 s.pad.b.n)):=rfl
theorem eR (s:aC):(s.cells.drop 33)[0]?=some (.int .i64 s.pad.b.n):=rfl
theorem dj (s:aC):(s.cells.map SV.rv)[34]?=some (.rv (.int .i64 s.pad.c.kind)):=rfl
theorem eS (s:aC):(s.cells.drop 34)[0]?=some (.int .i64 s.pad.c.kind):=rfl
theorem dm (s:aC):(s.cells.map SV.rv)[35]?=some (.rv (.int .i64 s.pad.c.n)):=rfl
theorem eT (s:aC):(s.cells.drop 35)[0]?=some (.int .i64 s.pad.c.n):=rfl
theorem dn (s:aC):(s.cells.map SV.rv)[36]?=some (.rv (.int .i64 s.pad.d.kind)):=rfl
theorem eU (s:aC):(s.cells.drop 36)[0]?=some (.int .i64 s.pad.d.kind):=rfl
theorem dr (s:aC):(s.cells.map SV.rv)[37]?=some (.rv (.int .i64 s.pad.d.n)):=rfl
theorem eV (s:aC):(s.cells.drop 37)[0]?=some (.int .i64 s.pad.d.n):=rfl
theorem dw (s:aC):(s.cells.map SV.rv)[38]?=some (.rv (.int .i64 s.bD.a)):=rfl
theorem eW (s:aC):(s.cells.drop 38)[0]?=some (.int .i64 s.bD.a):=rfl
theorem dx (s:aC):(s.cells.map SV.rv)[39]?=some (.rv (.int .i64 s.bD.b)):=rfl
theorem eX (s:aC):(s.cells.drop 39)[0]?=some (.int .i64 s.bD.b):=rfl
theorem dz (s:aC):(s.cells.map SV.rv)[40]?=some (.rv (.int .i64 s.bD.c)):=rfl
theorem eZ (s:aC):(s.cells.drop 40)[0]?=some (.int .i64 s.bD.c):=rfl
theorem dA (s:aC):(s.cells.map SV.rv)[41]?=some (.rv (.int .i64 s.bD.d)):=rfl
theorem fe (s:aC):(s.cells.drop 41)[0]?=some (.int .i64 s.bD.d):=rfl
theorem cB (s:aC):(s.cells.map SV.rv)[42]?=some (.rv (.bool s.bT)):=rfl
theorem ff (s:aC):(s.cells.drop 42)[0]?=some (.bool s.bT):=rfl
theorem dB (s:aC):(s.cells.map SV.rv)[43]?=some (.rv (.bool s.yB)):=rfl
theorem fh (s:aC):(s.cells.drop 43)[0]?=some (.bool s.yB):=rfl
theorem dD (s:aC):(s.cells.map SV.rv)[44]?=some (.rv (.int .i64 s.z)):=rfl
theorem fj (s:aC):(s.cells.drop 44)[0]?=some (.int .i64 s.z):=rfl
theorem dF (s:aC):(s.cells.map SV.rv)[45]?=some (.rv (.bool s.clip)):=rfl
theorem fk (s:aC):(s.cells.drop 45)[0]?=some (.bool s.clip):=rfl
theorem dG (s:aC):(s.cells.map SV.rv)[46]?=some (.rv (.int .i64 s.back)):=rfl
theorem fm (s:aC):(s.cells.drop 46)[0]?=some (.int .i64 s.back):=rfl
theorem dH (s:aC):(s.cells.map SV.rv)[47]?=some (.rv (.int .i64 s.line)):=rfl
theorem fo (s:aC):(s.cells.drop 47)[0]?=some (.int .i64 s.line):=rfl
theorem dN (s:aC):((s.cells.map SV.rv).drop 10).take 2=s.width.cells.map SV.rv:=rfl
theorem dO (s:aC):((s.cells.map SV.rv).drop 12).take 2=s.height.cells.map SV.rv:=rfl
theorem dP (s:aC):((s.cells.map SV.rv).drop 14).take 2=s.jv.cells.map SV.rv:=rfl
theorem dQ (s:aC):((s.cells.map SV.rv).drop 16).take 2=s.ju.cells.map SV.rv:=rfl
theorem dR (s:aC):((s.cells.map SV.rv).drop 18).take 2=s.kg.cells.map SV.rv:=rfl
theorem dU (s:aC):((s.cells.map SV.rv).drop 20).take 2=s.kf.cells.map SV.rv:=rfl
theorem dS (s:aC):((s.cells.map SV.rv).drop 2).take 8=s.off.pO.map SV.rv:=rfl
theorem dV (s:aC):((s.cells.map SV.rv).drop 22).take 8=s.bF.pO.map SV.rv:=rfl
theorem dW (s:aC):((s.cells.map SV.rv).drop 30).take 8=s.pad.pO.map SV.rv:=rfl
theorem dX (s:aC):((s.cells.map SV.rv).drop 38).take 4=s.bD.ints.map SV.rv:=rfl
theorem cA (s:aC):(s.cells.map SV.rv).take 48=s.cells.map SV.rv:=rfl
theorem cC (s:aC):((s.cells.map SV.rv).drop 0).take 48=s.cells.map SV.rv:=rfl
theorem oX {α:Type} {p:α→Bool} {l:List α} {k:Nat} (h:k<l.length) (hk:(l.drop k).all p=l.all p) (hp:p (l[k]'h)=true):(l.drop (k+1)).all p=l.all p:=by
 rw [← hk,List.drop_eq_getElem_cons h,List.all_cons,hp,Bool.true_and]
theorem oW {α:Type} {p:α→Bool} {l:List α} {k:Nat} (h:k<l.length) (hk:(l.drop k).all p=l.all p) (hp:p (l[k]'h)=false):l.all p=false:=by
 rw [← hk,List.drop_eq_getElem_cons h,List.all_cons,hp,Bool.false_and]
theorem oV {α:Type} {p:α→Bool} {l:List α} {k:Nat} (h:l.length≤k) (hk:(l.drop k).all p=l.all p):l.all p=true:=by
 rw [← hk,List.drop_of_length_le h];rfl
theorem GZ (x:Nd):x.cells.take 48=x.s.cells:=rfl
theorem um (x:Nd):(x.cells.map SV.rv)[48]?=some (.rv (.int .i64 x.parent)):=rfl
theorem qp (x:Nd):x.cells.take 49=x.cells:=rfl
theorem VK (s:aC):∀ r∈s.cells,r.one=true:=by
 intro r hr
 simp -implicitDefEqProofs only [aC.cells,List.mem_cons,List.not_mem_nil,or_false] at hr
 repeat' rcases hr with rfl | hr
 all_goals first | rfl | (subst hr;rfl)
theorem Sw (x:Nd):∀ r∈x.cells,r.one=true:=by
 intro r hr
 rcases List.mem_append.1 hr with hr | hr
 ·exact VK _ r hr
 ·simp at hr;rw [hr];rfl
theorem zk (l:List Nd):∀ x∈bw l,∀ r∈x,r.one=true:=by
 intro x hx
 obtain ⟨n,_,rfl⟩:=List.mem_map.1 hx
 exact Sw n
def aM (ys:List Int):List (List RV):=ys.map fun n=>[.int .i64 n]
theorem aj (l:List Int):(aM l).length=l.length:=by simp [aM]
theorem oC {l:List Int} {i:Nat} (h:i<l.length):(aM l)[i]?.getD []=[.int .i64 (l[i]'h)]:=by simp [aM,h]
theorem kN (l:List Int):∀ x∈aM l,∀ r∈x,r.one=true:=by
 intro x hx r hr
 obtain ⟨n,_,rfl⟩:=List.mem_map.1 hx
 simp at hr;rw [hr];rfl
theorem kZ {l:List Int} {i:Nat} (h:i<l.length):(aM l)[i]?.getD []=[.int .i64 (l.getD i 0)]:=by simp [aM,h]
theorem ni {ys:List Int} {k:Nat} {v:Int}:(aN (aM ys)).set k [.rv (.int .i64 v)]=aN (aM (ys.set k v)):=by simp [aN,aM,List.map_set]
theorem zH {n:Nat}:List.replicate n [SV.rv (.int .i64 0)]=aN (aM (List.replicate n 0)):=by simp [aN,aM]
theorem mL {ys:List Int} {v:Int}:aN (aM ys)++[[.rv (.int .i64 v)]]=aN (aM (ys++[v])):=by simp [aN,aM]
theorem cz {k:Nat} (h:k<4611686018427387904):IntKind.i64.wrap ((k:Int)+1)=((k+1:Nat):Int):=by
 rw [wrap_i64 (by omega) (by omega)];omega
theorem uO {k:Nat} (h:0<k) (h2:k<4611686018427387904):IntKind.i64.wrap ((k:Int) - 1)=((k - 1:Nat):Int):=by
 rw [wrap_i64 (by omega) (by omega)];omega
end Go.aL

namespace Go.aL
open Go Go.Proofs
theorem zW {n:Nat} {rs:List RV} (h:jr Go.Proofs.Tryz.prog (n+1) 3 rs):∃ i,rs=[.int .i64 i]:=by
 obtain ⟨i,h,_⟩:=Ji Tryz.underlying3 h
 exact ⟨i,h⟩
theorem pS {n:Nat} {rs:List RV} (h:jr Go.Proofs.Tryz.prog (n+1) 2 rs):∃ i,rs=[.int .i64 i]:=by
 obtain ⟨i,h,_⟩:=Ji Tryz.underlying2 h
 exact ⟨i,h⟩
theorem uK {n:Nat} {rs:List RV} (h:jr Go.Proofs.Tryz.prog (n+1) 4 rs):∃ b,rs=[.bool b]:=by
 exact VP Tryz.underlying4 h
theorem pT {n:Nat} {rs:List RV} (h:jr Go.Proofs.Tryz.prog (n+2) 67 rs):∃ x:Ln,rs=x.cells:=by
 have h:=zV Tryz.underlying67 h
 obtain ⟨_,_,rfl,h1,_,_,rfl,h2,rfl⟩:=h
 obtain ⟨i,rfl⟩:=zW h1
 obtain ⟨j,rfl⟩:=pS h2
 exact ⟨⟨i,j⟩,rfl⟩
theorem GD {α:Type} {xs:List α} (h:xs.length=4):∃ a b c d,xs=[a,b,c,d]:=by
 match xs,h with
 | [a,b,c,d],_=>exact ⟨a,b,c,d,rfl⟩
theorem Df {n:Nat} {rs:List RV} (h:jr Go.Proofs.Tryz.prog (n+3) 68 rs):∃ q:Q4 Ln,rs=q.pO:=by
 obtain ⟨xs,rfl,hl,hx⟩:=Jh Tryz.underlying68 h
 obtain ⟨a,b,c,d,rfl⟩:=GD hl
 obtain ⟨a,rfl⟩:=pT (hx a (by simp))
 obtain ⟨b,rfl⟩:=pT (hx b (by simp))
 obtain ⟨c,rfl⟩:=pT (hx c (by simp))
 obtain ⟨d,rfl⟩:=pT (hx d (by simp))
 exact ⟨⟨a,b,c,d⟩,rfl⟩
theorem VO {n:Nat} {rs:List RV} (h:jr Go.Proofs.Tryz.prog (n+2) 31 rs):∃ q:Q4 Int,rs=q.ints:=by
 obtain ⟨xs,rfl,hl,hx⟩:=Jh Tryz.underlying31 h
 obtain ⟨a,b,c,d,rfl⟩:=GD hl
 obtain ⟨a,rfl⟩:=pS (hx a (by simp))
 obtain ⟨b,rfl⟩:=pS (hx b (by simp))
 obtain ⟨c,rfl⟩:=pS (hx c (by simp))
 obtain ⟨d,rfl⟩:=pS (hx d (by simp))
 exact ⟨⟨a,b,c,d⟩,rfl⟩
theorem VS {n:Nat} {rs:List RV} (h:jr Go.Proofs.Tryz.prog (n+4) 70 rs):∃ s:aC,rs=s.cells:=by
 have h:=zV Tryz.underlying70 h
 obtain ⟨_,_,rfl,h1,_,_,rfl,h2,_,_,rfl,h3,_,_,rfl,h4,_,_,rfl,h5,_,_,rfl,h6,_,_,rfl,h7,_,_,rfl,h8,_,_,rfl,h9,_,_,rfl,MY,_,_,rfl,MZ,_,_,rfl,h12,_,_,rfl,Na,_,_,rfl,Nb,_,_,rfl,Nc,_,_,rfl,Nf,_,_,rfl,Ng,_,_,rfl,Nh,rfl⟩:=h
 obtain ⟨b1,rfl⟩:=uK h1
 obtain ⟨i2,rfl⟩:=zW h2
 obtain ⟨q3,rfl⟩:=Df h3
 obtain ⟨x4,rfl⟩:=pT h4
 obtain ⟨x5,rfl⟩:=pT h5
 obtain ⟨x6,rfl⟩:=pT h6
 obtain ⟨x7,rfl⟩:=pT h7
 obtain ⟨x8,rfl⟩:=pT h8
 obtain ⟨x9,rfl⟩:=pT h9
 obtain ⟨Tl,rfl⟩:=Df MY
 obtain ⟨Tm,rfl⟩:=Df MZ
 obtain ⟨Tn,rfl⟩:=VO h12
 obtain ⟨KH,rfl⟩:=uK Na
 obtain ⟨KI,rfl⟩:=uK Nb
 obtain ⟨i15,rfl⟩:=pS Nc
 obtain ⟨KJ,rfl⟩:=uK Nf
 obtain ⟨i17,rfl⟩:=pS Ng
 obtain ⟨i18,rfl⟩:=pS Nh
 exact ⟨⟨b1,i2,q3,x4,x5,x6,x7,x8,x9,Tl,Tm,Tn,KH,KI,i15,KJ,i17,i18⟩,rfl⟩
theorem VR {n:Nat} {rs:List RV} (h:jr Go.Proofs.Tryz.prog (n+5) 72 rs):∃ x:Nd,rs=x.cells:=by
 have h:=zV Tryz.underlying72 h
 obtain ⟨_,_,rfl,h1,_,_,rfl,h2,rfl⟩:=h
 obtain ⟨s,rfl⟩:=VS h1
 obtain ⟨i,rfl⟩:=zW h2
 exact ⟨⟨s,i⟩,rfl⟩
theorem GF {α:Type} {f:α→List RV}:∀ {xs:List (List RV)},(∀ x∈xs,∃ a,x=f a)→∃ l:List α,xs=l.map f
 | [],_=>⟨[],rfl⟩
 | x::xs,h=>by
   obtain ⟨a,rfl⟩:=h x (by simp)
   obtain ⟨l,rfl⟩:=GF (xs:=xs) fun y hy=>h y (by simp [hy])
   exact ⟨a::l,rfl⟩
theorem Le:Program.cellsOf Go.Proofs.Tryz.prog 72=49:=by kernel_rfl
theorem Kt:fC Go.Proofs.Tryz.prog 22=some false:=by kernel_rfl
theorem Kr:fC Go.Proofs.Tryz.prog 3=some false:=by kernel_rfl
theorem SO {rs:List RV} (h:jr Go.Proofs.Tryz.prog 6 22 rs):∃ l:List Nd,nu Go.Proofs.Tryz.prog 22 rs = .rv (.sl 49 (bw l)):=by
 obtain ⟨xs,rfl,_,hx⟩:=VQ Tryz.underlying22 h
 obtain ⟨l,rfl⟩:=GF fun x hx'=>VR (hx x hx')
 refine ⟨l,?_⟩
 rw [xz Kt,Le];rfl
theorem SM {rs:List RV} (h:jr Go.Proofs.Tryz.prog 1 3 rs):∃ i:Int,nu Go.Proofs.Tryz.prog 3 rs = .rv (.int .i64 i):=by
 obtain ⟨i,rfl⟩:=zW h
 exact ⟨i,xz Kr⟩
end Go.aL

namespace Go.aL
open Go
def bE (l:List Nd) (n:Nat):Int:=(l.getD n default).parent
theorem lZ {l:List Nd} {n:Nat} (h:n<l.length):(l[n]'h).parent=bE l n:=by simp [bE,h]
def WF (l:List Nd) (k:Nat):Prop:=bE l 0 = -1∧∀ j,0<j→j<k→0≤bE l j∧bE l j<j
theorem WF.mono {l:List Nd} {k m:Nat} (h:WF l k) (hm:m≤k):WF l m:=⟨h.1,fun j a b=>h.2 j a (by omega)⟩
def bz (l:List Nd) (n:Nat):List Nat:=if h:0≤bE l n∧bE l n<n then n::bz l (bE l n).toNat else [n]
termination_by n
decreasing_by omega
theorem rj {l:List Nd} {n:Nat} (h:0≤bE l n∧bE l n<n):bz l n=n::bz l (bE l n).toNat:=by
 rw [bz,dif_pos h]
theorem ux {l:List Nd} {n:Nat} (h:¬ (0≤bE l n∧bE l n<n)):bz l n=[n]:=by
 rw [bz,dif_neg h]
theorem CA {l:List Nd}:bz l 0=[0]:=ux (by omega)
theorem HQ {l:List Nd} {n:Nat}:∃ r,bz l n=n::r:=by
 by_cases h:0≤bE l n∧bE l n<n
 ·exact ⟨_,rj h⟩
 ·exact ⟨_,ux h⟩
theorem uw {l:List Nd}:∀ n,(bz l n).length≤n+1:=by
 intro n
 induction n using Nat.strongRecOn with
 | _ n ih=>
   by_cases h:0≤bE l n∧bE l n<n
   ·rw [rj h];have:=ih (bE l n).toNat (by omega);simp;omega
   ·rw [ux h];simp
theorem uv {l:List Nd}:∀ n x,x∈bz l n→x≤n:=by
 intro n
 induction n using Nat.strongRecOn with
 | _ n ih=>
   intro x hx
   by_cases h:0≤bE l n∧bE l n<n
   ·rw [rj h] at hx
    rcases List.mem_cons.1 hx with rfl | hx
    ·omega
    ·have:=ih (bE l n).toNat (by omega) x hx;omega
   ·rw [ux h] at hx;simp at hx;omega
def kK (p:List Nat) (i:Nat):Int:=match p[i]? with
 | some x=>x
 | none=>-1
theorem uT {p:List Nat} {i:Nat} (h:i<p.length):kK p i=((p[i]'h:Nat):Int):=by simp [kK,h]
theorem KG {p:List Nat} {i:Nat} (h:p.length≤i):kK p i = -1:=by
 unfold kK;rw [List.getElem?_eq_none h]
theorem qD {p:List Nat} {i:Nat}:0≤kK p i↔i<p.length:=by
 by_cases h:i<p.length
 ·rw [uT h];simp [h]
 ·rw [KG (by omega)];simp;omega
theorem uU {l:List Nd} {n:Nat}:kK (bz l n) 0=n:=by
 obtain ⟨r,h⟩:=HQ (l:=l) (n:=n)
 simp [kK,h]
theorem zu {l:List Nd} {k:Nat} (hw:WF l k):∀ n,n<k→∀ i,(h:i<(bz l n).length)→bE l ((bz l n)[i]'h)=kK (bz l n) (i+1):=by
 intro n
 induction n using Nat.strongRecOn with
 | _ n ih=>
   intro hn i hi
   by_cases h:0≤bE l n∧bE l n<n
   ·have hp:=rj h
    cases i with
    | zero=>
      simp -implicitDefEqProofs only [hp,List.getElem_cons_zero]
      rw [show kK (n::bz l (bE l n).toNat) (0+1)=kK (bz l (bE l n).toNat) 0 from by simp [kK],uU]
      omega
    | succ i=>
      simp -implicitDefEqProofs only [hp,List.length_cons] at hi
      have:=ih (bE l n).toNat (by omega) (by omega) i (by omega)
      simp -implicitDefEqProofs only [hp,List.getElem_cons_succ]
      rw [show kK (n::bz l (bE l n).toNat) (i+1+1)=kK (bz l (bE l n).toNat) (i+1) from by simp [kK]]
      exact this
   ·have hp:=ux h
    have h0:n=0:=by
     rcases Nat.eq_zero_or_pos n with h0 | h0
     ·exact h0
     ·exact absurd (hw.2 n h0 hn) h
    subst h0
    simp -implicitDefEqProofs only [hp,List.length_singleton] at hi
    obtain rfl:i=0:=by omega
    simp -implicitDefEqProofs only [hp,List.getElem_cons_zero]
    rw [hw.1];rfl
theorem zA {l:List Nd} {k n i:Nat} (hn:n<k) (h:i<(bz l n).length):(bz l n)[i]'h<k:=by
 have:=uv n _ (List.getElem_mem h);omega
theorem Tk {l:List Nd}:∀ n i,(h:i<(bz l n).length)→(bz l n).drop i=bz l ((bz l n)[i]'h):=by
 intro n
 induction n using Nat.strongRecOn with
 | _ n ih=>
   intro i hi
   by_cases h:0≤bE l n∧bE l n<n
   ·have hp:=rj h
    cases i with
    | zero=>simp [hp]
    | succ i=>
      simp -implicitDefEqProofs only [hp,List.length_cons] at hi
      simp -implicitDefEqProofs only [hp,List.drop_succ_cons,List.getElem_cons_succ]
      exact ih _ (by omega) i (by omega)
   ·have hp:=ux h
    simp -implicitDefEqProofs only [hp,List.length_singleton] at hi
    obtain rfl:i=0:=by omega
    simp [hp]
def nr (l:List Nd) (k:Nat):Option Nat:=(bz l (k - 1)).findIdx? fun (j:Nat)=>decide ((j:Int)=bE l k)
def jK (l:List Nd) (k:Nat):Bool:=decide (k=0) || (nr l k).isSome
def lp (l:List Nd):Bool:=decide (0<l.length) && decide (bE l 0 = -1) && (List.range l.length).all (jK l)
def fW (l:List Nd):Bool:=lp l && l.all fun x=>jq x.s
theorem Dh {l:List Nd} {k:Nat} (h:(nr l k).isSome=true):0≤bE l k∧bE l k≤((k - 1:Nat):Int)∧(bE l k).toNat∈bz l (k - 1):=by
 obtain ⟨i,hi⟩:=Option.isSome_iff_exists.1 h
 unfold nr at hi
 rw [List.findIdx?_eq_some_iff_getElem] at hi
 obtain ⟨hlt,hp,_⟩:=hi
 simp at hp
 have h1:=List.getElem_mem hlt
 have h2:=uv _ _ h1
 refine ⟨by omega,by omega,?_⟩
 rw [← hp];simp
theorem VV {l:List Nd} {k:Nat} (h0:0≤bE l k) (h:(bE l k).toNat∈bz l (k - 1)):(nr l k).isSome=true:=by
 unfold nr
 rw [List.findIdx?_isSome,List.any_eq_true]
 exact ⟨_,h,by simp;omega⟩
theorem VT {l:List Nd} {k i:Nat} (h:i<(bz l (k - 1)).length) (hp:(((bz l (k - 1))[i]'h:Nat):Int)=bE l k) (hn:∀ j,(h:j<(bz l (k - 1)).length)→j<i→(((bz l (k - 1))[j]'h:Nat):Int)≠bE l k):nr l k=some i:=by
 unfold nr
 rw [List.findIdx?_eq_some_iff_getElem]
 exact ⟨h,by simpa using hp,fun j hj=>by simpa using hn j (by omega) hj⟩
theorem VU {l:List Nd} {k:Nat} (hn:∀ j,(h:j<(bz l (k - 1)).length)→(((bz l (k - 1))[j]'h:Nat):Int)≠bE l k):nr l k=none:=by
 unfold nr
 rw [List.findIdx?_eq_none_iff]
 intro x hx
 obtain ⟨j,hj,rfl⟩:=List.getElem_of_mem hx
 simpa using hn j hj
theorem Jt {l:List Nd} {k:Nat} (h0:bE l 0 = -1) (h:∀ j,j<k→jK l j=true):WF l k:=by
 refine ⟨h0,fun j hj hk=>?_⟩
 have:=h j hk
 simp [jK] at this
 rcases this with h | h
 ·omega
 ·have:=Dh h;omega
structure gx (l:List Nd):Prop where
 pos:0<l.length
 root:bE l 0 = -1
 up:∀ j,0<j→j<l.length→0≤bE l j∧bE l j<j∧(bE l j).toNat∈bz l (j - 1)
theorem gx.wf {l:List Nd} (h:gx l):WF l l.length:=⟨h.root,fun j a b=>⟨(h.up j a b).1,(h.up j a b).2.1⟩⟩
theorem wL {l:List Nd}:lp l=true↔gx l:=by
 simp -implicitDefEqProofs only [lp,Bool.and_eq_true,decide_eq_true_eq,List.all_eq_true,List.mem_range]
 constructor
 ·rintro ⟨⟨h1,h2⟩,h3⟩
  refine ⟨h1,h2,fun j hj hl=>?_⟩
  have:=h3 j hl
  simp [jK] at this
  rcases this with h | h
  ·omega
  ·obtain ⟨a,b,c⟩:=Dh h
   exact ⟨a,by omega,c⟩
 ·intro h
  refine ⟨⟨h.pos,h.root⟩,fun j hj=>?_⟩
  rcases Nat.eq_zero_or_pos j with h0 | h0
  ·simp [jK,h0]
  ·obtain ⟨a,b,c⟩:=h.up j h0 hj
   simp [jK,VV a c]
def depth (l:List Nd) (n:Nat):Nat:=(bz l n).length
theorem AG {l:List Nd} {k n:Nat} (hw:WF l k) (h0:0<n) (hn:n<k):depth l n=depth l (bE l n).toNat+1:=by
 unfold depth;rw [rj (hw.2 n h0 hn)];simp
theorem AH {l:List Nd}:depth l 0=1:=by simp [depth,CA]
def kT (l:List Nd):Int:=if fW l=false then 2 else if (decide (l.length>65535) || (List.range l.length).any (fun k=>decide (depth l k>256)) || l.any fun x=>!lq x.s)=true then 3 else 0
end Go.aL

namespace Go.aL
open Go
def bG (l:List Nd) (k p:Nat):List Nat:=(List.range k).filter fun j=>decide (0<j) && decide (bE l j=p)
def iw (l:List Nd) (p:Nat):List Nat:=bG l l.length p
theorem uh {l:List Nd} {p:Nat}:bG l 0 p=[]:=rfl
theorem ug {l:List Nd} {k p:Nat}:bG l (k+1) p=bG l k p++if 0<k∧bE l k=p then [k] else []:=by
 by_cases h:0<k∧bE l k=p
 ·simp [bG,List.range_succ,h]
 ·rw [if_neg h]
  have:(decide (0<k) && decide (bE l k=p))=false:=by
   rw [Bool.eq_false_iff];simpa using h
  simp [bG,List.range_succ,this]
theorem sP {l:List Nd} {k p:Nat}:(bG l k p).length≤k:=by
 have:=List.length_filter_le (fun j=>decide (0<j) && decide (bE l j=p)) (List.range k)
 simpa [bG] using this
theorem qY {l:List Nd} {c p:Nat}:c∈iw l p↔0<c∧c<l.length∧bE l c=p:=by
 simp [iw,bG];omega
def iq (l:List Nd) (n:Nat):Nat:=match (iw l n).getLast? with
 | none=>n+1
 | some c=>if h:n<c∧c<l.length then iq l c else n+1
termination_by l.length - n
decreasing_by omega
theorem AP {l:List Nd} {n:Nat} (h:iw l n=[]):iq l n=n+1:=by
 rw [iq,h];rfl
theorem AN {l:List Nd} {n c:Nat} (h:(iw l n).getLast?=some c) (h1:n<c) (h2:c<l.length):iq l n=iq l c:=by
 rw [iq,h];simp [h1,h2]
def pR (l:List Nd) (n:Nat):Bool:=(l.getD n default).s.shown
theorem CP {l:List Nd} {n:Nat} (h:n<l.length):(l[n]'h).s.shown=pR l n:=by simp [pR,h]
def mJ (l:List Nd) (n:Nat):Bool:=(bz l n).all (pR l)
theorem GM {l:List Nd}:mJ l 0=pR l 0:=by simp [mJ,CA]
theorem GL {l:List Nd} {k n:Nat} (hw:WF l k) (h0:0<n) (hn:n<k):mJ l n=(pR l n && mJ l (bE l n).toNat):=by
 unfold mJ;rw [rj (hw.2 n h0 hn)];rfl
end Go.aL

namespace Go.aL
open Go
theorem zf {l:List Nd} {n:Nat}:n∈bz l n:=by obtain ⟨r,h⟩:=HQ (l:=l) (n:=n);simp [h]
theorem Cz {l:List Nd} {a n:Nat} (h:a∈bz l n):∀ x,x∈bz l a→x∈bz l n:=by
 obtain ⟨i,hi,rfl⟩:=List.getElem_of_mem h
 intro x hx
 rw [← Tk n i hi] at hx
 exact List.mem_of_mem_drop hx
theorem sR {l:List Nd} {k n m:Nat} (hw:WF l m) (h0:0<k) (hk:k<m):n∈bz l k↔n=k∨n∈bz l (bE l k).toNat:=by
 rw [rj (hw.2 k h0 hk)];simp
theorem Sr {l:List Nd} {n:Nat}:n∈bz l 0↔n=0:=by rw [CA];simp
theorem gx.step {l:List Nd} (h:gx l) {n k:Nat} (hk:k<l.length) (hn:n<k) (hm:n∈bz l k):n∈bz l (k - 1):=by
 rw [sR h.wf (by omega) hk] at hm
 rcases hm with hm | hm
 ·omega
 ·exact Cz (h.up k (by omega) hk).2.2 n hm
theorem gx.DD {l:List Nd} (h:gx l) {n:Nat}:∀ k j,k<l.length→n∈bz l k→n≤j→j≤k→n∈bz l j:=by
 intro k
 induction k using Nat.strongRecOn with
 | _ k ih=>
   intro j hk hm h1 h2
   rcases Nat.lt_or_ge j k with yG | yG
   ·exact ih (k - 1) (by omega) j (by omega) (h.step hk (by omega) hm) h1 (by omega)
   ·obtain rfl:j=k:=by omega
    exact hm
theorem gx.child {l:List Nd} (h:gx l) {n:Nat}:∀ k,k<l.length→n∈bz l k→n≠k→∃ c,c∈iw l n∧c∈bz l k:=by
 intro k
 induction k using Nat.strongRecOn with
 | _ k ih=>
   intro hk hm hne
   rcases Nat.eq_zero_or_pos k with h0 | h0
   ·subst h0;rw [Sr] at hm;exact absurd hm hne
   ·obtain ⟨p1,p2,_⟩:=h.up k h0 hk
    rw [sR h.wf h0 hk] at hm
    rcases hm with hm | hm
    ·exact absurd hm hne
    ·by_cases hp:n=(bE l k).toNat
     ·exact ⟨k,qY.2 ⟨h0,hk,by omega⟩,zf⟩
     ·obtain ⟨c,c1,c2⟩:=ih (bE l k).toNat (by omega) (by omega) hm hp
      exact ⟨c,c1,(sR h.wf h0 hk).2 (.inr c2)⟩
theorem RB {l:List Nd} {n c:Nat} (h:(iw l n).getLast?=some c):∀ x∈iw l n,x≤c:=by
 have key:∀ k,∀ c,(bG l k n).getLast?=some c→∀ x∈bG l k n,x≤c:=by
  intro k
  induction k with
  | zero=>intro c h;simp [uh] at h
  | succ k ih=>
    intro c h x hx
    rw [ug] at h hx
    by_cases hc:0<k∧bE l k=n
    ·rw [if_pos hc] at h hx
     simp at h
     subst h
     rcases List.mem_append.1 hx with hx | hx
     ·simp [bG] at hx;omega
     ·simp at hx;omega
    ·rw [if_neg hc,List.append_nil] at h hx
     exact ih c h x hx
 exact key _ c h
theorem gx.ends {l:List Nd} (h:gx l):∀ m n,l.length - n=m→n<l.length→n<iq l n∧iq l n≤l.length∧∀ k,k<l.length→(n∈bz l k↔n≤k∧k<iq l n):=by
 intro m
 induction m using Nat.strongRecOn with
 | _ m ih=>
   intro n hm hn
   cases hl:(iw l n).getLast? with
   | none=>
     have gA:iw l n=[]:=List.getLast?_eq_none_iff.1 hl
     rw [AP gA]
     refine ⟨by omega,hn,fun k hk=>⟨fun hm=>?_,fun hb=>?_⟩⟩
     ·refine ⟨uv _ _ hm,?_⟩
      apply Classical.byContradiction
      intro hc
      obtain ⟨c,c1,_⟩:=h.child k hk hm (by omega)
      rw [gA] at c1;simp at c1
     ·obtain rfl:k=n:=by omega
      exact zf
   | some c=>
     have mX:c∈iw l n:=List.mem_of_getLast? hl
     obtain ⟨c1,c2,c3⟩:=qY.1 mX
     have hnc:n<c:=by have:=(h.up c c1 c2).2.1;omega
     rw [AN hl hnc c2]
     obtain ⟨e1,e2,e3⟩:=ih (l.length - c) (by omega) c rfl c2
     have FC:n∈bz l c:=(sR h.wf c1 c2).2 (.inr (by rw [c3,Int.toNat_natCast];exact zf))
     refine ⟨by omega,e2,fun k hk=>⟨fun hm=>?_,fun hb=>?_⟩⟩
     ·refine ⟨uv _ _ hm,?_⟩
      rcases Nat.lt_or_ge k (c+1) with hkc | hkc
      ·omega
      ·obtain ⟨c',d1,d2⟩:=h.child k hk hm (by omega)
       have hle:=RB hl c' d1
       obtain ⟨g1,g2,g3⟩:=qY.1 d1
       by_cases Nw:c'=c
       ·subst Nw;exact ((e3 k hk).1 d2).2
       ·have:=h.DD k c hk d2 (by omega) (by omega)
        rw [sR h.wf c1 c2,c3,Int.toNat_natCast] at this
        rcases this with t | t
        ·omega
        ·have:=uv _ _ t
         have:=(h.up c' g1 g2).2.1
         omega
     ·rcases Nat.lt_or_ge k c with hkc | hkc
      ·exact h.DD c k c2 FC hb.1 (by omega)
      ·exact Cz ((e3 k hk).2 ⟨hkc,hb.2⟩) n FC
theorem gx.below {l:List Nd} (h:gx l) {n k:Nat} (hn:n<l.length) (hk:k<l.length):n∈bz l k↔n≤k∧k<iq l n:=(h.ends _ n rfl hn).2.2 k hk
theorem gx.si {l:List Nd} (h:gx l) {n:Nat} (hn:n<l.length):n<iq l n∧iq l n≤l.length:=⟨(h.ends _ n rfl hn).1,(h.ends _ n rfl hn).2.1⟩
end Go.aL

namespace Go.aL
open Go
theorem Rl:aU Go.Proofs.Tryz.prog 108 21 (fc Go.Proofs.Tryz.prog 108 21 [(.t 2)]) [(.t 2)]:=bl (by kernel_rfl)
theorem Rq:aU Go.Proofs.Tryz.prog 87 14 (fc Go.Proofs.Tryz.prog 87 14 [(.t 4)]) [(.t 4)]:=bl (by kernel_rfl)
theorem Vy (x:Ln):aI Go.Proofs.Tryz.prog 108 [x.sv] [] [] (.rv (.bool (oH x))):=by
 refine mV Rl [] [] [] [x.sv] [x.sv] [] _ (by simp) (by simp [aO,Ln.sv,Ln.cells,aW,aS]) rfl (by simp [bW]) (by simp [ig]) (fun K hK=>?_)
 conv in fc _ _ _ _=>reduce
 simp -implicitDefEqProofs only [Ln.sv,Ln.cells,go_sem,Int.reduceNegSucc]
 repeat' (first | (simp -implicitDefEqProofs only [go_sem,Int.reduceNegSucc]) | (with_reducible refine aA ?_) | ((first | refine ai (fun hg=>?_) (fun hg=>?_) | refine ax (fun hg=>?_) (fun hg=>?_) | refine ay (fun hg=>?_) (fun hg=>?_)) <;> try simp -implicitDefEqProofs only [hg,Bool.not_true,Bool.not_false]) | ((with_reducible apply And.intro);focus (first | trivial | omega | decide | (simp -implicitDefEqProofs only [maxLen];omega) | (simp [maxLen,ah,ak,an,av,aj,au,aq] <;> omega))) | fail)
 all_goals (try ((first | refine (hK _ _ _ _ [] (gO _ _) ?_).2 | refine (hK _ _ ?_).2 | refine (hK _ _ _ _ [] (gO _ _) ?_).1 | refine (hK _ _ ?_).1 | fail);clear hK;(simp_all [gZ,bW,newL,ia,gP,aR,aQ,lk,aV,fY,gk,ga,iD,iC,aB,hD,bf,aG,gw,hJ,iK,aH,iJ,aF,gB,fU,bB,oH]) <;> try omega))
theorem CZ (n m:Int) (hm:0≤m) (hm2:m<4611686018427387904):aI Go.Proofs.Tryz.prog 87 [.rv (.int .i64 n),.rv (.int .i64 m)] [] [] (.rv (.bool (qR n m))):=by
 refine KU Rq [.int .i64 n,.int .i64 m] _ (by simp) (fun K hK=>?_)
 have e1:IntKind.i64.wrap (0 - m) = -m:=by rw [wrap_i64 (by omega) (by omega)];omega
 conv in fc _ _ _ _=>reduce
 simp -implicitDefEqProofs only [e1,go_sem,Int.reduceNegSucc]
 repeat' (first | (simp -implicitDefEqProofs only [go_sem,Int.reduceNegSucc]) | (with_reducible refine aA ?_) | ((first | refine ai (fun hg=>?_) (fun hg=>?_) | refine ax (fun hg=>?_) (fun hg=>?_) | refine ay (fun hg=>?_) (fun hg=>?_)) <;> try simp -implicitDefEqProofs only [hg,Bool.not_true,Bool.not_false]) | ((with_reducible apply And.intro);focus (first | trivial | omega | decide | (simp -implicitDefEqProofs only [maxLen];omega) | (simp [maxLen,ah,ak,an,av,aj,au,aq] <;> omega))) | fail)
 all_goals (try ((first | refine (hK _ _ _ _ [] (gO _ _) ?_).2 | refine (hK _ _ ?_).2 | refine (hK _ _ _ _ [] (gO _ _) ?_).1 | refine (hK _ _ ?_).1 | fail);clear hK;(simp_all [gZ,bW,newL,ia,gP,aR,aQ,lk,aV,fY,gk,ga,iD,iC,aB,hD,bf,aG,gw,hJ,iK,aH,iJ,aF,gB,fU,bB,qR]) <;> try omega))
end Go.aL

namespace Go.aL
open Go
theorem Ro:aU Go.Proofs.Tryz.prog 109 15 (fc Go.Proofs.Tryz.prog 109 15 []) []:=bl (by kernel_rfl)
theorem Rm:aU Go.Proofs.Tryz.prog 86 43 (fc Go.Proofs.Tryz.prog 86 43 [(.t 2)]) [(.t 2)]:=bl (by kernel_rfl)
def upto (o:Nat) (k:Nat):List Nat:=(List.range k).map fun q=>o+q*2
theorem VY {o k:Nat}:upto o (k+1)=upto o k++[o+k*2]:=by simp [upto,List.range_succ]
theorem Jo {o k:Nat}:(upto o k).length=k:=by simp [upto]
theorem CU (i j m o v:Nat) (cs:List RV) (os:List Nat) (h1:i≠j) (h2:i≠m) (h3:j≠m) (hb:os.length<1000) :
 aI Go.Proofs.Tryz.prog 109 [.ptr i o,.ptr j 0] [(i,.var (cs.map .rv)),(j,.var [.row m v os.length]),(m,.row 1 v (gY i os))] [(j,.var [.row m (v+4) (os.length+4)]),(m,.row 1 (v+4) (gY i (os++upto o 4)))] (.aP []):=by
 refine xL Ro [i,j,m] [.var (cs.map .rv),.var [.row 2 v os.length],.row 1 v (gY 0 os)] [.var (cs.map .rv),.var [.row m v os.length],.row 1 v (gY i os)] [.ptr 0 o,.ptr 1 0] _ _ _ (by simp) (by simp [aO,lP,lD,aS,aW,nY,bg,nZ,nX,ig,nQ,bW]) rfl (by simp [bW,h1,h2,h3]) rfl (Kw DG (Al (by simp [aO,lP,lD,aS,aW,nY,bg,nZ,nX,ig,nQ,bW,lD])) (KL rfl)) (fun K hK=>?_)
 conv in fc _ _ _ _=>reduce
 simp -implicitDefEqProofs only [go_sem,Int.reduceNegSucc]
 refine fE (ι:=Nat) (fun k=>[(4,.rv (.int .i64 k)),(0,.ptr 0 o),(1,.ptr 1 0)]) (fun k=>[some (.var (cs.map .rv)),some (.var [.row 2 (v+k) (os.length+k)]),some (.row 1 (v+k) (gY 0 (os++upto o k)))]) (fun k=>k≤4) (fun k=>4 - k) 0 (by simp) (by simpa [upto] using bh (by simp [lk])) (fun k hk K' hN hX hR=>?_)
 simp -implicitDefEqProofs only [go_sem,Int.reduceNegSucc]
 refine ai (fun hg=>?_) (fun hg=>?_)
 ·have aE:k<4:=by simp at hg;omega
  have d1:List.take (os.length+k) (gY 0 (os++upto o k))++[[SV.ptr 0 (o+k*2)]]=gY 0 (os++upto o (k+1)):=by
   rw [VY,List.take_of_length_le (by simp [HS,Jo])]
   simp [gY]
  simp -implicitDefEqProofs only [HS,List.length_append,Jo,go_sem,Int.reduceNegSucc]
  repeat' (first | (simp -implicitDefEqProofs only [go_sem,Int.reduceNegSucc]) | (with_reducible refine aA ?_) | ((first | refine ai (fun hg=>?_) (fun hg=>?_) | refine ax (fun hg=>?_) (fun hg=>?_) | refine ay (fun hg=>?_) (fun hg=>?_)) <;> try simp -implicitDefEqProofs only [hg,Bool.not_true,Bool.not_false]) | ((with_reducible apply And.intro);focus (first | trivial | omega | decide | (simp -implicitDefEqProofs only [maxLen];omega) | (simp [maxLen,ah,ak,an,av,aj,au,aq] <;> omega))) | fail)
  rw [d1,cz (by omega)]
  refine hN (k+1) _ _ (by omega) (by omega) (tN _ (by simp) ?_ ?_)
  ·simp [qo,aB,fY,aF,gw,gD,zD,fU,Nat.add_assoc]
  ·simp [lk,aG,hJ,gD]
 ·have aE:k=4:=by simp at hg;omega
  subst aE
  simp -implicitDefEqProofs only [go_sem,Int.reduceNegSucc]
  refine hX _ _ _ ?_
  repeat' (first | (simp -implicitDefEqProofs only [go_sem,Int.reduceNegSucc]) | (with_reducible refine aA ?_) | ((first | refine ai (fun hg=>?_) (fun hg=>?_) | refine ax (fun hg=>?_) (fun hg=>?_) | refine ay (fun hg=>?_) (fun hg=>?_)) <;> try simp -implicitDefEqProofs only [hg,Bool.not_true,Bool.not_false]) | ((with_reducible apply And.intro);focus (first | trivial | omega | decide | (simp -implicitDefEqProofs only [maxLen];omega) | (simp [maxLen,ah,ak,an,av,aj,au,aq] <;> omega))) | fail)
  refine (hK _ _ _ _ [] (gO _ _) ?_).1
  simp [gZ,bW,newL,ia,gP,aR,aQ,lk,aV,fY,gk,ga,iD,iC,aB,hD,bf,aG,gw,hJ,iK,aH,iJ,aF,gB,fU,h1,h2,h3,Ne.symm h1,Ne.symm h2,Ne.symm h3,gw,zD,fU]
theorem UW (i j m o:Nat) (cs:List RV) (h1:i≠j) (h2:i≠m) (h3:j≠m) :
 aI Go.Proofs.Tryz.prog 109 [.ptr i o,.ptr j 0] [(j,.var [.rv .cr]),(i,.var (cs.map .rv))] [(j,.var [.row m 4 4]),(m,.row 1 4 (gY i (upto o 4)))] (.aP []):=by
 have:=CU i j m o 0 cs [] h1 h2 h3 (by simp)
 simp -implicitDefEqProofs only [List.length_nil,Nat.zero_add,List.nil_append] at this
 refine KW (e:=1) (o:=0) (m:=m) rfl (by simp [h1,h2]) (Ne.symm h3) (by simp) (by simp) (KZ this ?_)
 intro q
 simp [gY]
 constructor
 ·rintro (h | h | h) <;> simp [h]
 ·rintro (h | h | h) <;> simp [h]
def nI:List Nat:=[2,4,6,8,10,12,14,16,18,20,22,24,26,28,30,32,34,36]
theorem IC (i m:Nat) (s:aC) (h1:i≠m) :
 aI Go.Proofs.Tryz.prog 86 [.ptr i 0] [(i,.var (s.cells.map .rv))] [(m,.row 1 13 (gY i nI))] (.row m 13 18):=by
 refine xL Rm [i] [.var (s.cells.map .rv)] [.var (s.cells.map .rv)] [.ptr 0 0] _ _ _ (by simp) (by simp [aO,lP,lD,aS,aW,nY,bg,nZ,nX,ig,nQ,bW]) rfl (by simp [bW]) rfl (fun j x y hx hy=>by
  match j with
  | 0=>simp at hx hy;subst hx;subst hy;exact DG
  | j+1=>simp at hx) (fun K hK=>?_)
 conv in fc _ _ _ _=>reduce
 simp -implicitDefEqProofs only [go_sem,Int.reduceNegSucc]
 refine bS (UW 0 1 2 2 s.cells (by decide) (by decide) (by decide)) (by simp [aY,aB]) (by simp [bq,aX]) ?_
 repeat' (first | (simp -implicitDefEqProofs only [go_sem,Int.reduceNegSucc]) | (with_reducible refine aA ?_) | ((first | refine ai (fun hg=>?_) (fun hg=>?_) | refine ax (fun hg=>?_) (fun hg=>?_) | refine ay (fun hg=>?_) (fun hg=>?_)) <;> try simp -implicitDefEqProofs only [hg,Bool.not_true,Bool.not_false]) | ((with_reducible apply And.intro);focus (first | trivial | omega | decide | (simp -implicitDefEqProofs only [maxLen];omega) | (simp [maxLen,ah,ak,an,av,aj,au,aq] <;> omega))) | fail)
 rw [show List.take 4 (gY 0 (upto 2 4))++[[SV.ptr 0 10],[SV.ptr 0 12],[SV.ptr 0 14],[SV.ptr 0 16],[SV.ptr 0 18],[SV.ptr 0 20]]=gY 0 [2,4,6,8,10,12,14,16,18,20] from rfl]
 refine bS (CU 0 1 2 22 5 s.cells [2,4,6,8,10,12,14,16,18,20] (by decide) (by decide) (by decide) (by decide)) (by simp [aY,aB]) (by simp [bq,aX]) ?_
 repeat' (first | (simp -implicitDefEqProofs only [go_sem,Int.reduceNegSucc]) | (with_reducible refine aA ?_) | ((first | refine ai (fun hg=>?_) (fun hg=>?_) | refine ax (fun hg=>?_) (fun hg=>?_) | refine ay (fun hg=>?_) (fun hg=>?_)) <;> try simp -implicitDefEqProofs only [hg,Bool.not_true,Bool.not_false]) | ((with_reducible apply And.intro);focus (first | trivial | omega | decide | (simp -implicitDefEqProofs only [maxLen];omega) | (simp [maxLen,ah,ak,an,av,aj,au,aq] <;> omega))) | fail)
 refine bS (CU 0 1 2 30 9 s.cells [2,4,6,8,10,12,14,16,18,20,22,24,26,28] (by decide) (by decide) (by decide) (by decide)) (by simp [aY,aB,upto,List.range_succ]) (by simp [bq,aX]) ?_
 repeat' (first | (simp -implicitDefEqProofs only [go_sem,Int.reduceNegSucc]) | (with_reducible refine aA ?_) | ((first | refine ai (fun hg=>?_) (fun hg=>?_) | refine ax (fun hg=>?_) (fun hg=>?_) | refine ay (fun hg=>?_) (fun hg=>?_)) <;> try simp -implicitDefEqProofs only [hg,Bool.not_true,Bool.not_false]) | ((with_reducible apply And.intro);focus (first | trivial | omega | decide | (simp -implicitDefEqProofs only [maxLen];omega) | (simp [maxLen,ah,ak,an,av,aj,au,aq] <;> omega))) | fail)
 refine (hK _ _ _ _ [none,some m,none] (gO _ _) ?_).2
 rw [show 2::4::6::8::10::12::14::16::18::20::22::24::26::28::upto 30 4=nI from rfl]
 simp [gZ,bW,newL,ia,gP,aR,aQ,lk,aV,fY,gk,ga,iD,iC,aB,hD,bf,aG,gw,hJ,iK,aH,iJ,aF,gB,fU,h1,Ne.symm h1,gw,zD,fU]
end Go.aL
