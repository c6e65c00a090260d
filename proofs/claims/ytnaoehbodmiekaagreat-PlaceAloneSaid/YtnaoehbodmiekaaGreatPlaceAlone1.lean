/- Part 1 of the proof: EngA, EngB, EngC, EngD, EngE, EngF, EngG, EngH, EngI, EngJ, EngJa, EngIa, EngK, EngL, EngM, EngN. -/
import Derived.Orders
import Derived.Below
import Derived.Laws.OwnMore
import Derived.Deep.AppendSrc
import Derived.ChangeKeysEq
import Derived.Laws.CopyRow
set_option linter.unusedSimpArgs false
set_option linter.unusedVariables false
set_option maxRecDepth 100000
set_option maxHeartbeats 16000000
namespace Go.aJ
open Go
inductive RV where
 | int (k:IntKind) (n:Int) | bool (b:Bool) | str (s:ByteArray)
 | sl (e:Nat) (xs:List (List RV)) | rop (cs:List RV)
 | lV | cv | oa | pe | mT
 | bW (t:TypeId) (r:RV) | agg (rs:List RV) | fn (f:FuncId) (cap:List RV)
 deriving Inhabited
def RV.one:RV→Bool
 | .agg _=>false
 | _=>true
inductive RO (w:World) (ok:Nat→Prop):RV→Value→Prop where
 | int (k:IntKind) (n:Int):RO w ok (.int k n) (.int k n)
 | bool (b:Bool):RO w ok (.bool b) (.bool b)
 | str (s:ByteArray):RO w ok (.str s) (.string s)
 | sl (e:Nat) (xs:List (List RV)) (a:Option Addr) (cap:Nat) (c:Nat→Nat→Value)
    (h0:a=none→xs=[]∧cap=0) (hc:xs.length≤cap) (hm:cap≤maxLen) (he:∀ x∈xs,x.length=e)
    (hr:∀ (i:Nat) (x:List RV) (j:Nat) (y:RV),xs[i]?=some x→x[j]?=some y→∃ ad,a=some ad∧ok ad.block∧w.cell? (ad.add (i*e+j))=some (c i j))
    (h1:∀ (i:Nat) (x:List RV) (j:Nat) (y:RV),xs[i]?=some x→x[j]?=some y→y.one=true)
    (hy:∀ (i:Nat) (x:List RV) (j:Nat) (y:RV),xs[i]?=some x→x[j]?=some y→RO w ok y (c i j)):RO w ok (.sl e xs) (.slice a xs.length cap)
 | rop (cs:List RV) (a:Addr) (c:Nat→Value)
    (hr:∀ (j:Nat) (y:RV),cs[j]?=some y→ok a.block∧w.cell? (a.add j)=some (c j))
    (h1:∀ (j:Nat) (y:RV),cs[j]?=some y→y.one=true)
    (hy:∀ (j:Nat) (y:RV),cs[j]?=some y→RO w ok y (c j)):RO w ok (.rop cs) (.pointer (some a))
 | lV:RO w ok .lV (.pointer none)
 | cv:RO w ok .cv (.slice none 0 0)
 | mT (a:Addr) (cap:Nat) (hm:cap≤maxLen):RO w ok .mT (.slice (some a) 0 cap)
 | oa:RO w ok .oa .nilIface
 | pe:RO w ok .pe .nilFunc
 | bW (t:TypeId) (r:RV) (v:Value) (h:RO w ok r v):RO w ok (.bW t r) (.iface t v)
 | agg (rs:List RV) (vs:List Value) (hl:vs.length=rs.length) (h1:∀ (j:Nat) (y:RV),rs[j]?=some y→y.one=true)
    (hy:∀ (j:Nat) (y:RV),rs[j]?=some y→RO w ok y (vs.getD j undef)):RO w ok (.agg rs) (.agg vs.toArray)
 | fn (f:FuncId) (cap:List RV) (vs:List Value) (hl:vs.length=cap.length)
    (hy:∀ (j:Nat) (y:RV),cap[j]?=some y→RO w ok y (vs.getD j undef)):RO w ok (.fn f cap) (.func (.func f) #[] vs.toArray)
theorem RO.mono {w w':World} {ok fS:Nat→Prop} (h:∀ b,ok b→b<w.heap.size→fS b∧w'.heap[b]?=w.heap[b]?) {r:RV} {v:Value}
 (hr:RO w ok r v):RO w' fS r v:=by
 induction hr with
 | int k n=>exact .int k n
 | bool b=>exact .bool b
 | str s=>exact .str s
 | sl e xs a cap c h0 hc hm he hr h1 _ ih=>
   refine .sl e xs a cap c h0 hc hm he (fun i x j y hx hy=>?_) h1 ih
   obtain ⟨ad,ha,hok,hcell⟩:=hr i x j y hx hy
   have hb:=h _ hok (by have:=World.block_lt_of_cell? w _ hcell;simpa [Addr.add] using (show (ad.add (i*e+j)).block<w.heap.size from this) |> fun h=>by unfold Addr.add at h;split at h <;> exact h)
   refine ⟨ad,ha,hb.1,?_⟩
   rw [← hcell]
   refine World.cell?_of_block ?_
   have:(ad.add (i*e+j)).block=ad.block:=by unfold Addr.add;split <;> rfl
   rw [this];exact hb.2
 | rop cs a c hr h1 _ ih=>
   refine .rop cs a c (fun j y hy=>?_) h1 ih
   obtain ⟨hok,hcell⟩:=hr j y hy
   have FA:(a.add j).block=a.block:=by unfold Addr.add;split <;> rfl
   have hb:=h _ hok (by have:=World.block_lt_of_cell? w _ hcell;rwa [FA] at this)
   refine ⟨hb.1,?_⟩
   rw [← hcell]
   refine World.cell?_of_block ?_
   rw [FA];exact hb.2
 | lV=>exact .lV
 | cv=>exact .cv
 | mT a cap hm=>exact .mT a cap hm
 | oa=>exact .oa
 | pe=>exact .pe
 | bW t r v _ ih=>exact .bW t r v ih
 | agg rs vs hl h1 _ ih=>exact .agg rs vs hl h1 ih
 | fn f cap vs hl _ ih=>exact .fn f cap vs hl ih
theorem RO.xd {w:World} {ok:Nat→Prop} {r:RV} {v:Value} (h:RO w ok r v) (h1:r.one=true):v.oneCell'=true:=by
 cases h <;> first | rfl | (simp [RV.one] at h1)
theorem RO.Us {w:World} {ok:Nat→Prop} (e:Nat) {v:Value} (h:RO w ok .mT v):RO w ok (.sl e []) v:=by
 cases h with
 | mT a cap hm=>exact .sl e [] (some a) cap (fun _ _=>undef) (fun h=>by cases h) (by simp) hm (by simp) (fun i x j y hx=>by simp at hx) (fun i x j y hx=>by simp at hx) (fun i x j y hx=>by simp at hx)
inductive SV where
 | dead
 | rv (r:RV)
 | ptr (id off:Nat)
 | bX (id az i off:Nat)
 | row (id az len:Nat)
 | win (id az off len:Nat)
 | agg (cs:List SV)
 | aO (xs:List SV)
 | fn (f:FuncId) (cap:List SV)
 | fK (f:FuncId) (fst:List SV)
 | bW (t:TypeId) (x:SV)
 deriving Inhabited
inductive HB where
 | var (cs:List SV)
 | row (e az:Nat) (xs:List (List SV))
 deriving Inhabited
def SV.one:SV→Bool
 | .rv r=>r.one
 | .ptr .. | .bX .. | .row .. | .win .. | .fn .. | .fK .. | .bW ..=>true
 | _=>false
abbrev Hp:=Nat→Option HB
inductive Rp (w:World) (ok:Nat→Prop) (aa:Nat→Option Nat) (hp:Hp):SV→Value→Prop where
 | dead (v:Value):Rp w ok aa hp .dead v
 | rv (r:RV) (v:Value) (h:RO w ok r v):Rp w ok aa hp (.rv r) v
 | ptr (id off:Nat) (v:Value) (h1:v.oneCell'=true) (h0:(hp id).isSome=true) (h:∀ cs,hp id=some (.var cs)→∃ b,aa id=some b∧v = .pointer (some ⟨b,off,none⟩)):Rp w ok aa hp (.ptr id off) v
 | bX (id az i off:Nat) (v:Value) (h1:v.oneCell'=true) (h0:(hp id).isSome=true) (hv:∀ e gp xs,hp id=some (.row e gp xs)→az≤gp) (h:∀ e xs,hp id=some (.row e az xs)→∃ b,aa id=some b∧v = .pointer (some ⟨b,i*e+off,none⟩)):Rp w ok aa hp (.bX id az i off) v
 | row (id az len:Nat) (v:Value) (h1:v.oneCell'=true) (h0:(hp id).isSome=true) (hv:∀ e gp xs,hp id=some (.row e gp xs)→az≤gp)
    (h:∀ e xs,hp id=some (.row e az xs)→(aa id=none∧v = .slice none 0 0∧len=0)∨
      ∃ b cap cur t,aa id=some b∧v = .slice (some ⟨b,0,none⟩) len cap∧w.heap[b]?=some (.cells cur t (0,0))∧len≤cap∧cap≤maxLen∧cap*e≤cur.size):Rp w ok aa hp (.row id az len) v
 | win (id az off len:Nat) (v:Value) (h1:v.oneCell'=true) (h0:(hp id).isSome=true) (hv:∀ e gp xs,hp id=some (.row e gp xs)→az≤gp)
    (hr:∀ e xs,hp id=some (.row e az xs)→∃ ad cap,v = .slice ad len cap∧len≤cap∧cap≤maxLen∧(ad=none→cap=0)∧(0<len→∃ b,aa id=some b∧ad=some ⟨b,off*e,none⟩))
    (hc:∀ cs,hp id=some (.var cs)→∃ ad cap,v = .slice ad len cap∧len≤cap∧cap≤maxLen∧(ad=none→cap=0)∧(0<len→∃ b,aa id=some b∧ad=some ⟨b,off,none⟩)):Rp w ok aa hp (.win id az off len) v
 | agg (cs:List SV) (vs:List Value) (hl:vs.length=cs.length) (h1:∀ (j:Nat) (u:Value),vs[j]?=some u→u.oneCell'=true)
    (hy:∀ (j:Nat) (y:SV),cs[j]?=some y→Rp w ok aa hp y (vs.getD j undef)):Rp w ok aa hp (.agg cs) (.agg vs.toArray)
 | aO (cs:List SV) (vs:List Value) (hl:vs.length=cs.length)
    (hy:∀ (j:Nat) (y:SV),cs[j]?=some y→Rp w ok aa hp y (vs.getD j undef)):Rp w ok aa hp (.aO cs) (.tuple vs.toArray)
 | fn (f:FuncId) (cs:List SV) (vs:List Value) (hl:vs.length=cs.length)
    (hy:∀ (j:Nat) (y:SV),cs[j]?=some y→Rp w ok aa hp y (vs.getD j undef)):Rp w ok aa hp (.fn f cs) (.func (.func f) #[] vs.toArray)
 | fK (f:FuncId) (cs:List SV) (vs:List Value) (hl:vs.length=cs.length)
    (hy:∀ (j:Nat) (y:SV),cs[j]?=some y→Rp w ok aa hp y (vs.getD j undef)):Rp w ok aa hp (.fK f cs) (.func (.func f) vs.toArray #[])
 | bW (t:TypeId) (x:SV) (v:Value) (h:Rp w ok aa hp x v):Rp w ok aa hp (.bW t x) (.iface t v)
structure jn (w w':World) (ok fS:Nat→Prop) (aa aK:Nat→Option Nat) (hp aE:Hp):Prop where
 ro:∀ b,ok b→b<w.heap.size→fS b∧w'.heap[b]?=w.heap[b]?
 var:∀ id cs,hp id=some (.var cs)→∃ cs',aE id=some (.var cs')∧aK id=aa id
 row:∀ id e az xs,hp id=some (.row e az xs)→∃ e' bL xs',aE id=some (.row e' bL xs')∧az≤bL∧
  (bL=az→e'=e∧aK id=aa id∧∀ b,aa id=some b→∀ cur t,w.heap[b]?=some (.cells cur t (0,0))→∃ cur' t',w'.heap[b]?=some (.cells cur' t' (0,0))∧cur'.size=cur.size)
theorem jn.isSome {w w':World} {ok fS:Nat→Prop} {aa aK:Nat→Option Nat} {hp aE:Hp} (h:jn w w' ok fS aa aK hp aE) {id:Nat} (hs:(hp id).isSome=true):(aE id).isSome=true:=by
 cases hq:hp id with
 | none=>simp [hq] at hs
 | some hb=>
   cases hb with
   | var cs=>obtain ⟨cs',h',_⟩:=h.var id cs hq;simp [h']
   | row e az xs=>obtain ⟨e',bL,xs',h',_⟩:=h.row id e az xs hq;simp [h']
theorem Rp.mono {w w':World} {ok fS:Nat→Prop} {aa aK:Nat→Option Nat} {hp aE:Hp} (h:jn w w' ok fS aa aK hp aE) {s:SV} {v:Value}
 (hr:Rp w ok aa hp s v):Rp w' fS aK aE s v:=by
 induction hr with
 | dead v=>exact .dead v
 | rv r v hr=>exact .rv r v (hr.mono h.ro)
 | ptr id off v h1 h0 hv=>
   refine .ptr id off v h1 (h.isSome h0) (fun cs' FF=>?_)
   cases hq:hp id with
   | none=>simp [hq] at h0
   | some hb=>
     cases hb with
     | var cs=>obtain ⟨yD,_,qb⟩:=h.var id cs hq;rw [qb];exact hv cs hq
     | row e az xs=>obtain ⟨_,_,_,h',_⟩:=h.row id e az xs hq;rw [h'] at FF;cases FF
 | bX id az i off v h1 h0 hle hv=>
   cases hq:hp id with
   | none=>simp [hq] at h0
   | some hb=>
     cases hb with
     | var cs=>
       obtain ⟨yD,h',_⟩:=h.var id cs hq
       exact .bX id az i off v h1 (h.isSome h0) (fun _ _ _ hx=>by rw [h'] at hx;cases hx) (fun _ _ hx=>by rw [h'] at hx;cases hx)
     | row e gp xs=>
       obtain ⟨e2,Aw,vh,h',FT,hk⟩:=h.row id e gp xs hq
       have pZ:=hle _ _ _ hq
       refine .bX id az i off v h1 (h.isSome h0) (fun _ _ _ hx=>by rw [h'] at hx;cases hx;omega) (fun e' xs' hx'=>?_)
       rw [h'] at hx';cases hx'
       obtain rfl:az=gp:=by omega
       obtain ⟨rfl,qb,_⟩:=hk rfl
       rw [qb];exact hv _ xs hq
 | row id az len v h1 h0 hle hv=>
   cases hq:hp id with
   | none=>simp [hq] at h0
   | some hb=>
     cases hb with
     | var cs=>
       obtain ⟨yD,h',_⟩:=h.var id cs hq
       exact .row id az len v h1 (h.isSome h0) (fun _ _ _ hx=>by rw [h'] at hx;cases hx) (fun _ _ hx=>by rw [h'] at hx;cases hx)
     | row e gp xs=>
       obtain ⟨e2,Aw,vh,h',FT,hk⟩:=h.row id e gp xs hq
       have pZ:=hle _ _ _ hq
       refine .row id az len v h1 (h.isSome h0) (fun _ _ _ hx=>by rw [h'] at hx;cases hx;omega) (fun e' xs' hx'=>?_)
       rw [h'] at hx';cases hx'
       obtain rfl:az=gp:=by omega
       obtain ⟨rfl,qb,hsz⟩:=hk rfl
       rcases hv _ xs hq with ⟨g1,g2,g3⟩ | ⟨b,cap,cur,t,g1,g2,g3,g4,g5,g6⟩
       ·exact .inl ⟨qb.trans g1,g2,g3⟩
       ·obtain ⟨cur',t',k1,k2⟩:=hsz b g1 cur t g3
        exact .inr ⟨b,cap,cur',t',qb.trans g1,g2,k1,g4,g5,by omega⟩
 | win id az off len v h1 h0 hle hr hc=>
   cases hq:hp id with
   | none=>simp [hq] at h0
   | some hb=>
     cases hb with
     | var cs=>
       obtain ⟨yD,h',qb⟩:=h.var id cs hq
       exact .win id az off len v h1 (h.isSome h0) (fun _ _ _ hx=>by rw [h'] at hx;cases hx) (fun _ _ hx=>by rw [h'] at hx;cases hx) (fun _ _=>by rw [qb];exact hc cs hq)
     | row e gp xs=>
       obtain ⟨e2,Aw,vh,h',FT,hk⟩:=h.row id e gp xs hq
       have pZ:=hle _ _ _ hq
       refine .win id az off len v h1 (h.isSome h0) (fun _ _ _ hx=>by rw [h'] at hx;cases hx;omega) (fun e' xs' hx'=>?_) (fun _ hx=>by rw [h'] at hx;cases hx)
       rw [h'] at hx';cases hx'
       obtain rfl:az=gp:=by omega
       obtain ⟨rfl,qb,_⟩:=hk rfl
       rw [qb];exact hr _ xs hq
 | agg cs vs hl h1 _ ih=>exact .agg cs vs hl h1 ih
 | aO cs vs hl _ ih=>exact .aO cs vs hl ih
 | fn f cs vs hl _ ih=>exact .fn f cs vs hl ih
 | fK f cs vs hl _ ih=>exact .fK f cs vs hl ih
 | bW t x v _ ih=>exact .bW t x v ih
end Go.aJ

namespace Go.aJ
open Go
structure Ctx where
 w0:World
 wY:Nat→Prop
 Ia:Nat→Prop
 N:Nat
 Dk:Nat→Option Nat
 h0:Hp
def aI (C:Ctx) (aa:Nat→Option Nat) (hp:Hp) (b:Nat):Prop:=(C.wY b∨C.w0.heap.size≤b)∧∀ id,(hp id).isSome=true→aa id≠some b
def gV (w:World) (ok:Nat→Prop) (aa:Nat→Option Nat) (hp:Hp) (cur:Array Value) (off:Nat) (cs:List SV):Prop:=
 ∀ (j:Nat) (y:SV),cs[j]?=some y→∃ v,cur[off+j]?=some v∧v.oneCell'=true∧Rp w ok aa hp y v
def kf (w:World) (ok:Nat→Prop) (aa:Nat→Option Nat) (hp:Hp) (cur:Array Value):HB→Prop
 | .var cs=>cur.size=cs.length∧gV w ok aa hp cur 0 cs
 | .row e _ xs=>(∀ x∈xs,x.length=e)∧xs.length*e≤cur.size∧∀ (i:Nat) (x:List SV),xs[i]?=some x→gV w ok aa hp cur (i*e) x
def mB (w:World) (ok:Nat→Prop) (aa:Nat→Option Nat) (hp:Hp) (id:Nat) (hb:HB):Prop:=
 (aa id=none∧∃ e az,hb = .row e az [])∨∃ b cur t,aa id=some b∧w.heap[b]?=some (.cells cur t (0,0))∧kf w ok aa hp cur hb
def vi (w w':World) (b:Nat):Prop:=∀ cur t,w.heap[b]?=some (.cells cur t (0,0))→∃ cur' t',w'.heap[b]?=some (.cells cur' t' (0,0))∧cur'.size=cur.size
def jC (w w':World) (r r':Option Nat):HB→HB→Prop
 | .var _,.var _=>r'=r
 | .row e az _,.row e' bL _=>az≤bL∧(bL=az→e'=e∧r'=r∧∀ b,r=some b→vi w w' b)
 | _,_=>False
theorem jC.refl (w:World) (r:Option Nat) (hb:HB):jC w w r r hb hb:=by
 cases hb
 ·rfl
 ·exact ⟨Nat.le_refl _,fun _=>⟨rfl,rfl,fun _ _ cur t h=>⟨cur,t,h,rfl⟩⟩⟩
theorem vi.trans {w w1 w2:World} {b:Nat} (h:vi w w1 b) (k:vi w1 w2 b):vi w w2 b:=fun cur t hc=>by
 obtain ⟨c1,t1,h1,s1⟩:=h cur t hc
 obtain ⟨c2,t2,h2,s2⟩:=k c1 t1 h1
 exact ⟨c2,t2,h2,s2.trans s1⟩
theorem jC.trans {w w1 w2:World} {r r1 r2:Option Nat} {a b c:HB} (h:jC w w1 r r1 a b) (k:jC w1 w2 r1 r2 b c):jC w w2 r r2 a c:=by
 cases a <;> cases b <;> cases c <;> simp only [jC] at h k ⊢
 ·exact k.trans h
 ·obtain ⟨h1,h2⟩:=h
  obtain ⟨k1,k2⟩:=k
  refine ⟨Nat.le_trans h1 k1,fun he=>?_⟩
  obtain ⟨rfl,rfl,s1⟩:=h2 (by omega)
  obtain ⟨rfl,rfl,s2⟩:=k2 (by omega)
  exact ⟨rfl,rfl,fun b hb=>(s1 b hb).trans (s2 b hb)⟩
theorem jn.of {w w':World} {ok fS:Nat→Prop} {aa aK:Nat→Option Nat} {hp aE:Hp} (hro:∀ b,ok b→b<w.heap.size→fS b∧w'.heap[b]?=w.heap[b]?)
 (h:∀ id hb,hp id=some hb→∃ hb',aE id=some hb'∧jC w w' (aa id) (aK id) hb hb'):jn w w' ok fS aa aK hp aE where
 ro:=hro
 var id cs hq:=by
  obtain ⟨hb',h1,h2⟩:=h id _ hq
  cases hb' with
  | var cs'=>exact ⟨cs',h1,h2⟩
  | row=>exact h2.elim
 row id e az xs hq:=by
  obtain ⟨hb',h1,h2⟩:=h id _ hq
  cases hb' with
  | var cs'=>exact h2.elim
  | row e' bL xs'=>exact ⟨e',bL,xs',h1,h2.1,h2.2⟩
theorem gV.mono {w w':World} {ok fS:Nat→Prop} {aa aK:Nat→Option Nat} {hp aE:Hp} (h:jn w w' ok fS aa aK hp aE) {cur:Array Value} {off:Nat} {cs:List SV}
 (hc:gV w ok aa hp cur off cs):gV w' fS aK aE cur off cs:=fun j y hy=>by
 obtain ⟨v,h1,h2,h3⟩:=hc j y hy
 exact ⟨v,h1,h2,h3.mono h⟩
theorem kf.mono {w w':World} {ok fS:Nat→Prop} {aa aK:Nat→Option Nat} {hp aE:Hp} (h:jn w w' ok fS aa aK hp aE) {cur:Array Value} {hb:HB}
 (hc:kf w ok aa hp cur hb):kf w' fS aK aE cur hb:=by
 cases hb
 ·exact ⟨hc.1,hc.2.mono h⟩
 ·exact ⟨hc.1,hc.2.1,fun i x hx=>(hc.2.2 i x hx).mono h⟩
structure Fr (C:Ctx) (w:World):Prop where
 os:w.os=C.w0.os
 tape:w.tape=C.w0.tape
 output:w.output=C.w0.output
 size:C.w0.heap.size≤w.heap.size
 block:∀ b,b<C.w0.heap.size→¬ C.Ia b→w.heap[b]?=C.w0.heap[b]?
structure cn (C:Ctx) (hp:Hp) (w:World) (aa:Nat→Option Nat):Prop where
 heap:∀ id hb,hp id=some hb→mB w (aI C aa hp) aa hp id hb
 inj:∀ id id' b,(hp id).isSome=true→(hp id').isSome=true→aa id=some b→aa id'=some b→id=id'
 own:∀ id b,(hp id).isSome=true→aa id=some b→(((C.h0 id).isSome=true∧C.Dk id=some b∧C.Ia b)∨C.w0.heap.size≤b)∧b<w.heap.size
 fr:Fr C w
 jS:∀ id hb hb0,hp id=some hb→C.h0 id=some hb0→jC C.w0 w (C.Dk id) (aa id) hb0 hb
structure kg (C:Ctx) (en:Nat→SV) (hp:Hp) (a:Act) (w:World) (aa:Nat→Option Nat):Prop where
 mem:cn C hp w aa
 env:∀ n,Rp w (aI C aa hp) aa hp (en n) (a.tmps.getD n undef)
 size:a.tmps.size=C.N
 defers:a.defers=[]
def up {α:Type} (f:Nat→α) (n:Nat) (x:α):Nat→α:=fun m=>if m=n then x else f m
@[simp] theorem cr {α:Type} (f:Nat→α) (n:Nat) (x:α):up f n x n=x:=by simp [up]
theorem gA {α:Type} (f:Nat→α) {n m:Nat} (x:α) (h:m≠n):up f n x m=f m:=by simp [up,h]
structure Step (C:Ctx) (hp aE:Hp) (w w':World) (aa aK:Nat→Option Nat):Prop where
 mem:cn C aE w' aK
 jS:jn w w' (aI C aa hp) (aI C aK aE) aa aK hp aE
theorem kg.step {C:Ctx} {en:Nat→SV} {hp aE:Hp} {a:Act} {w w':World} {aa aK:Nat→Option Nat} (R:kg C en hp a w aa) (S:Step C hp aE w w' aa aK):kg C en aE a w' aK:=
 ⟨S.mem,fun n=>(R.env n).mono S.jS,R.size,R.defers⟩
theorem Step.trans {C:Ctx} {hp FY zn:Hp} {w w1 w2:World} {aa Aa Ik:Nat→Option Nat} (h:Step C hp FY w w1 aa Aa) (k:Step C FY zn w1 w2 Aa Ik)
 (hs:w.heap.size≤w1.heap.size):Step C hp zn w w2 aa Ik:=by
 refine ⟨k.mem,jn.of (fun b hb hlt=>?_) (fun id hb hq=>?_)⟩
 ·obtain ⟨h1,h2⟩:=h.jS.ro b hb hlt
  obtain ⟨k1,k2⟩:=k.jS.ro b h1 (by omega)
  exact ⟨k1,k2.trans h2⟩
 ·cases hb with
  | var cs=>
    obtain ⟨Md,a1,a2⟩:=h.jS.var id cs hq
    obtain ⟨yD,b1,b2⟩:=k.jS.var id Md a1
    exact ⟨_,b1,b2.trans a2⟩
  | row e az xs=>
    obtain ⟨e1,JF,JL,a1,a2,a3⟩:=h.jS.row id e az xs hq
    obtain ⟨e2,Aw,vh,b1,b2,b3⟩:=k.jS.row id e1 JF JL a1
    refine ⟨_,b1,jC.trans (b:=.row e1 JF JL) ⟨a2,a3⟩ ⟨b2,b3⟩⟩
theorem cn.quiet {C:Ctx} {hp:Hp} {w w':World} {aa:Nat→Option Nat} (R:cn C hp w aa) (hh:w'.heap=w.heap) (ho:w'.os=w.os) (ht:w'.tape=w.tape) (hu:w'.output=w.output) :
 Step C hp hp w w' aa aa:=by
 have E:jn w w' (aI C aa hp) (aI C aa hp) aa aa hp hp:=jn.of (fun b h _=>⟨h,by rw [hh]⟩) (fun id hb hq=>⟨hb,hq,by
  have:=jC.refl w (aa id) hb
  cases hb
  ·exact this
  ·exact ⟨this.1,fun h=>⟨(this.2 h).1,(this.2 h).2.1,fun b hb cur t hc=>⟨cur,t,by rw [hh];exact hc,rfl⟩⟩⟩⟩)
 refine ⟨⟨fun id hb hq=>?_,R.inj,fun id b h1 h2=>by rw [hh];exact R.own id b h1 h2,⟨ho.trans R.fr.os,ht.trans R.fr.tape,hu.trans R.fr.output,by rw [hh];exact R.fr.size,fun b h1 h2=>by rw [hh];exact R.fr.block b h1 h2⟩,fun id hb hb0 h1 h2=>?_⟩,E⟩
 ·rcases R.heap id hb hq with h | ⟨b,cur,t,h1,h2,h3⟩
  ·exact .inl h
  ·exact .inr ⟨b,cur,t,h1,by rw [hh];exact h2,h3.mono E⟩
 ·have h:=R.jS id hb hb0 h1 h2
  cases hb0 <;> cases hb <;> simp only [jC] at h ⊢
  ·exact h
  ·refine ⟨h.1,fun he=>⟨(h.2 he).1,(h.2 he).2.1,fun b hb cur t hc=>?_⟩⟩
   rw [hh];exact (h.2 he).2.2 b hb cur t hc
theorem cn.replace {C:Ctx} {hp:Hp} {w w':World} {aa:Nat→Option Nat} (R:cn C hp w aa) (id:Nat) (hb':HB) (b':Nat) (cur':Array Value) (t':TypeId)
 (ho:w'.os=w.os) (ht:w'.tape=w.tape) (hu:w'.output=w.output) (hs:w.heap.size≤w'.heap.size)
 (iN:w'.heap[b']?=some (.cells cur' t' (0,0))) (wh:∀ k,k<w.heap.size→k≠b'→w'.heap[k]?=w.heap[k]?)
 (hown:((hp id).isSome=true∧aa id=some b')∨w.heap.size≤b')
 (FQ:∀ hb,hp id=some hb→jC w w' (aa id) (some b') hb hb')
 (qA:hp id=none→C.h0 id=none)
 (hh:kf w (aI C aa hp) aa hp cur' hb') :
 Step C hp (up hp id (some hb')) w w' aa (up aa id (some b')):=by
 have hne:∀ fI b,(hp fI).isSome=true→aa fI=some b→fI≠id→b≠b':=fun fI b h1 h2 h3 he=>by
  subst he
  rcases hown with ⟨g1,g2⟩ | g
  ·exact h3 (R.inj fI id b h1 g1 h2 g2)
  ·have:=(R.own fI b h1 h2).2;omega
 have hok:∀ b,aI C aa hp b→b<w.heap.size→aI C (up aa id (some b')) (up hp id (some hb')) b∧w'.heap[b]?=w.heap[b]?:=fun b hb hlt=>by
  have lQ:b≠b':=fun he=>by
   subst he
   rcases hown with ⟨g1,g2⟩ | g
   ·exact hb.2 id g1 g2
   ·omega
  refine ⟨⟨hb.1,fun fI h2=>?_⟩,wh b hlt lQ⟩
  by_cases h:fI=id
  ·subst h;rw [cr];intro he;cases he;exact lQ rfl
  ·rw [gA _ _ h];rw [gA _ _ h] at h2;exact hb.2 fI h2
 have E:jn w w' (aI C aa hp) (aI C (up aa id (some b')) (up hp id (some hb'))) aa (up aa id (some b')) hp (up hp id (some hb')):=by
  refine jn.of hok (fun fI hb hq=>?_)
  by_cases h:fI=id
  ·subst h;exact ⟨hb',cr _ _ _,by rw [cr];exact FQ hb hq⟩
  ·refine ⟨hb,by rw [gA _ _ h];exact hq,?_⟩
   rw [gA _ _ h]
   cases hb with
   | var cs=>rfl
   | row e az xs=>exact ⟨Nat.le_refl _,fun _=>⟨rfl,rfl,fun b hb cur t hc=>⟨cur,t,by
      rw [wh b (Array.getElem?_eq_some_iff.1 hc).1 (hne fI b (by simp [hq]) hb h)];exact hc,rfl⟩⟩⟩
 refine ⟨⟨fun fI hb hq=>?_,fun uy fI b h1 h2 h3 h4=>?_,fun fI b h1 h2=>?_,⟨ho.trans R.fr.os,ht.trans R.fr.tape,hu.trans R.fr.output,Nat.le_trans R.fr.size hs,fun b h1 h2=>?_⟩,fun fI hb hb0 h1 h2=>?_⟩,E⟩
 ·by_cases h:fI=id
  ·subst h
   rw [cr] at hq;cases hq
   exact .inr ⟨b',cur',t',cr _ _ _,iN,hh.mono E⟩
  ·rw [gA _ _ h] at hq
   rcases R.heap fI hb hq with g | ⟨b,cur,t,g1,g2,g3⟩
   ·exact .inl ⟨by rw [gA _ _ h];exact g.1,g.2⟩
   ·refine .inr ⟨b,cur,t,by rw [gA _ _ h];exact g1,?_,g3.mono E⟩
    rw [wh b (Array.getElem?_eq_some_iff.1 g2).1 (hne fI b (by simp [hq]) g1 h)];exact g2
 ·by_cases e1:uy=id <;> by_cases e2:fI=id
  ·rw [e1,e2]
  ·subst e1
   rw [cr] at h3;cases h3
   rw [gA _ _ e2] at h2 h4
   exact absurd rfl (hne fI b' h2 h4 e2)
  ·subst e2
   rw [cr] at h4;cases h4
   rw [gA _ _ e1] at h1 h3
   exact absurd rfl (hne uy b' h1 h3 e1)
  ·rw [gA _ _ e1] at h1 h3;rw [gA _ _ e2] at h2 h4
   exact R.inj uy fI b h1 h2 h3 h4
 ·by_cases h:fI=id
  ·subst h
   rw [cr] at h2;cases h2
   refine ⟨?_,(Array.getElem?_eq_some_iff.1 iN).1⟩
   rcases hown with ⟨g1,g2⟩ | g
   ·exact (R.own _ _ g1 g2).1
   ·exact .inr (Nat.le_trans R.fr.size g)
  ·rw [gA _ _ h] at h1 h2
   obtain ⟨g1,g2⟩:=R.own fI b h1 h2
   exact ⟨g1,by omega⟩
 ·have lQ:b≠b':=fun he=>by
   subst he
   rcases hown with ⟨g1,g2⟩ | g
   ·rcases (R.own _ _ g1 g2).1 with g | g
    ·exact h2 g.2.2
    ·omega
   ·have:=R.fr.size;omega
  rw [wh b (by have:=R.fr.size;omega) lQ]
  exact R.fr.block b h1 h2
 ·by_cases h:fI=id
  ·subst h
   rw [cr] at h1;cases h1
   rw [cr]
   cases hq:hp fI with
   | none=>rw [qA hq] at h2;cases h2
   | some hb=>exact (R.jS fI hb hb0 hq h2).trans (FQ hb hq)
  ·rw [gA _ _ h] at h1 ⊢
   refine (R.jS fI hb hb0 h1 h2).trans ?_
   cases hb with
   | var cs=>rfl
   | row e az xs=>exact ⟨Nat.le_refl _,fun _=>⟨rfl,rfl,fun b hb cur t hc=>⟨cur,t,by
      rw [wh b (Array.getElem?_eq_some_iff.1 hc).1 (hne fI b (by simp [h1]) hb h)];exact hc,rfl⟩⟩⟩
theorem kg.put {C:Ctx} {en:Nat→SV} {hp:Hp} {a:Act} {w:World} {aa:Nat→Option Nat} (R:kg C en hp a w aa) {d:Nat} (hd:d<C.N) {s:SV} {v:Value}
 (h:Rp w (aI C aa hp) aa hp s v):kg C (up en d s) hp (a.put (some d) v) w aa:=by
 refine ⟨R.mem,fun n=>?_,?_,R.defers⟩
 ·simp only [Act.put,Array.getD_eq_getD_getElem?,Array.getElem?_setIfInBounds]
  have hn:=R.env n
  rw [Array.getD_eq_getD_getElem?] at hn
  by_cases e:n=d
  ·subst e
   rw [cr]
   have hl:n<a.tmps.size:=by rw [R.size];exact hd
   simp [hl];exact h
  ·rw [gA _ _ e,if_neg (Ne.symm e)];exact hn
 ·simp [Act.put,R.size]
theorem cn.same {C:Ctx} {hp:Hp} {w:World} {aa:Nat→Option Nat} (R:cn C hp w aa):Step C hp hp w w aa aa:=R.quiet rfl rfl rfl rfl
theorem cn.make {C:Ctx} {hp:Hp} {w w1:World} {aa:Nat→Option Nat} (R:cn C hp w aa) (hw1:w1.heap=w.heap) (ho:w1.os=w.os) (ht:w1.tape=w.tape) (hu:w1.output=w.output) (id:Nat) (hb:HB) (cur:Array Value) (t:TypeId)
 (hfr:hp id=none) (qA:C.h0 id=none) (hh:kf w (aI C aa hp) aa hp cur hb) :
 Step C hp (up hp id (some hb)) w (w1.alloc (.cells cur t)) aa (up aa id (some w.heap.size)):=by
 refine R.replace id hb w.heap.size cur t (show w1.os=_ from ho) (show w1.tape=_ from ht) (show w1.output=_ from hu) ?_ ?_ ?_ (.inr (Nat.le_refl _)) (fun hb' hq=>by rw [hfr] at hq;cases hq) (fun _=>qA) hh
 ·simp [hw1]
 ·have:=heap_alloc_new w1 (.cells cur t);rwa [hw1] at this
 ·intro k hk _
  have:=heap_alloc_old w1 (.cells cur t) k (by rw [hw1];exact hk);rw [this,hw1]
end Go.aJ

namespace Go.aJ
open Go
def cj (P:Program) (t:TypeId):Option Nat:=(P.info? t).map (·.size)
def fD (P:Program) (t:TypeId):Option Bool:=(P.underlying t).map fun
 | .struct _ | .array _ _=>true
 | _=>false
theorem uO {P:Program} {t:TypeId} {b:Bool} (h:fD P t=some b) (w:World):(isAgg t).run P w = .ok b w:=by
 unfold fD at h
 cases hu:P.underlying t with
 | none=>simp [hu] at h
 | some d=>
   simp only [hu,Option.map_some,Option.some.injEq] at h
   simp only [isAgg,Sem.run_bind,run_underlying hu,Result.andThen_ok]
   cases d <;>(simp only at h;subst h;rfl)
theorem jB {P:Program} {t:TypeId} {n:Nat} (h:cj P t=some n) (w:World):(sizeOf t).run P w = .ok n w:=by
 unfold cj at h
 cases hu:P.info? t with
 | none=>simp [hu] at h
 | some i=>simp only [hu,Option.map_some,Option.some.injEq] at h;simp [sizeOf,typeInfo,hu,h]
def DL (w:World) (a:Addr) (vs:List Value):Prop:=∀ (j:Nat) (v:Value),vs[j]?=some v→w.cell? (a.add j)=some v
theorem Iu {P:Program} {t:TypeId} {w:World} {a:Addr} {v:Value} (h:fD P t=some false) (hc:w.cell? a=some v):(loadVar t a).run P w = .ok v w:=by
 simp [loadVar,uO h,hc]
theorem Iv {P:Program} {t:TypeId} {w:World} {a:Addr} {vs:List Value} (h:fD P t=some true) (hs:cj P t=some vs.length) (hc:DL w a vs):(loadVar t a).run P w = .ok (.agg vs.toArray) w:=by
 simp [loadVar,uO h,jB hs,run_loadCells_list w a vs hc]
theorem add_lit (b o j:Nat):(⟨b,o,none⟩:Addr).add j=⟨b,o+j,none⟩:=by unfold Addr.add;split <;> simp_all
theorem qn {w:World} {b:Nat} {cur:Array Value} {t:TypeId} {fr:Nat×Nat} (h:w.heap[b]?=some (.cells cur t fr)) (o:Nat):w.cell? ⟨b,o,none⟩=cur[o]?:=by
 simp [World.cell?,h]
section
variable {w:World} {ok:Nat→Prop} {aa:Nat→Option Nat} {hp:Hp}
theorem gV.sub {cur:Array Value} {off:Nat} {cs:List SV} (h:gV w ok aa hp cur off cs) (k n:Nat):gV w ok aa hp cur (off+k) ((cs.drop k).take n):=fun j y hy=>by
 rw [List.getElem?_take] at hy
 split at hy
 ·rw [List.getElem?_drop] at hy
  obtain ⟨v,h1,h2⟩:=h (k+j) y hy
  exact ⟨v,by rw [← Nat.add_assoc] at h1;exact h1,h2⟩
 ·cases hy
theorem gV.vals {cur:Array Value} {off:Nat} {cs:List SV} (h:gV w ok aa hp cur off cs) :
 ∃ vs:List Value,vs.length=cs.length∧(∀ (j:Nat) (u:Value),vs[j]?=some u→cur[off+j]?=some u∧u.oneCell'=true)∧∀ (j:Nat) (y:SV),cs[j]?=some y→Rp w ok aa hp y (vs.getD j undef):=by
 refine ⟨(List.range cs.length).map fun j=>cur.getD (off+j) undef,by simp,fun j u hu=>?_,fun j y hy=>?_⟩
 ·have hj:j<cs.length:=by have:=(List.getElem?_eq_some_iff.1 hu).1;simpa using this
  obtain ⟨v,h1,h2,_⟩:=h j _ (List.getElem?_eq_getElem hj)
  simp only [List.getElem?_map,List.getElem?_range hj,Option.map_some,Option.some.injEq,Array.getD_eq_getD_getElem?,h1,Option.getD_some] at hu
  subst hu;exact ⟨h1,h2⟩
 ·have hj:j<cs.length:=(List.getElem?_eq_some_iff.1 hy).1
  obtain ⟨v,h1,_,h3⟩:=h j y hy
  simp only [List.getD_eq_getElem?_getD,List.getElem?_map,List.getElem?_range hj,Option.map_some,Option.getD_some,Array.getD_eq_getD_getElem?,h1]
  exact h3
theorem gV.load {P:Program} {cur:Array Value} {off:Nat} {cs:List SV} {b:Nat} {t0:TypeId} {fr:Nat×Nat} (iN:w.heap[b]?=some (.cells cur t0 fr)) (h:gV w ok aa hp cur off cs) {t:TypeId} (ha:fD P t=some true) (hs:cj P t=some cs.length) :
 ∃ v,(loadVar t ⟨b,off,none⟩).run P w = .ok v w∧Rp w ok aa hp (.agg cs) v:=by
 obtain ⟨vs,h1,h2,h3⟩:=h.vals
 refine ⟨.agg vs.toArray,Iv ha (by rw [h1];exact hs) (fun j u hu=>?_),.agg cs vs h1 (fun j u hu=>(h2 j u hu).2) h3⟩
 rw [add_lit,qn iN];exact (h2 j u hu).1
theorem gV.Hg {P:Program} {cur:Array Value} {off:Nat} {cs:List SV} {b:Nat} {t0:TypeId} {fr:Nat×Nat} (iN:w.heap[b]?=some (.cells cur t0 fr)) (h:gV w ok aa hp cur off cs) {t:TypeId} (ha:fD P t=some false) {k:Nat} {y:SV} (hy:cs[k]?=some y) :
 ∃ v,(loadVar t ⟨b,off+k,none⟩).run P w = .ok v w∧Rp w ok aa hp y v:=by
 obtain ⟨v,h1,_,h3⟩:=h k y hy
 exact ⟨v,Iu ha (by rw [qn iN];exact h1),h3⟩
end
section
variable {P:Program} {C:Ctx} {hp:Hp} {w:World} {aa:Nat→Option Nat}
theorem SD (R:cn C hp w aa) {id off:Nat} {v:Value} (hv:Rp w (aI C aa hp) aa hp (.ptr id off) v) {cs:List SV} (hq:hp id=some (.var cs)) {t:TypeId} {n:Nat} (hs:cj P t=some n) (ha:fD P t=some true) (hl:off+n≤cs.length) :
 ∃ u,(Instr.loadAt t v).run P w = .ok u w∧Rp w (aI C aa hp) aa hp (.agg ((cs.drop off).take n)) u:=by
 cases hv with
 | ptr _ _ _ h1 h0 h=>
   obtain ⟨b,hb,rfl⟩:=h cs hq
   rcases R.heap id _ hq with ⟨_,_,_,h'⟩ | ⟨b',cur,t0,g1,g2,g3⟩
   ·cases h'
   ·rw [hb] at g1;cases g1
    obtain ⟨u,hu,hr⟩:=gV.load (P:=P) (t:=t) g2 (g3.2.sub off n) ha (by rw [hs,List.length_take,List.length_drop];congr 1;omega)
    refine ⟨u,?_,hr⟩
    simp only [Nat.zero_add] at hu
    simp [Instr.loadAt,Instr.sureAddr,hu]
theorem SE (R:cn C hp w aa) {id off:Nat} {v:Value} (hv:Rp w (aI C aa hp) aa hp (.ptr id off) v) {cs:List SV} (hq:hp id=some (.var cs)) {t:TypeId} (ha:fD P t=some false) {y:SV} (hy:cs[off]?=some y) :
 ∃ u,(Instr.loadAt t v).run P w = .ok u w∧Rp w (aI C aa hp) aa hp y u:=by
 cases hv with
 | ptr _ _ _ h1 h0 h=>
   obtain ⟨b,hb,rfl⟩:=h cs hq
   rcases R.heap id _ hq with ⟨_,_,_,h'⟩ | ⟨b',cur,t0,g1,g2,g3⟩
   ·cases h'
   ·rw [hb] at g1;cases g1
    obtain ⟨u,hu,hr⟩:=gV.Hg (P:=P) (t:=t) g2 g3.2 ha hy
    refine ⟨u,?_,hr⟩
    simp only [Nat.zero_add] at hu
    simp [Instr.loadAt,Instr.sureAddr,hu]
theorem SB (R:cn C hp w aa) {id az i off:Nat} {v:Value} (hv:Rp w (aI C aa hp) aa hp (.bX id az i off) v) {e:Nat} {xs:List (List SV)} (hq:hp id=some (.row e az xs)) {t:TypeId} {n:Nat} (hs:cj P t=some n) (ha:fD P t=some true)
 {x:List SV} (hx:xs[i]?=some x) (hl:off+n≤e) :
 ∃ u,(Instr.loadAt t v).run P w = .ok u w∧Rp w (aI C aa hp) aa hp (.agg ((x.drop off).take n)) u:=by
 cases hv with
 | bX _ _ _ _ _ h1 h0 hle h=>
   obtain ⟨b,hb,rfl⟩:=h e xs hq
   rcases R.heap id _ hq with ⟨hn,_⟩ | ⟨b',cur,t0,g1,g2,g3⟩
   ·rw [hb] at hn;cases hn
   ·rw [hb] at g1;cases g1
    have ru:=g3.1 x (List.mem_of_getElem? hx)
    obtain ⟨u,hu,hr⟩:=gV.load (P:=P) (t:=t) g2 ((g3.2.2 i x hx).sub off n) ha (by rw [hs,List.length_take,List.length_drop];congr 1;omega)
    refine ⟨u,?_,hr⟩
    simp [Instr.loadAt,Instr.sureAddr,hu]
theorem SC (R:cn C hp w aa) {id az i off:Nat} {v:Value} (hv:Rp w (aI C aa hp) aa hp (.bX id az i off) v) {e:Nat} {xs:List (List SV)} (hq:hp id=some (.row e az xs)) {t:TypeId} (ha:fD P t=some false)
 {x:List SV} (hx:xs[i]?=some x) {y:SV} (hy:x[off]?=some y) :
 ∃ u,(Instr.loadAt t v).run P w = .ok u w∧Rp w (aI C aa hp) aa hp y u:=by
 cases hv with
 | bX _ _ _ _ _ h1 h0 hle h=>
   obtain ⟨b,hb,rfl⟩:=h e xs hq
   rcases R.heap id _ hq with ⟨hn,_⟩ | ⟨b',cur,t0,g1,g2,g3⟩
   ·rw [hb] at hn;cases hn
   ·rw [hb] at g1;cases g1
    obtain ⟨u,hu,hr⟩:=gV.Hg (P:=P) (t:=t) g2 (g3.2.2 i x hx) ha hy
    refine ⟨u,?_,hr⟩
    simp [Instr.loadAt,Instr.sureAddr,hu]
theorem SF {cs:List RV} {v:Value} (hv:RO w (aI C aa hp) (.rop cs) v) {t:TypeId} {n:Nat} (hs:cj P t=some n) (ha:fD P t=some true) (hl:n≤cs.length) :
 ∃ u,(Instr.loadAt t v).run P w = .ok u w∧Rp w (aI C aa hp) aa hp (.agg ((cs.take n).map .rv)) u:=by
 cases hv with
 | rop _ a c hr h1 hy=>
   refine ⟨.agg ((List.range n).map c).toArray,?_,.agg _ _ (by simp;omega) (fun j u hu=>?_) (fun j y uw=>?_)⟩
   ·have:=Iv (P:=P) (t:=t) (w:=w) (a:=a) (vs:=(List.range n).map c) ha (by simpa using hs) (fun j u hu=>?_)
    ·simp [Instr.loadAt,Instr.sureAddr,this]
    ·have hj:j<n:=by have:=(List.getElem?_eq_some_iff.1 hu).1;simpa using this
     rw [List.getElem?_map,List.getElem?_range hj] at hu
     simp only [Option.map_some,Option.some.injEq] at hu
     subst hu
     exact (hr j _ (List.getElem?_eq_getElem (by omega))).2
   ·have hj:j<n:=by have:=(List.getElem?_eq_some_iff.1 hu).1;simpa using this
    rw [List.getElem?_map,List.getElem?_range hj] at hu
    simp only [Option.map_some,Option.some.injEq] at hu
    subst hu
    have hg:=List.getElem?_eq_getElem (l:=cs) (i:=j) (by omega)
    exact (hy j _ hg).xd (h1 j _ hg)
   ·rw [List.getElem?_map,List.getElem?_take] at uw
    split at uw
    ·rename_i hj
     cases hc:cs[j]? with
     | none=>simp [hc] at uw
     | some z=>
       simp only [hc,Option.map_some,Option.some.injEq] at uw
       subst uw
       refine .rv _ _ ?_
       simp only [List.getD_eq_getElem?_getD,List.getElem?_map,List.getElem?_range hj,Option.map_some,Option.getD_some]
       exact hy j z hc
    ·cases uw
theorem SG {cs:List RV} {v:Value} (hv:RO w (aI C aa hp) (.rop cs) v) {t:TypeId} (ha:fD P t=some false) {y:RV} (hl:cs[0]?=some y) :
 ∃ u,(Instr.loadAt t v).run P w = .ok u w∧Rp w (aI C aa hp) aa hp (.rv y) u:=by
 cases hv with
 | rop _ a c hr h1 hy=>
   have h:=(hr 0 y hl).2
   have:=Iu (P:=P) (t:=t) ha (by simpa [Addr.add] using h)
   exact ⟨c 0,by simp [Instr.loadAt,Instr.sureAddr,this],.rv _ _ (hy 0 y hl)⟩
def mG:SV→Option (List SV)
 | .agg cs=>some cs
 | .rv (.agg _)=>none
 | .dead=>none
 | .aO _=>none
 | s=>some [s]
theorem Rp.one {ok:Nat→Prop} {s:SV} {v:Value} (h:Rp w ok aa hp s v) (h1:s.one=true):v.oneCell'=true:=by
 cases h with
 | rv r v h=>exact h.xd h1
 | ptr _ _ _ g=>exact g
 | bX _ _ _ _ _ g=>exact g
 | row _ _ _ _ g=>exact g
 | win _ _ _ _ _ g=>exact g
 | fn=>rfl
 | fK=>rfl
 | bW=>rfl
 | dead=>cases h1
 | agg=>cases h1
 | aO=>cases h1
theorem Value.LL {v:Value} (h:v.oneCell'=true):v.cells = #[v]:=by
 cases v <;> first | rfl | (simp [Value.oneCell'] at h)
theorem Rp.cells {ok:Nat→Prop} {s:SV} {v:Value} (h:Rp w ok aa hp s v) {cs:List SV} (hc:mG s=some cs) :
 ∃ vs:List Value,v.cells=vs.toArray∧vs.length=cs.length∧(∀ (j:Nat) (u:Value),vs[j]?=some u→u.oneCell'=true)∧∀ (j:Nat) (y:SV),cs[j]?=some y→Rp w ok aa hp y (vs.getD j undef):=by
 have single:s.one=true→cs=[s]→∃ vs:List Value,v.cells=vs.toArray∧vs.length=cs.length∧(∀ (j:Nat) (u:Value),vs[j]?=some u→u.oneCell'=true)∧∀ (j:Nat) (y:SV),cs[j]?=some y→Rp w ok aa hp y (vs.getD j undef):=by
  intro h1 he
  subst he
  refine ⟨[v],by rw [Value.LL (h.one h1)],rfl,fun j u hu=>?_,fun j y hy=>?_⟩
  ·cases j with
   | zero=>simp at hu;subst hu;exact h.one h1
   | succ j=>simp at hu
  ·cases j with
   | zero=>simp at hy;subst hy;exact h
   | succ j=>simp at hy
 cases s with
 | agg cs'=>
   simp only [mG,Option.some.injEq] at hc;subst hc
   cases h with
   | agg _ vs hl h1 hy=>exact ⟨vs,rfl,hl,h1,hy⟩
 | dead=>cases hc
 | aO=>cases hc
 | rv r=>cases r <;> first | (cases hc;done) | (simp only [mG,Option.some.injEq] at hc;exact single rfl hc.symm)
 | _=>simp only [mG,Option.some.injEq] at hc;exact single rfl hc.symm
theorem kf.JE {ok:Nat→Prop} {cs:List SV} {vs:List Value} (hl:vs.length=cs.length) (h1:∀ (j:Nat) (u:Value),vs[j]?=some u→u.oneCell'=true) (hy:∀ (j:Nat) (y:SV),cs[j]?=some y→Rp w ok aa hp y (vs.getD j undef)) :
 kf w ok aa hp vs.toArray (.var cs):=by
 refine ⟨by simpa using hl,fun j y hj=>?_⟩
 have hlt:j<vs.length:=by rw [hl];exact (List.getElem?_eq_some_iff.1 hj).1
 have hg:=List.getElem?_eq_getElem hlt
 refine ⟨vs[j],by simp [hg],h1 j _ hg,?_⟩
 have:=hy j y hj
 rwa [List.getD_eq_getElem?_getD,hg,Option.getD_some] at this
theorem SY (R:cn C hp w aa) {id:Nat} (hf:hp id=none) (nR:C.h0 id=none) (t:TypeId) {s:SV} {v:Value} (h:Rp w (aI C aa hp) aa hp s v) {cs:List SV} (hc:mG s=some cs) :
 ∃ u w' aK,(Instr.box t v).run P w = .ok u w'∧Step C hp (up hp id (some (.var cs))) w w' aa aK∧Rp w' (aI C aK (up hp id (some (.var cs)))) aK (up hp id (some (.var cs))) (.ptr id 0) u:=by
 obtain ⟨vs,h1,h2,h3,h4⟩:=h.cells hc
 have S:=R.make (w1:=w) rfl rfl rfl rfl id (.var cs) vs.toArray t hf nR (kf.JE h2 h3 h4)
 refine ⟨.pointer (some ⟨w.heap.size,0,none⟩),w.alloc (.cells vs.toArray t),_,?_,S,.ptr id 0 _ rfl (by simp) (fun cs' _=>⟨w.heap.size,cr _ _ _,rfl⟩)⟩
 simp [Instr.box,newVar,newRow,h1]
end
end Go.aJ

namespace Go.aJ
open Go
def splice {α:Type} (l:List α) (o:Nat) (x:List α):List α:=l.take o++x++l.drop (o+x.length)
theorem mU {α:Type} (l:List α) (o:Nat) (x:List α) (h:o+x.length≤l.length):(splice l o x).length=l.length:=by
 simp [splice];omega
theorem pF {α:Type} (l:List α) (o:Nat) (x:List α) (h:o+x.length≤l.length) (j:Nat) :
 (splice l o x)[j]?=if o≤j∧j<o+x.length then x[j - o]? else l[j]?:=by
 unfold splice
 by_cases h1:j<o
 ·rw [if_neg (by omega),List.append_assoc,List.getElem?_append_left (by simp;omega),List.getElem?_take,if_pos h1]
 ·by_cases h2:j<o+x.length
  ·rw [if_pos ⟨by omega,h2⟩,List.append_assoc,List.getElem?_append_right (by simp;omega),List.getElem?_append_left (by simp;omega)]
   congr 1;simp;omega
  ·rw [if_neg (by omega),List.getElem?_append_right (by simp;omega),List.getElem?_drop]
   congr 1;simp;omega
section
variable {w:World} {ok:Nat→Prop} {aa:Nat→Option Nat} {hp:Hp}
theorem gV.zQ {cur:Array Value} {off:Nat} {cs:List SV} (h:gV w ok aa hp cur off cs) {o:Nat} {cx:List SV} {vs:List Value} (hl:vs.length=cx.length) (ho:o+cx.length≤cs.length) (hsz:off+cs.length≤cur.size)
 (h1:∀ (j:Nat) (u:Value),vs[j]?=some u→u.oneCell'=true) (hy:∀ (j:Nat) (y:SV),cx[j]?=some y→Rp w ok aa hp y (vs.getD j undef)) :
 gV w ok aa hp (splice cur.toList (off+o) vs).toArray off (splice cs o cx):=fun j y hj=>by
 rw [pF _ _ _ ho] at hj
 simp only [List.getElem?_toArray]
 rw [pF _ _ _ (by simp;omega)]
 by_cases c:o≤j∧j<o+cx.length
 ·rw [if_pos c] at hj
  rw [if_pos (by omega),show off+j - (off+o)=j - o by omega]
  have hlt:j - o<vs.length:=by omega
  have hg:=List.getElem?_eq_getElem hlt
  refine ⟨vs[j - o],hg,h1 _ _ hg,?_⟩
  have:=hy _ y hj
  rwa [List.getD_eq_getElem?_getD,hg,Option.getD_some] at this
 ·rw [if_neg c] at hj
  rw [if_neg (by omega)]
  obtain ⟨v,g1,g2⟩:=h j y hj
  exact ⟨v,by simpa using g1,g2⟩
theorem gV.apart {cur:Array Value} {off:Nat} {cs:List SV} (h:gV w ok aa hp cur off cs) {o:Nat} {vs:List Value} (ho:o+vs.length≤cur.size) (hd:off+cs.length≤o∨o+vs.length≤off) :
 gV w ok aa hp (splice cur.toList o vs).toArray off cs:=fun j y hj=>by
 obtain ⟨v,g1,g2⟩:=h j y hj
 have hlt:j<cs.length:=(List.getElem?_eq_some_iff.1 hj).1
 refine ⟨v,?_,g2⟩
 simp only [List.getElem?_toArray]
 rw [pF _ _ _ (by simpa using ho),if_neg (by omega)]
 simpa using g1
end
theorem Iy {P:Program} {w:World} {b o:Nat} {cur:Array Value} {t0 t:TypeId} {v:Value} {vs:List Value} (hb:w.heap[b]?=some (.cells cur t0 (0,0))) (hv:v.cells=vs.toArray) (hs:cj P t=some vs.length)
 (hf:o+vs.length≤cur.size) (h1:∀ (j:Nat) (u:Value),vs[j]?=some u→u.oneCell'=true) :
 (storeVar t ⟨b,o,none⟩ v).run P w = .ok () (w.setRow b (splice cur.toList o vs).toArray):=by
 have h:=run_storeCells_at P b o t0 vs 0 cur w hb (by simpa using hf) (fun v hv=>by
  obtain ⟨j,hj⟩:=List.getElem?_of_mem hv
  exact h1 j v hj)
 simp only [Nat.add_zero] at h
 simp [storeVar,hv,jB hs,h,splice]
section
variable {P:Program} {C:Ctx} {hp:Hp} {w:World} {aa:Nat→Option Nat}
theorem cn.write (R:cn C hp w aa) {id b:Nat} {hb hb':HB} {cur cur':Array Value} {t0:TypeId} (hq:hp id=some hb) (hr:aa id=some b) (iN:w.heap[b]?=some (.cells cur t0 (0,0))) (hsz:cur'.size=cur.size)
 (hk:jC w w (some b) (some b) hb hb') (hh:kf w (aI C aa hp) aa hp cur' hb') :
 Step C hp (up hp id (some hb')) w (w.setRow b cur') aa (up aa id (some b)):=by
 refine R.replace id hb' b cur' t0 rfl rfl rfl (by simp) (setRow_heap w b cur cur' t0 _ iN) (fun k _ hk=>setRow_other w b k _ hk) (.inl ⟨by simp [hq],hr⟩) (fun hb2 nu=>?_) (fun h=>by rw [hq] at h;cases h) hh
 rw [hq] at nu;cases nu
 rw [hr]
 cases hb <;> cases hb' <;> simp only [jC] at hk ⊢
 refine ⟨hk.1,fun he=>⟨(hk.2 he).1,trivial,fun b2 hb2 c2 t2 mc=>?_⟩⟩
 cases hb2
 rw [iN] at mc;cases mc
 exact ⟨cur',t0,setRow_heap w b cur cur' t0 _ iN,hsz⟩
theorem Wc (R:cn C hp w aa) {id off:Nat} {p:Value} (hv:Rp w (aI C aa hp) aa hp (.ptr id off) p) {cs:List SV} (hq:hp id=some (.var cs)) {t:TypeId} {n:Nat} (hs:cj P t=some n)
 {s:SV} {v:Value} (h:Rp w (aI C aa hp) aa hp s v) {cx:List SV} (hc:mG s=some cx) (hn:cx.length=n) (hl:off+n≤cs.length) :
 ∃ w' aK,(Instr.storeAt t p v).run P w = .ok () w'∧Step C hp (up hp id (some (.var (splice cs off cx)))) w w' aa aK:=by
 obtain ⟨vs,k1,k2,k3,k4⟩:=h.cells hc
 cases hv with
 | ptr _ _ _ h1 h0 lQ=>
   obtain ⟨b,hb,rfl⟩:=lQ cs hq
   rcases R.heap id _ hq with ⟨_,_,_,h'⟩ | ⟨b',cur,t0,g1,g2,g3⟩
   ·cases h'
   ·rw [hb] at g1;cases g1
    have hsz:cur.size=cs.length:=g3.1
    have hrun:=Iy (P:=P) (t:=t) (o:=off) g2 k1 (by rw [hs,k2,hn]) (by omega) k3
    refine ⟨w.setRow b (splice cur.toList off vs).toArray,_,by simp [Instr.storeAt,Instr.sureAddr,hrun],R.write hq hb g2 ?_ rfl ?_⟩
    ·simp only [List.size_toArray];rw [mU _ _ _ (by simp;omega)];simp
    ·refine ⟨?_,?_⟩
     ·simp only [List.size_toArray];rw [mU _ _ _ (by simp;omega),mU _ _ _ (by omega)];simpa using hsz
     ·have:=g3.2.zQ (o:=off) k2 (by omega) (by omega) k3 k4
      simpa using this
theorem Wa (R:cn C hp w aa) {id az i off:Nat} {p:Value} (hv:Rp w (aI C aa hp) aa hp (.bX id az i off) p) {e:Nat} {xs:List (List SV)} (hq:hp id=some (.row e az xs)) {t:TypeId} {n:Nat} (hs:cj P t=some n)
 {s:SV} {v:Value} (h:Rp w (aI C aa hp) aa hp s v) {cx:List SV} (hc:mG s=some cx) (hn:cx.length=n) {x:List SV} (hx:xs[i]?=some x) (hl:off+n≤e) :
 ∃ w' aK,(Instr.storeAt t p v).run P w = .ok () w'∧Step C hp (up hp id (some (.row e az (xs.set i (splice x off cx))))) w w' aa aK:=by
 obtain ⟨vs,k1,k2,k3,k4⟩:=h.cells hc
 cases hv with
 | bX _ _ _ _ _ h1 h0 hle lQ=>
   obtain ⟨b,hb,rfl⟩:=lQ e xs hq
   rcases R.heap id _ hq with ⟨hn,_⟩ | ⟨b',cur,t0,g1,g2,g3⟩
   ·rw [hb] at hn;cases hn
   ·rw [hb] at g1;cases g1
    have ru:=g3.1 x (List.mem_of_getElem? hx)
    have hi:i<xs.length:=(List.getElem?_eq_some_iff.1 hx).1
    have WZ:i*e+e≤cur.size:=by
     have h1:(i+1)*e≤xs.length*e:=Nat.mul_le_mul_right _ hi
     have h2:=g3.2.1
     rw [Nat.add_mul] at h1;omega
    have hrun:=Iy (P:=P) (t:=t) (o:=i*e+off) g2 k1 (by rw [hs,k2,hn]) (by omega) k3
    have nU:(splice x off cx).length=e:=by rw [mU _ _ _ (by omega)];exact ru
    refine ⟨w.setRow b (splice cur.toList (i*e+off) vs).toArray,_,by simp [Instr.storeAt,Instr.sureAddr,hrun],R.write hq hb g2 ?_ ⟨Nat.le_refl _,fun _=>⟨rfl,rfl,fun _ _ c t hc=>⟨c,t,hc,rfl⟩⟩⟩ ?_⟩
    ·simp only [List.size_toArray];rw [mU _ _ _ (by simp;omega)];simp
    ·refine ⟨fun y hy=>?_,?_,fun j y hj=>?_⟩
     ·rcases List.mem_or_eq_of_mem_set hy with h | h
      ·exact g3.1 y h
      ·rw [h];exact nU
     ·simp only [List.size_toArray,List.length_set];rw [mU _ _ _ (by simp;omega)];simpa using g3.2.1
     ·rw [List.getElem?_set] at hj
      by_cases hij:i=j
      ·subst hij
       simp only [if_true,hi] at hj
       cases hj
       exact (g3.2.2 i x hx).zQ (o:=off) k2 (by omega) (by omega) k3 k4
      ·rw [if_neg hij] at hj
       have wE:=g3.1 y (List.mem_of_getElem? hj)
       refine (g3.2.2 j y hj).apart (by omega) ?_
       rcases Nat.lt_or_gt_of_ne hij with h | h
       ·right
        have:(i+1)*e≤j*e:=Nat.mul_le_mul_right _ h
        rw [Nat.add_mul] at this;omega
       ·left
        have:(j+1)*e≤i*e:=Nat.mul_le_mul_right _ h
        rw [Nat.add_mul] at this;omega
end
def vu:Value→Option RV
 | .int k n=>some (.int k n)
 | .bool b=>some (.bool b)
 | .string s=>some (.str s)
 | .pointer none=>some .lV
 | .slice none 0 0=>some .cv
 | .nilIface=>some .oa
 | .nilFunc=>some .pe
 | _=>none
theorem EI {v:Value} {r:RV} (h:vu v=some r) (w:World) (ok:Nat→Prop):RO w ok r v∧r.one=true:=by
 cases v with
 | int k n=>cases h;exact ⟨.int k n,rfl⟩
 | bool b=>cases h;exact ⟨.bool b,rfl⟩
 | string s=>cases h;exact ⟨.str s,rfl⟩
 | pointer a=>cases a <;> cases h;exact ⟨.lV,rfl⟩
 | slice a n c=>
   cases a with
   | some a=>cases h
   | none=>
     cases n with
     | succ n=>cases h
     | zero=>cases c with
       | succ c=>cases h
       | zero=>cases h;exact ⟨.cv,rfl⟩
 | nilIface=>cases h;exact ⟨.oa,rfl⟩
 | nilFunc=>cases h;exact ⟨.pe,rfl⟩
 | _=>cases h
def tY:List Value→Option (List RV)
 | []=>some []
 | v::r=>match vu v,tY r with
   | some x,some y=>some (x::y)
   | _,_=>none
theorem sx (w:World) (ok:Nat→Prop) (aa:Nat→Option Nat) (hp:Hp):∀ {vs:List Value} {rs:List RV},tY vs=some rs→vs.length=rs.length∧(∀ (j:Nat) (u:Value),vs[j]?=some u→u.oneCell'=true)∧
 ∀ (j:Nat) (y:SV),(rs.map SV.rv)[j]?=some y→Rp w ok aa hp y (vs.getD j undef)
 | [],rs,h=>by cases h;exact ⟨rfl,fun j u hu=>by simp at hu,fun j y hy=>by simp at hy⟩
 | v::r,rs,h=>by
   unfold tY at h
   cases hv:vu v with
   | none=>simp [hv] at h
   | some x=>
     cases hr:tY r with
     | none=>simp [hv,hr] at h
     | some y=>
       simp only [hv,hr,Option.some.injEq] at h
       subst h
       obtain ⟨h1,h2,h3⟩:=sx w ok aa hp hr
       obtain ⟨g1,g2⟩:=EI hv w ok
       refine ⟨by simp [h1],fun j u hu=>?_,fun j z hz=>?_⟩
       ·cases j with
        | zero=>simp at hu;subst hu;exact g1.xd g2
        | succ j=>simp at hu;exact h2 j u hu
       ·cases j with
        | zero=>simp at hz;subst hz;exact .rv _ _ g1
        | succ j=>simp only [List.map_cons,List.getElem?_cons_succ] at hz;exact h3 j z hz
def kE (P:Program) (t:TypeId):Option (List RV):=match P.info? t with
 | some i=>match i.zero with
   | some z=>tY z.cells.toList
   | none=>none
 | none=>none
section
variable {P:Program} {C:Ctx} {hp:Hp} {w:World} {aa:Nat→Option Nat}
theorem KX (R:cn C hp w aa) {id:Nat} (hf:hp id=none) (nR:C.h0 id=none) {t:TypeId} {z:List RV} (hz:kE P t=some z) (x:Value) :
 ∃ u w' aK,(Instr.alloc t true x).run P w = .ok u w'∧Step C hp (up hp id (some (.var (z.map .rv)))) w w' aa aK∧Rp w' (aI C aK (up hp id (some (.var (z.map .rv))))) aK (up hp id (some (.var (z.map .rv)))) (.ptr id 0) u:=by
 unfold kE at hz
 cases hi:P.info? t with
 | none=>simp [hi] at hz
 | some i=>
   cases jt:i.zero with
   | none=>simp [hi,jt] at hz
   | some zv=>
     simp only [hi,jt] at hz
     obtain ⟨h1,h2,h3⟩:=sx w (aI C aa hp) aa hp hz
     have S:=R.make (w1:=w) rfl rfl rfl rfl id (.var (z.map .rv)) zv.cells t hf nR (by
      have:=kf.JE (vs:=zv.cells.toList) (cs:=z.map .rv) (by simpa using h1) h2 h3
      simpa using this)
     refine ⟨.pointer (some ⟨w.heap.size,0,none⟩),w.alloc (.cells zv.cells t),_,?_,S,.ptr id 0 _ rfl (by simp) (fun cs' _=>⟨w.heap.size,cr _ _ _,rfl⟩)⟩
     simp [Instr.alloc,newVar,newRow,zeroValue,typeInfo,hi,jt]
end
end Go.aJ

namespace Go.aJ
open Go
theorem xR (a:Addr) (i j:Nat):(a.add i).add j=a.add (i+j):=by
 unfold Addr.add
 by_cases hi:i=0 <;> by_cases hj:j=0 <;> simp [hi,hj]
 omega
theorem xS (a:Addr) (i:Nat):(a.add i).block=a.block:=by unfold Addr.add;split <;> rfl
theorem RO.shift {w:World} {ok:Nat→Prop} {cs:List RV} {a:Addr} (h:RO w ok (.rop cs) (.pointer (some a))) (k:Nat):RO w ok (.rop (cs.drop k)) (.pointer (some (a.add k))):=by
 cases h with
 | rop _ _ c hr h1 hy=>
   refine .rop _ _ (fun j=>c (k+j)) (fun j y hj=>?_) (fun j y hj=>?_) (fun j y hj=>?_)
   ·rw [List.getElem?_drop] at hj
    rw [xS,xR]
    exact hr (k+j) y hj
   ·rw [List.getElem?_drop] at hj;exact h1 _ y hj
   ·rw [List.getElem?_drop] at hj;exact hy _ y hj
def nN (P:Program) (s:TypeId) (f:Nat):Option (Nat×TypeId):=match P.underlying s with
 | some (.struct fs)=>match fs[f]? with
   | some x=>some (x.offset,x.type)
   | none=>none
 | _=>none
section
variable {P:Program} {C:Ctx} {hp:Hp} {w:World} {aa:Nat→Option Nat}
theorem Dn {s:TypeId} {f off:Nat} {ft:TypeId} (h:nN P s f=some (off,ft)) {n:Nat} (hs:cj P ft=some (n+1)) (a:Addr):(Instr.fieldAt s (.pointer (some a)) f).run P w = .ok (.pointer (some (a.add off))) w:=by
 unfold nN at h
 split at h
 ·rename_i fs hu
  split at h
  ·rename_i x hx
   cases h
   simp [Instr.fieldAt,run_underlying hu,hx,Instr.sureAddr,fieldPlace,jB hs]
  ·cases h
 ·cases h
theorem Mx {id o:Nat} {v:Value} (hv:Rp w (aI C aa hp) aa hp (.ptr id o) v) {cs:List SV} (hq:hp id=some (.var cs)) {s:TypeId} {f off:Nat} {ft:TypeId} (h:nN P s f=some (off,ft)) {n:Nat} (hs:cj P ft=some (n+1)) :
 ∃ u,(Instr.fieldAt s v f).run P w = .ok u w∧Rp w (aI C aa hp) aa hp (.ptr id (o+off)) u:=by
 cases hv with
 | ptr _ _ _ h1 h0 lQ=>
   obtain ⟨b,hb,rfl⟩:=lQ cs hq
   refine ⟨_,Dn h hs _,.ptr _ _ _ rfl h0 (fun _ _=>⟨b,hb,by rw [add_lit]⟩)⟩
theorem Mw {id az i o:Nat} {v:Value} (hv:Rp w (aI C aa hp) aa hp (.bX id az i o) v) {e:Nat} {xs:List (List SV)} (hq:hp id=some (.row e az xs)) {s:TypeId} {f off:Nat} {ft:TypeId} (h:nN P s f=some (off,ft)) {n:Nat} (hs:cj P ft=some (n+1)) :
 ∃ u,(Instr.fieldAt s v f).run P w = .ok u w∧Rp w (aI C aa hp) aa hp (.bX id az i (o+off)) u:=by
 cases hv with
 | bX _ _ _ _ _ h1 h0 hle lQ=>
   obtain ⟨b,hb,rfl⟩:=lQ e xs hq
   refine ⟨_,Dn h hs _,.bX _ _ _ _ _ rfl h0 hle (fun e' xs' fX=>⟨b,hb,?_⟩)⟩
   rw [hq] at fX;cases fX
   rw [add_lit,Nat.add_assoc]
theorem My {cs:List RV} {v:Value} (hv:RO w (aI C aa hp) (.rop cs) v) {s:TypeId} {f off:Nat} {ft:TypeId} (h:nN P s f=some (off,ft)) {n:Nat} (hs:cj P ft=some (n+1)) :
 ∃ u,(Instr.fieldAt s v f).run P w = .ok u w∧Rp w (aI C aa hp) aa hp (.rv (.rop (cs.drop off))) u:=by
 have Cn:=hv
 cases hv with
 | rop _ a c hr h1 hy=>exact ⟨_,Dn h hs _,.rv _ _ (Cn.shift off)⟩
theorem Ad {t e:TypeId} {n:Nat} (ht:P.underlying t=some (.slice e)) (hs:cj P e=some n) (a:Addr) (len cap:Nat) (k:IntKind) (i:Int) (h0:0≤i) (h1:i<len) :
 (Instr.indexAt t (.slice (some a) len cap) (.int k i)).run P w = .ok (.pointer (some (a.add (i.toNat*n)))) w:=by
 simp [Instr.indexAt,run_underlying ht,asIntOf,h0,h1,jB hs]
theorem Dp {t e:TypeId} {n len:Nat} (ht:P.underlying t=some (.array len e)) (hs:cj P e=some n) (a:Addr) (k:IntKind) (i:Int) (h0:0≤i) (h1:i<len) :
 (Instr.indexAt t (.pointer (some a)) (.int k i)).run P w = .ok (.pointer (some (a.add (i.toNat*n)))) w:=by
 simp [Instr.indexAt,run_underlying ht,asIntOf,h0,h1,jB hs,Instr.sureAddr]
theorem Pt {t et:TypeId} {e:Nat} (ht:P.underlying t=some (.slice et)) (hs:cj P et=some e) {xs:List (List RV)} {v:Value} (hv:RO w (aI C aa hp) (.sl e xs) v) {k:IntKind} {i:Int} (h0:0≤i) (h1:i<xs.length) :
 ∃ u,(Instr.indexAt t v (.int k i)).run P w = .ok u w∧Rp w (aI C aa hp) aa hp (.rv (.rop ((xs[i.toNat]?).getD []))) u:=by
 cases hv with
 | sl _ _ a cap c g0 gc gm ge gr g1 gy=>
   cases a with
   | none=>obtain ⟨rfl,_⟩:=g0 rfl;simp at h1;omega
   | some a=>
     have hi:i.toNat<xs.length:=by omega
     have hx:=List.getElem?_eq_getElem hi
     refine ⟨_,Ad ht hs a _ _ k i h0 h1,.rv _ _ ?_⟩
     rw [hx,Option.getD_some]
     refine .rop _ _ (fun j=>c i.toNat j) (fun j y hj=>?_) (fun j y hj=>g1 _ _ j y hx hj) (fun j y hj=>gy _ _ j y hx hj)
     obtain ⟨ad,h2,h3,h4⟩:=gr _ _ j y hx hj
     cases h2
     rw [xS,xR]
     exact ⟨h3,h4⟩
theorem Pr {t et:TypeId} {e:Nat} (ht:P.underlying t=some (.slice et)) (hs:cj P et=some e) {id az len:Nat} {v:Value} (hv:Rp w (aI C aa hp) aa hp (.row id az len) v) {xs:List (List SV)} (hq:hp id=some (.row e az xs))
 {k:IntKind} {i:Int} (h0:0≤i) (h1:i<len) :
 ∃ u,(Instr.indexAt t v (.int k i)).run P w = .ok u w∧Rp w (aI C aa hp) aa hp (.bX id az i.toNat 0) u:=by
 cases hv with
 | row _ _ _ _ g1 g0 jT gv=>
   rcases gv e xs hq with ⟨_,_,rfl⟩ | ⟨b,cap,cur,t0,k1,rfl,k3,k4,k5,k6⟩
   ·simp at h1;omega
   ·refine ⟨_,Ad ht hs _ _ _ k i h0 h1,.bX _ _ _ _ _ rfl g0 jT (fun e' xs' fX=>⟨b,k1,?_⟩)⟩
    rw [hq] at fX;cases fX
    rw [add_lit];simp
theorem Pp {t et:TypeId} {e len:Nat} (ht:P.underlying t=some (.array len et)) (hs:cj P et=some e) {id o:Nat} {v:Value} (hv:Rp w (aI C aa hp) aa hp (.ptr id o) v) {cs:List SV} (hq:hp id=some (.var cs)) {k:IntKind} {i:Int} (h0:0≤i) (h1:i<len) :
 ∃ u,(Instr.indexAt t v (.int k i)).run P w = .ok u w∧Rp w (aI C aa hp) aa hp (.ptr id (o+i.toNat*e)) u:=by
 cases hv with
 | ptr _ _ _ g1 g0 lQ=>
   obtain ⟨b,hb,rfl⟩:=lQ cs hq
   exact ⟨_,Dp ht hs _ k i h0 h1,.ptr _ _ _ rfl g0 (fun _ _=>⟨b,hb,by rw [add_lit]⟩)⟩
theorem Po {t et:TypeId} {e len:Nat} (ht:P.underlying t=some (.array len et)) (hs:cj P et=some e) {id az i0 o:Nat} {v:Value} (hv:Rp w (aI C aa hp) aa hp (.bX id az i0 o) v) {e':Nat} {xs:List (List SV)} (hq:hp id=some (.row e' az xs)) {k:IntKind} {i:Int} (h0:0≤i) (h1:i<len) :
 ∃ u,(Instr.indexAt t v (.int k i)).run P w = .ok u w∧Rp w (aI C aa hp) aa hp (.bX id az i0 (o+i.toNat*e)) u:=by
 cases hv with
 | bX _ _ _ _ _ g1 g0 jT lQ=>
   obtain ⟨b,hb,rfl⟩:=lQ e' xs hq
   refine ⟨_,Dp ht hs _ k i h0 h1,.bX _ _ _ _ _ rfl g0 jT (fun e2 vh nu=>⟨b,hb,?_⟩)⟩
   rw [hq] at nu;cases nu
   rw [add_lit,Nat.add_assoc]
theorem Pq {t et:TypeId} {e len:Nat} (ht:P.underlying t=some (.array len et)) (hs:cj P et=some e) {cs:List RV} {v:Value} (hv:RO w (aI C aa hp) (.rop cs) v) {k:IntKind} {i:Int} (h0:0≤i) (h1:i<len) :
 ∃ u,(Instr.indexAt t v (.int k i)).run P w = .ok u w∧Rp w (aI C aa hp) aa hp (.rv (.rop (cs.drop (i.toNat*e)))) u:=by
 have Cn:=hv
 cases hv with
 | rop _ a c hr g1 hy=>exact ⟨_,Dp ht hs _ k i h0 h1,.rv _ _ (Cn.shift _)⟩
theorem tH {t et:TypeId} (ht:P.underlying t=some (.slice et)) (ty:TypeId) (a:Option Addr) (n c:Nat):(Builtin.len_ #[t] ty #[.slice a n c]).run P w = .ok (.int .i64 n) w:=by
 simp [Builtin.len_,run_underlying ht,goInt]
theorem Uc {t:TypeId} (ht:P.underlying t=some .string) (ty:TypeId) (s:ByteArray):(Builtin.len_ #[t] ty #[.string s]).run P w = .ok (.int .i64 s.size) w:=by
 simp [Builtin.len_,run_underlying ht,goInt]
theorem Sv {t et:TypeId} (ht:P.underlying t=some (.slice et)) (ty:TypeId) {id az len:Nat} {v:Value} (hv:Rp w (aI C aa hp) aa hp (.row id az len) v) {e:Nat} {xs:List (List SV)} (hq:hp id=some (.row e az xs)) :
 (Builtin.len_ #[t] ty #[v]).run P w = .ok (.int .i64 len) w:=by
 cases hv with
 | row _ _ _ _ g1 g0 jT gv=>
   rcases gv e xs hq with ⟨_,rfl,rfl⟩ | ⟨b,cap,cur,t0,k1,rfl,k3,k4,k5,k6⟩
   ·exact tH ht ty _ _ _
   ·exact tH ht ty _ _ _
end
def ry (op:BinOp) (k:IntKind) (a b:Int):Option (Prop×RV):=
 match op with
 | .add=>some (True,.int k (k.wrap (a+b)))
 | .sub=>some (True,.int k (k.wrap (a - b)))
 | .mul=>some (True,.int k (k.wrap (a*b)))
 | .quo=>some (b≠0,.int k (k.wrap (a.tdiv b)))
 | .rem=>some (b≠0,.int k (a.tmod b))
 | .and=>some (True,.int k (k.wrap (BitVec.ofInt k.bits a &&& BitVec.ofInt k.bits b).toNat))
 | .or=>some (True,.int k (k.wrap (BitVec.ofInt k.bits a ||| BitVec.ofInt k.bits b).toNat))
 | .xor=>some (True,.int k (k.wrap (BitVec.ofInt k.bits a ^^^ BitVec.ofInt k.bits b).toNat))
 | .eql=>some (True,.bool (a == b))
 | .neq=>some (True,.bool (a != b))
 | .lss=>some (True,.bool (decide (a<b)))
 | .leq=>some (True,.bool (decide (a≤b)))
 | .gtr=>some (True,.bool (decide (a>b)))
 | .geq=>some (True,.bool (decide (a≥b)))
 | _=>none
def qE (op:BinOp) (k:IntKind) (a b:Int):Option (Prop×RV):=
 match op with
 | .shl=>some (0≤b,.int k (k.wrap (a*2 ^ min b.toNat k.bits)))
 | .shr=>some (0≤b,.int k (a.fdiv (2 ^ min b.toNat k.bits)))
 | _=>none
def valOf:RV→Value
 | .int k n=>.int k n
 | .bool b=>.bool b
 | .str s=>.string s
 | _=>undef
theorem Ua {P:Program} {w:World} {op:BinOp} {k:IntKind} {a b:Int} {p:Prop} {r:RV} (h:ry op k a b=some (p,r)) (hp:p) (t:TypeId) :
 (binOp op t (.int k a) (.int k b)).run P w = .ok (valOf r) w∧∀ ok,RO w ok r (valOf r):=by
 cases op <;> simp only [ry,Option.some.injEq,Prod.mk.injEq,reduceCtorEq] at h <;> obtain ⟨rfl,rfl⟩:=h <;>
  (refine ⟨?_,fun _=>by first | exact .int _ _ | exact .bool _⟩;first | (simp [binOp,Op.intArith,Op.intBits,Op.intCmp,Op.intDiv,valOf];done) | (simp [binOp,Op.intDiv,hp,valOf];done))
theorem Ub {P:Program} {w:World} {op:BinOp} {k k':IntKind} {a b:Int} {p:Prop} {r:RV} (h:qE op k a b=some (p,r)) (hp:p) (t:TypeId) :
 (binOp op t (.int k a) (.int k' b)).run P w = .ok (valOf r) w∧∀ ok,RO w ok r (valOf r):=by
 cases op <;> simp only [qE,Option.some.injEq,Prod.mk.injEq,reduceCtorEq] at h <;> obtain ⟨rfl,rfl⟩:=h
 ·exact ⟨by simp [binOp,Op.shift,Int.not_lt.2 hp,valOf],fun _=>.int _ _⟩
 ·exact ⟨by simp [binOp,Op.shift,Int.not_lt.2 hp,valOf],fun _=>.int _ _⟩
end Go.aJ

namespace Go.aJ
open Go
theorem Fq (cells:Array Value) (off:Nat):∀ (vs:List Value) (k:Nat) (cs:Array Value),off+k+vs.length≤cs.size→
 (vs.zipIdx k).foldl (fun cs (c,j)=>cs.setIfInBounds (off+j) c) cs=(splice cs.toList (off+k) vs).toArray
 | [],k,cs,_=>by simp [splice]
 | v::r,k,cs,h=>by
   simp only [List.length_cons] at h
   rw [List.zipIdx_cons,List.foldl_cons,Fq cells off r (k+1) _ (by simp;omega)]
   apply Array.ext'
   simp only [Array.toList_setIfInBounds]
   apply List.ext_getElem?
   intro j
   rw [pF _ _ _ (by simp;omega),pF _ _ _ (by simp;omega)]
   by_cases h1:j=off+k
   ·subst h1
    rw [if_neg (by omega),if_pos (by simp only [List.length_cons];omega)]
    rw [List.getElem?_set_self (by simp;omega)]
    simp
   ·by_cases h2:off+(k+1)≤j∧j<off+(k+1)+r.length
    ·rw [if_pos h2,if_pos (by simp only [List.length_cons];omega),show j - (off+k)=(j - (off+(k+1)))+1 by omega,List.getElem?_cons_succ]
    ·rw [if_neg h2,if_neg (by simp only [List.length_cons];omega),List.getElem?_set_ne (by omega)]
def lay {α:Type} (z:List α):List (Nat×List α)→List α
 | []=>z
 | (o,x)::r=>lay (splice z o x) r
theorem By (place:Nat→Option (Nat×Nat)):∀ (ps:List (Nat×Value)) (qs:List (Nat×List Value)) (cs:Array Value),
 ps.length=qs.length→(∀ (j:Nat) (i:Nat) (v:Value) (o:Nat) (x:List Value),ps[j]?=some (i,v)→qs[j]?=some (o,x)→place i=some (o,x.length)∧v.cells=x.toArray∧o+x.length≤cs.size)→
 Instr.fill place cs ps=some (lay cs.toList qs).toArray
 | [],[],cs,_,_=>by simp [Instr.fill,lay]
 | [],_::_,_,h,_=>by simp at h
 | _::_,[],_,h,_=>by simp at h
 | (i,v)::ps,(o,x)::qs,cs,hl,h=>by
   obtain ⟨h1,h2,h3⟩:=h 0 i v o x rfl rfl
   have hf:=Fq cs o x 0 cs (by simpa using h3)
   simp only [Nat.add_zero] at hf
   have hsz:(splice cs.toList o x).length=cs.size:=by rw [mU _ _ _ (by simpa using h3)];simp
   have ih:=By place ps qs (splice cs.toList o x).toArray (by simpa using hl) (fun j i' v' o' x' g1 g2=>by
    have:=h (j+1) i' v' o' x' (by simpa using g1) (by simpa using g2)
    refine ⟨this.1,this.2.1,?_⟩
    simp only [List.size_toArray,hsz];exact this.2.2)
   unfold Instr.fill
   simp only [h1,h2,List.size_toArray,ne_eq,not_true_eq_false,false_or]
   rw [if_neg (by simp;omega)]
   simp only [lay]
   rw [← Array.foldl_toList]
   simp only [Array.toList_zipIdx]
   rw [hf,ih]
section
variable {P:Program} {C:Ctx} {hp:Hp} {w:World} {aa:Nat→Option Nat}
def nL:List SV→Option (List (List SV))
 | []=>some []
 | s::r=>match mG s,nL r with
   | some x,some y=>some (x::y)
   | _,_=>none
theorem AX {ok:Nat→Prop}:∀ {ss:List SV} {vs:List Value} {cs:List (List SV)},nL ss=some cs→vs.length=ss.length→(∀ (j:Nat) (s:SV),ss[j]?=some s→Rp w ok aa hp s (vs.getD j undef))→
 ∃ us:List (List Value),us.length=cs.length∧(∀ (j:Nat) (v:Value),vs[j]?=some v→∃ u,us[j]?=some u∧v.cells=u.toArray)∧
  ∀ (j:Nat) (c:List SV),cs[j]?=some c→∃ u,us[j]?=some u∧u.length=c.length∧(∀ (i:Nat) (x:Value),u[i]?=some x→x.oneCell'=true)∧∀ (i:Nat) (y:SV),c[i]?=some y→Rp w ok aa hp y (u.getD i undef)
 | [],vs,cs,h,hl,_=>by
   cases h
   have:vs=[]:=List.eq_nil_of_length_eq_zero hl
   subst this
   exact ⟨[],rfl,fun j v hv=>by simp at hv,fun j c hc=>by simp at hc⟩
 | s::r,[],cs,h,hl,_=>by simp at hl
 | s::r,v::vs,cs,h,hl,hr=>by
   unfold nL at h
   cases hs:mG s with
   | none=>simp [hs] at h
   | some x=>
     cases sZ:nL r with
     | none=>simp [hs,sZ] at h
     | some y=>
       simp only [hs,sZ,Option.some.injEq] at h
       subst h
       obtain ⟨us,h1,h2,h3⟩:=AX (vs:=vs) sZ (by simpa using hl) (fun j s hj=>by
        have:=hr (j+1) s (by simpa using hj)
        simpa using this)
       have h0:=hr 0 s rfl
       simp only [List.getD_cons_zero] at h0
       obtain ⟨u,g1,g2,g3,g4⟩:=h0.cells hs
       refine ⟨u::us,by simp [h1],fun j v' hv=>?_,fun j c hc=>?_⟩
       ·cases j with
        | zero=>simp at hv;subst hv;exact ⟨u,rfl,g1⟩
        | succ j=>simp at hv;obtain ⟨u',k1,k2⟩:=h2 j v' hv;exact ⟨u',by simpa using k1,k2⟩
       ·cases j with
        | zero=>simp at hc;subst hc;exact ⟨u,rfl,g2,g3,g4⟩
        | succ j=>simp at hc;obtain ⟨u',k1,k2⟩:=h3 j c hc;exact ⟨u',by simpa using k1,k2⟩
theorem vE {α:Type} (e:Nat):∀ (us:List (List α)) (_:∀ u∈us,u.length=e) (i j:Nat) (u:List α) (v:α),us[i]?=some u→u[j]?=some v→us.flatten[i*e+j]?=some v
 | [],_,i,j,u,v,h,_=>by simp at h
 | x::r,hl,i,j,u,v,h,hv=>by
   have hx:=hl x (by simp)
   cases i with
   | zero=>
     simp at h;subst h
     have:=(List.getElem?_eq_some_iff.1 hv).1
     rw [List.flatten_cons,List.getElem?_append_left (by omega)]
     simpa using hv
   | succ i=>
     have ih:=vE e r (fun u hu=>hl u (by simp [hu])) i j u v (by simpa using h) hv
     rw [List.flatten_cons,List.getElem?_append_right (by rw [Nat.add_mul];omega),hx,show (i+1)*e+j - e=i*e+j by rw [Nat.add_mul];omega]
     exact ih
theorem qZ {α:Type} (e:Nat):∀ (us:List (List α)),(∀ u∈us,u.length=e)→us.flatten.length=us.length*e
 | [],_=>by simp
 | x::r,hl=>by
   rw [List.flatten_cons,List.length_append,qZ e r (fun u hu=>hl u (by simp [hu])),hl x (by simp),List.length_cons,Nat.add_mul];omega
theorem kf.Im {ok:Nat→Prop} {e az:Nat} {cs:List (List SV)} {us:List (List Value)} {tail:List Value} (hl:us.length=cs.length) (he:∀ c∈cs,c.length=e)
 (h:∀ (j:Nat) (c:List SV),cs[j]?=some c→∃ u,us[j]?=some u∧u.length=c.length∧(∀ (i:Nat) (x:Value),u[i]?=some x→x.oneCell'=true)∧∀ (i:Nat) (y:SV),c[i]?=some y→Rp w ok aa hp y (u.getD i undef)) :
 kf w ok aa hp (us.flatten++tail).toArray (.row e az cs):=by
 have mP:∀ u∈us,u.length=e:=fun u hu=>by
  obtain ⟨j,hj⟩:=List.getElem?_of_mem hu
  have hjl:j<cs.length:=by rw [← hl];exact (List.getElem?_eq_some_iff.1 hj).1
  have hc:=List.getElem?_eq_getElem hjl
  obtain ⟨u',h1,h2,_⟩:=h j _ hc
  rw [hj] at h1;cases h1
  rw [h2];exact he _ (List.getElem_mem hjl)
 refine ⟨he,?_,fun i x hx j y hy=>?_⟩
 ·simp only [List.size_toArray,List.length_append,qZ e us mP,hl];omega
 ·obtain ⟨u,h1,h2,h3,h4⟩:=h i x hx
  have hj:j<u.length:=by rw [h2];exact (List.getElem?_eq_some_iff.1 hy).1
  have hg:=List.getElem?_eq_getElem hj
  refine ⟨u[j],?_,h3 j _ hg,?_⟩
  ·have:=vE e us mP i j u _ h1 hg
   simp only [List.getElem?_toArray]
   rw [List.getElem?_append_left (List.getElem?_eq_some_iff.1 this).1];exact this
  ·have:=h4 j y hy
   rwa [List.getD_eq_getElem?_getD,hg,Option.getD_some] at this
end
end Go.aJ

namespace Go.aJ
open Go
def pn {α:Type} (e:Nat):Nat→List (List α)→List (Nat×List α)
 | _,[]=>[]
 | k,u::r=>(k*e,u)::pn e (k+1) r
theorem IC {α:Type} (e:Nat):∀ (us:List (List α)) (k j o:Nat) (x:List α),(pn e k us)[j]?=some (o,x)→o=(k+j)*e∧us[j]?=some x
 | [],k,j,o,x,h=>by simp [pn] at h
 | u::r,k,j,o,x,h=>by
   cases j with
   | zero=>simp [pn] at h;obtain ⟨rfl,rfl⟩:=h;simp
   | succ j=>
     simp only [pn,List.getElem?_cons_succ] at h
     obtain ⟨h1,h2⟩:=IC e r (k+1) j o x h
     exact ⟨by rw [h1];congr 1;omega,by simpa using h2⟩
theorem ID {α:Type} (e:Nat):∀ (us:List (List α)) (k:Nat),(pn e k us).length=us.length
 | [],_=>rfl
 | u::r,k=>by simp [pn,ID e r]
theorem GR {α:Type} (e:Nat):∀ (us:List (List α)) (k:Nat) (pre z:List α),pre.length=k*e→z.length=us.length*e→(∀ u∈us,u.length=e)→lay (pre++z) (pn e k us)=pre++us.flatten
 | [],k,pre,z,hp,hz,_=>by
   have:z=[]:=List.eq_nil_of_length_eq_zero (by simpa using hz)
   simp [pn,lay,this]
 | u::r,k,pre,z,hp,hz,hu=>by
   have mP:=hu u (by simp)
   simp only [List.length_cons,Nat.add_mul] at hz
   have hs:splice (pre++z) (k*e) u=(pre++u)++z.drop e:=by
    unfold splice
    rw [← hp,List.take_left,mP,List.drop_append]
    simp
   rw [pn,lay,hs,GR e r (k+1) (pre++u) (z.drop e) (by simp [hp,mP,Nat.add_mul]) (by simp;omega) (fun x hx=>hu x (by simp [hx]))]
   simp
section
variable {P:Program} {C:Ctx} {hp:Hp} {w:World} {aa:Nat→Option Nat}
theorem Kz {t:TypeId} {z:List RV} (h:kE P t=some z) (w:World):∃ zv,(zeroValue t).run P w = .ok zv w∧zv.cells.size=z.length:=by
 unfold kE at h
 cases hi:P.info? t with
 | none=>simp [hi] at h
 | some i=>
   cases jt:i.zero with
   | none=>simp [hi,jt] at h
   | some zv=>
     simp only [hi,jt] at h
     obtain ⟨h1,_⟩:=sx w (fun _=>True) (fun _=>none) (fun _=>none) h
     exact ⟨zv,by simp [zeroValue,typeInfo,hi,jt],by simpa using h1⟩
theorem Lw (R:cn C hp w aa) {id:Nat} (hf:hp id=none) (nR:C.h0 id=none) {t et:TypeId} {e len:Nat} (ht:P.underlying t=some (.slice et)) (hs:cj P et=some e) {z:List RV} (hz:kE P et=some z)
 (hbig:len*e≤16777216) (qB:len≤maxLen) {ss:List SV} {vs:List Value} {cs:List (List SV)} (hl:ss.length=len) (hvs:vs.length=ss.length) (Cj:∀ (j:Nat) (s:SV),ss[j]?=some s→Rp w (aI C aa hp) aa hp s (vs.getD j undef))
 (hc:nL ss=some cs) (he:∀ c∈cs,c.length=e) {ps:List (Nat×Value)} (hps:ps.length=len) (Cg:∀ (j i:Nat) (v:Value),ps[j]?=some (i,v)→i=j∧vs[j]?=some v) :
 ∃ u w' aK,(Instr.buildSlice t len ps.toArray).run P w = .ok u w'∧Step C hp (up hp id (some (.row e 0 cs))) w w' aa aK∧Rp w' (aI C aK (up hp id (some (.row e 0 cs)))) aK (up hp id (some (.row e 0 cs))) (.row id 0 len) u:=by
 obtain ⟨us,h1,h2,h3⟩:=AX hc hvs Cj
 have hcl:cs.length=len:=by
  have:∀ (ss:List SV) (cs:List (List SV)),nL ss=some cs→cs.length=ss.length:=by
   intro ss
   induction ss with
   | nil=>intro cs h;cases h;rfl
   | cons s r ih=>
     intro cs h
     unfold nL at h
     cases hs:mG s with
     | none=>simp [hs] at h
     | some x=>
       cases sZ:nL r with
       | none=>simp [hs,sZ] at h
       | some y=>simp only [hs,sZ,Option.some.injEq] at h;subst h;simp [ih y sZ]
  rw [this ss cs hc,hl]
 have mP:∀ u∈us,u.length=e:=fun u hu=>by
  obtain ⟨j,hj⟩:=List.getElem?_of_mem hu
  have hjl:j<cs.length:=by rw [← h1];exact (List.getElem?_eq_some_iff.1 hj).1
  obtain ⟨u',g1,g2,_⟩:=h3 j _ (List.getElem?_eq_getElem hjl)
  rw [hj] at g1;cases g1
  rw [g2];exact he _ (List.getElem_mem hjl)
 have hsz:us.flatten.length=len*e:=by rw [qZ e us mP,h1,hcl]
 have S:=R.make (w1:=w) rfl rfl rfl rfl id (.row e 0 cs) us.flatten.toArray et hf nR (by
  have:=kf.Im (az:=0) (tail:=[]) h1 he h3
  simpa using this)
 refine ⟨.slice (some ⟨w.heap.size,0,none⟩) len len,w.alloc (.cells us.flatten.toArray et),_,?_,S,.row id 0 len _ rfl (by simp) (fun e' v' xs' h'=>by simp) (fun e' xs' h'=>.inr ⟨w.heap.size,len,us.flatten.toArray,et,cr _ _ _,rfl,heap_alloc_new w _,Nat.le_refl _,qB,?_⟩)⟩
 ·have rm:∀ z0:Array Value,z0.size=len*e→Instr.fill (fun i=>some (i*e,e)) z0 ps=some us.flatten.toArray:=fun z0 h0=>by
   have:=By (fun i=>some (i*e,e)) ps (pn e 0 us) z0 (by rw [ID,hps,h1,hcl]) (fun j i v o x g1 g2=>by
    obtain ⟨rfl,k1⟩:=Cg j i v g1
    obtain ⟨rfl,k2⟩:=IC e us 0 _ o x g2
    obtain ⟨u,k3,k4⟩:=h2 _ v k1
    rw [k2] at k3;cases k3
    have hx:=mP x (List.mem_of_getElem? k2)
    refine ⟨by simp [hx],k4,?_⟩
    have hi:i<us.length:=(List.getElem?_eq_some_iff.1 k2).1
    have:(i+1)*e≤len*e:=Nat.mul_le_mul_right _ (by omega)
    rw [Nat.add_mul] at this
    simp only [Nat.zero_add];omega)
   rw [this]
   have h:=GR e us 0 [] z0.toList (by simp) (by simpa [h1,hcl] using h0) mP
   simp only [List.nil_append] at h
   rw [h]
  obtain ⟨zv,wH,hzs⟩:=Kz hz w
  have NS:¬ 16777216<len*e:=by omega
  by_cases h0:len*e=0
  ·have:=rm (Array.map (fun _=>default) (Array.range 0)) (by simp [h0])
   simp [Instr.buildSlice,run_underlying ht,jB hs,h0,newRow,this]
  ·have:=rm ((Array.range (len*e)).map (zv.cells[· % zv.cells.size]!)) (by simp)
   simp only [Instr.buildSlice,Sem.run_bind,run_underlying ht,Result.andThen_ok,jB hs]
   simp [NS,h0,wH,this,newRow]
 ·rw [cr] at h';cases h'
  simp [hsz]
theorem BA {α:Type} (e:Nat):∀ (us:List (List α)) (_:∀ u∈us,u.length=e) (k:Nat) (v:α),us.flatten[k]?=some v→∃ (i j:Nat) (u:List α),us[i]?=some u∧u[j]?=some v∧k=i*e+j
 | [],_,k,v,h=>by simp at h
 | x::r,hl,k,v,h=>by
   have hx:=hl x (by simp)
   rw [List.flatten_cons] at h
   by_cases hk:k<x.length
   ·rw [List.getElem?_append_left hk] at h
    exact ⟨0,k,x,rfl,h,by simp⟩
   ·rw [List.getElem?_append_right (by omega)] at h
    obtain ⟨i,j,u,h1,h2,h3⟩:=BA e r (fun u hu=>hl u (by simp [hu])) (k - x.length) v h
    exact ⟨i+1,j,u,by simpa using h1,h2,by rw [Nat.add_mul];omega⟩
def kG (w:World) (ok:Nat→Prop) (aa:Nat→Option Nat) (hp:Hp) (e:Nat) (v:Value) (ys:List (List SV)):Prop:=
 ∃ (a:Option Addr) (cap:Nat) (us:List (List Value)),v = .slice a ys.length cap∧us.length=ys.length∧(∀ u∈us,u.length=e)∧(∀ c∈ys,c.length=e)∧ys.length≤cap∧
  (∀ (j:Nat) (c:List SV),ys[j]?=some c→∃ u,us[j]?=some u∧u.length=c.length∧(∀ (i:Nat) (x:Value),u[i]?=some x→x.oneCell'=true)∧∀ (i:Nat) (y:SV),c[i]?=some y→Rp w ok aa hp y (u.getD i undef))∧
  (a=none→ys=[]∧cap=0)∧∀ ad,a=some ad→DL w ad us.flatten
theorem kG.mk' {ok:Nat→Prop} {e cap:Nat} {a:Option Addr} {ys:List (List SV)} (f:Nat→Nat→Value) (he:∀ c∈ys,c.length=e) (hc:ys.length≤cap) (h0:a=none→ys=[]∧cap=0)
 (h:∀ (i:Nat) (c:List SV) (j:Nat) (y:SV),ys[i]?=some c→c[j]?=some y→(f i j).oneCell'=true∧Rp w ok aa hp y (f i j)∧∀ ad,a=some ad→w.cell? (ad.add (i*e+j))=some (f i j)) :
 kG w ok aa hp e (.slice a ys.length cap) ys:=by
 have ko:∀ (i:Nat) (u:List Value),((List.range ys.length).map fun i=>(List.range e).map fun j=>f i j)[i]?=some u→i<ys.length∧u=(List.range e).map fun j=>f i j:=fun i u hu=>by
  have hi:i<ys.length:=by have:=(List.getElem?_eq_some_iff.1 hu).1;simpa using this
  rw [List.getElem?_map,List.getElem?_range hi] at hu
  exact ⟨hi,by simpa using hu.symm⟩
 refine ⟨a,cap,(List.range ys.length).map fun i=>(List.range e).map fun j=>f i j,rfl,by simp,fun u hu=>?_,he,hc,fun i c hi=>?_,h0,fun ad had k v hk=>?_⟩
 ·obtain ⟨i,hi⟩:=List.getElem?_of_mem hu
  obtain ⟨_,rfl⟩:=ko i u hi
  simp
 ·have fE:=(List.getElem?_eq_some_iff.1 hi).1
  have hce:=he c (List.mem_of_getElem? hi)
  refine ⟨(List.range e).map fun j=>f i j,by rw [List.getElem?_map,List.getElem?_range fE];rfl,by simp [hce],fun j x hx=>?_,fun j y hy=>?_⟩
  ·have hj:j<e:=by have:=(List.getElem?_eq_some_iff.1 hx).1;simpa using this
   rw [List.getElem?_map,List.getElem?_range hj] at hx
   simp only [Option.map_some,Option.some.injEq] at hx
   subst hx
   exact (h i c j _ hi (List.getElem?_eq_getElem (by omega))).1
  ·have hj:j<e:=by rw [← hce];exact (List.getElem?_eq_some_iff.1 hy).1
   simp only [List.getD_eq_getElem?_getD,List.getElem?_map,List.getElem?_range hj,Option.map_some,Option.getD_some]
   exact (h i c j y hi hy).2.1
 ·obtain ⟨i,j,u,h1,h2,rfl⟩:=BA e _ (fun u hu=>by
   obtain ⟨i,hi⟩:=List.getElem?_of_mem hu
   obtain ⟨_,rfl⟩:=ko i u hi
   simp) k v hk
  obtain ⟨hi,rfl⟩:=ko i u h1
  have hj:j<e:=by have:=(List.getElem?_eq_some_iff.1 h2).1;simpa using this
  rw [List.getElem?_map,List.getElem?_range hj] at h2
  simp only [Option.map_some,Option.some.injEq] at h2
  subst h2
  have hg:=List.getElem?_eq_getElem hi
  have hce:=he _ (List.getElem_mem hi)
  exact (h i _ j _ hg (List.getElem?_eq_getElem (by omega))).2.2 ad had
theorem EL {ok:Nat→Prop} {e:Nat} {xs:List (List RV)} {v:Value} (hv:RO w ok (.sl e xs) v):kG w ok aa hp e v (xs.map (List.map SV.rv)):=by
 cases hv with
 | sl _ _ a cap c g0 gc gm ge gr g1 gy=>
   have:=kG.mk' (w:=w) (ok:=ok) (aa:=aa) (hp:=hp) (e:=e) (cap:=cap) (a:=a) (ys:=xs.map (List.map SV.rv)) c (fun c hc=>by
    obtain ⟨x,hx,rfl⟩:=List.mem_map.1 hc
    simpa using ge x hx) (by simpa using gc) (fun h=>by obtain ⟨h1,h2⟩:=g0 h;exact ⟨by simp [h1],h2⟩) (fun i x j y hx hy=>by
    rw [List.getElem?_map] at hx
    cases kr:xs[i]? with
    | none=>simp [kr] at hx
    | some x0=>
      simp only [kr,Option.map_some,Option.some.injEq] at hx
      subst hx
      rw [List.getElem?_map] at hy
      cases fQ:x0[j]? with
      | none=>simp [fQ] at hy
      | some y0=>
        simp only [fQ,Option.map_some,Option.some.injEq] at hy
        subst hy
        refine ⟨(gy i x0 j y0 kr fQ).xd (g1 i x0 j y0 kr fQ),.rv _ _ (gy i x0 j y0 kr fQ),fun ad had=>?_⟩
        obtain ⟨DM,h1,_,h3⟩:=gr i x0 j y0 kr fQ
        rw [had] at h1;cases h1
        exact h3)
   simpa using this
theorem Bq {ok:Nat→Prop} (e:Nat):kG w ok aa hp e (.slice none 0 0) []:=
 ⟨none,0,[],rfl,rfl,fun u hu=>by simp at hu,fun u hu=>by simp at hu,Nat.le_refl _,fun j c hc=>by simp at hc,fun _=>⟨rfl,rfl⟩,fun ad h=>by cases h⟩
theorem EK (R:cn C hp w aa) {id az len:Nat} {v:Value} (hv:Rp w (aI C aa hp) aa hp (.row id az len) v) {e:Nat} {xs:List (List SV)} (hq:hp id=some (.row e az xs)) (hl:len≤xs.length) :
 kG w (aI C aa hp) aa hp e v (xs.take len):=by
 cases hv with
 | row _ _ _ _ g1 g0 jT gv=>
   rcases gv e xs hq with ⟨_,rfl,rfl⟩ | ⟨b,cap,cur,t0,k1,rfl,k3,k4,k5,k6⟩
   ·exact Bq e
   ·rcases R.heap id _ hq with ⟨hn,_⟩ | ⟨b',cur',t1,m1,m2,m3⟩
    ·rw [k1] at hn;cases hn
    ·rw [k1] at m1;cases m1
     rw [k3] at m2;cases m2
     have hlt:(xs.take len).length=len:=by simp;omega
     have:=kG.mk' (w:=w) (ok:=aI C aa hp) (aa:=aa) (hp:=hp) (e:=e) (cap:=cap) (a:=some ⟨b,0,none⟩) (ys:=xs.take len) (fun i j=>cur.getD (i*e+j) undef) (fun c hc=>m3.1 c (List.mem_of_mem_take hc)) (by omega) (fun h=>by cases h) (fun i x j y hx hy=>by
      rw [List.getElem?_take] at hx
      split at hx
      ·obtain ⟨u,h1,h2,h3⟩:=m3.2.2 i x hx j y hy
       have hgd:cur.getD (i*e+j) undef=u:=by rw [Array.getD_eq_getD_getElem?,h1];rfl
       rw [hgd]
       refine ⟨h2,h3,fun ad had=>?_⟩
       cases had
       rw [add_lit,qn k3];simpa using h1
      ·cases hx)
     rwa [hlt] at this
end
end Go.aJ

namespace Go.aJ
open Go
section
variable {P:Program} {C:Ctx} {hp:Hp} {w:World} {aa:Nat→Option Nat}
theorem cn.ghost (R:cn C hp w aa) (id e bL:Nat) (h:(hp id=none∧C.h0 id=none)∨∃ e0 az xs,hp id=some (.row e0 az xs)∧az<bL) :
 Step C hp (up hp id (some (.row e bL []))) w w aa (up aa id none):=by
 have hok:∀ b,aI C aa hp b→b<w.heap.size→aI C (up aa id none) (up hp id (some (.row e bL []))) b∧w.heap[b]?=w.heap[b]?:=fun b hb _=>by
  refine ⟨⟨hb.1,fun fI h2=>?_⟩,rfl⟩
  by_cases hi:fI=id
  ·subst hi;rw [cr];intro he;cases he
  ·rw [gA _ _ hi];rw [gA _ _ hi] at h2;exact hb.2 fI h2
 have E:jn w w (aI C aa hp) (aI C (up aa id none) (up hp id (some (.row e bL [])))) aa (up aa id none) hp (up hp id (some (.row e bL []))):=by
  refine jn.of hok (fun fI hb hq=>?_)
  by_cases hi:fI=id
  ·subst hi
   refine ⟨_,cr _ _ _,?_⟩
   rcases h with ⟨h,_⟩ | ⟨e0,az,xs,h,hlt⟩
   ·rw [h] at hq;cases hq
   ·rw [h] at hq;cases hq
    exact ⟨by omega,fun he=>by omega⟩
  ·refine ⟨hb,by rw [gA _ _ hi];exact hq,?_⟩
   rw [gA _ _ hi];exact jC.refl _ _ _
 refine ⟨⟨fun fI hb hq=>?_,fun uy fI b h1 h2 h3 h4=>?_,fun fI b h1 h2=>?_,R.fr,fun fI hb hb0 h1 h2=>?_⟩,E⟩
 ·by_cases hi:fI=id
  ·subst hi
   rw [cr] at hq;cases hq
   exact .inl ⟨cr _ _ _,e,bL,rfl⟩
  ·rw [gA _ _ hi] at hq
   rcases R.heap fI hb hq with g | ⟨b,cur,t,g1,g2,g3⟩
   ·exact .inl ⟨by rw [gA _ _ hi];exact g.1,g.2⟩
   ·exact .inr ⟨b,cur,t,by rw [gA _ _ hi];exact g1,g2,g3.mono E⟩
 ·by_cases e1:uy=id
  ·subst e1;rw [cr] at h3;cases h3
  ·by_cases e2:fI=id
   ·subst e2;rw [cr] at h4;cases h4
   ·rw [gA _ _ e1] at h1 h3;rw [gA _ _ e2] at h2 h4
    exact R.inj uy fI b h1 h2 h3 h4
 ·by_cases hi:fI=id
  ·subst hi;rw [cr] at h2;cases h2
  ·rw [gA _ _ hi] at h1 h2;exact R.own fI b h1 h2
 ·by_cases hi:fI=id
  ·subst hi
   rw [cr] at h1;cases h1
   rw [cr]
   rcases h with ⟨_,h⟩ | ⟨e0,az,xs,h,hlt⟩
   ·rw [h] at h2;cases h2
   ·have:=R.jS fI _ hb0 h h2
    cases hb0 with
    | var=>exact this.elim
    | row=>exact ⟨by have:=this.1;omega,fun he=>by have:=this.1;omega⟩
  ·rw [gA _ _ hi] at h1 ⊢;exact R.jS fI hb hb0 h1 h2
theorem kG.src {ok:Nat→Prop} {e:Nat} {x:Value} {ys:List (List SV)} (E:kG w ok aa hp e x ys) {tx et:TypeId} (Ge:P.underlying tx=some (.slice et)) :
 ∃ us:List (List Value),us.length=ys.length∧Src P e tx x ys.length us.flatten w∧(∀ c∈ys,c.length=e)∧(∀ u∈us,u.length=e)∧
  ∀ (j:Nat) (c:List SV),ys[j]?=some c→∃ u,us[j]?=some u∧u.length=c.length∧(∀ (i:Nat) (x:Value),u[i]?=some x→x.oneCell'=true)∧∀ (i:Nat) (y:SV),c[i]?=some y→Rp w ok aa hp y (u.getD i undef):=by
 obtain ⟨a,cap,us,rfl,h1,h2,h3,h4,h5,h6,h7⟩:=E
 have hl:us.flatten.length=ys.length*e:=by rw [qZ e us h2,h1]
 have hone:∀ u∈us.flatten,u.oneCell'=true:=fun v hv=>by
  obtain ⟨k,hk⟩:=List.getElem?_of_mem hv
  obtain ⟨i,j,u,g1,g2,_⟩:=BA e us h2 k v hk
  have hi:i<ys.length:=by rw [← h1];exact (List.getElem?_eq_some_iff.1 g1).1
  obtain ⟨u',k1,_,k3,_⟩:=h5 i _ (List.getElem?_eq_getElem hi)
  rw [g1] at k1;cases k1
  exact k3 j v g2
 refine ⟨us,h1,?_,h3,h2,h5⟩
 cases a with
 | none=>
   obtain ⟨rfl,rfl⟩:=h6 rfl
   have:us=[]:=List.eq_nil_of_length_eq_zero (by simpa using h1)
   subst this
   exact Src.ofNil w Ge 0
 | some ad=>exact Src.ofSlice w Ge ad ys.length cap us.flatten hl (h7 ad rfl) hone
structure sn (P:Program) (t et:TypeId) (e bytes:Nat):Prop where
 ht:P.underlying t=some (.slice et)
 hi:∃ i z,P.info? et=some i∧i.zero=some z∧i.size=e∧i.bytes=bytes∧z.cells.size=e
 pos:0<e
theorem AK (R:cn C hp w aa) {t et:TypeId} {e bytes:Nat} (T:sn P t et e bytes) (ty:TypeId) (id bL:Nat) (base:Option Addr) (len cap:Nat) {olds:List (List Value)} {xs:List (List SV)} (ho:olds.length=xs.length) (Cp:xs.length=len) (ru:∀ c∈xs,c.length=e)
 (hold:(Builtin.firstCells e len (.slice base len cap)).run P w.drew = .ok olds.flatten.toArray w.drew)
 (hO:∀ (j:Nat) (c:List SV),xs[j]?=some c→∃ u,olds[j]?=some u∧u.length=c.length∧(∀ (i:Nat) (x:Value),u[i]?=some x→x.oneCell'=true)∧∀ (i:Nat) (y:SV),c[i]?=some y→Rp w (aI C aa hp) aa hp y (u.getD i undef))
 {x:Value} {ys:List (List SV)} (E:kG w (aI C aa hp) aa hp e x ys) (FK:cap<len+ys.length) (h63:len+ys.length≤maxLen) (hby:(len+ys.length)*bytes≤140737488355328)
 (hid:(hp id=none∧C.h0 id=none)∨∃ e0 az gT,hp id=some (.row e0 az gT)∧az<bL) :
 ∃ u w' aK,(Builtin.append_ #[t,t] ty #[.slice base len cap,x]).run P w = .ok u w'∧Step C hp (up hp id (some (.row e bL (xs++ys)))) w w' aa aK∧
  Rp w' (aI C aK (up hp id (some (.row e bL (xs++ys))))) aK (up hp id (some (.row e bL (xs++ys)))) (.row id bL (len+ys.length)) u:=by
 obtain ⟨i,z,hi,hz,hsz,mL,hzs⟩:=T.hi
 obtain ⟨us,h1,hsrc,h3,h4,h5⟩:=E.src T.ht
 subst hsz
 have hr:=run_append_grow_src (P:=P) w t t ty et i z T.ht hi hz base len cap olds.flatten hold x ys.length us.flatten hsrc FK (by simp only [maxLen] at h63;omega) (by rw [mL];exact growslice_fits FK hby)
 have BM:=grownCap_le_maxLen w (len+ys.length) cap et h63
 have BL:=grownCap_ge w (len+ys.length) cap et
 have hfl:olds.flatten++us.flatten=(olds++us).flatten:=by simp
 have NX:((olds.flatten++us.flatten).toArray++Builtin.zeroCells z.cells (grownCap w (len+ys.length) cap et - (len+ys.length)))=((olds++us).flatten++(Builtin.zeroCells z.cells (grownCap w (len+ys.length) cap et - (len+ys.length))).toList).toArray:=by
  apply Array.ext';simp
 rw [NX] at hr
 have hxy:∀ c∈xs++ys,c.length=i.size:=fun c hc=>by
  rcases List.mem_append.1 hc with h | h
  ·exact ru c h
  ·exact h3 c h
 have OD:∀ (j:Nat) (c:List SV),(xs++ys)[j]?=some c→∃ u,(olds++us)[j]?=some u∧u.length=c.length∧(∀ (i:Nat) (x:Value),u[i]?=some x→x.oneCell'=true)∧∀ (i:Nat) (y:SV),c[i]?=some y→Rp w (aI C aa hp) aa hp y (u.getD i undef):=fun j c hc=>by
  by_cases hj:j<xs.length
  ·rw [List.getElem?_append_left hj] at hc
   obtain ⟨u,g1,g2⟩:=hO j c hc
   exact ⟨u,by rw [List.getElem?_append_left (by omega)];exact g1,g2⟩
  ·rw [List.getElem?_append_right (by omega)] at hc
   obtain ⟨u,g1,g2⟩:=h5 _ c hc
   exact ⟨u,by rw [List.getElem?_append_right (by omega),ho];exact g1,g2⟩
 have hold':∀ u∈olds,u.length=i.size:=fun u hu=>by
  obtain ⟨j,hj⟩:=List.getElem?_of_mem hu
  have hjl:j<xs.length:=by rw [← ho];exact (List.getElem?_eq_some_iff.1 hj).1
  obtain ⟨u',g1,g2,_⟩:=hO j _ (List.getElem?_eq_getElem hjl)
  rw [hj] at g1;cases g1
  rw [g2];exact ru _ (List.getElem_mem hjl)
 have hzl:(Builtin.zeroCells z.cells (grownCap w (len+ys.length) cap et - (len+ys.length))).toList.length=(grownCap w (len+ys.length) cap et - (len+ys.length))*i.size:=by
  rw [Array.length_toList,size_zeroCells,hzs]
 have hsize:((olds++us).flatten++(Builtin.zeroCells z.cells (grownCap w (len+ys.length) cap et - (len+ys.length))).toList).length=grownCap w (len+ys.length) cap et*i.size:=by
  rw [List.length_append,qZ i.size (olds++us) (fun u hu=>by
   rcases List.mem_append.1 hu with h | h
   ·exact hold' u h
   ·exact h4 u h),hzl,List.length_append,ho,h1,Cp,← Nat.add_mul]
  congr 1;omega
 have NK:=kf.Im (w:=w) (ok:=aI C aa hp) (aa:=aa) (hp:=hp) (az:=bL) (tail:=(Builtin.zeroCells z.cells (grownCap w (len+ys.length) cap et - (len+ys.length))).toList) (cs:=xs++ys) (us:=olds++us) (by simp [ho,h1]) hxy OD
 have S:Step C hp (up hp id (some (.row i.size bL (xs++ys)))) w (w.drew.alloc (.cells ((olds++us).flatten++(Builtin.zeroCells z.cells (grownCap w (len+ys.length) cap et - (len+ys.length))).toList).toArray et)) aa (up aa id (some w.heap.size)):=by
  refine R.replace id _ w.heap.size _ et rfl rfl rfl (by simp) (heap_alloc_new w.drew _) (fun k hk _=>heap_alloc_old w.drew _ k hk) (.inr (Nat.le_refl _)) (fun hb hq=>?_) (fun hn=>?_) NK
  ·rcases hid with ⟨h,_⟩ | ⟨e0,az,gT,h,hlt⟩
   ·rw [h] at hq;cases hq
   ·rw [h] at hq;cases hq
    exact ⟨by omega,fun he=>by omega⟩
  ·rcases hid with ⟨_,h⟩ | ⟨e0,az,gT,h,hlt⟩
   ·exact h
   ·rw [h] at hn;cases hn
 refine ⟨_,_,_,hr,S,.row id bL _ _ rfl (by simp) (fun e' v' xs' h'=>?_) (fun e' xs' h'=>.inr ⟨w.heap.size,_,_,et,cr _ _ _,rfl,heap_alloc_new w.drew _,BL,BM,?_⟩)⟩
 ·rw [cr] at h';cases h';exact Nat.le_refl _
 ·rw [cr] at h';cases h'
  simp only [List.size_toArray,hsize];exact Nat.le_refl _
theorem Lc (R:cn C hp w aa) {t et:TypeId} {e bytes:Nat} (T:sn P t et e bytes) (ty:TypeId) {id:Nat} (hf:hp id=none) (nR:C.h0 id=none)
 {x:Value} {ys:List (List SV)} (E:kG w (aI C aa hp) aa hp e x ys) (h63:ys.length≤maxLen) (hby:ys.length*bytes≤140737488355328) :
 ∃ u w' aK,(Builtin.append_ #[t,t] ty #[.slice none 0 0,x]).run P w = .ok u w'∧Step C hp (up hp id (some (.row e 0 ys))) w w' aa aK∧
  Rp w' (aI C aK (up hp id (some (.row e 0 ys)))) aK (up hp id (some (.row e 0 ys))) (.row id 0 ys.length) u:=by
 by_cases hm:ys.length=0
 ·have hy:ys=[]:=List.eq_nil_of_length_eq_zero hm
  subst hy
  obtain ⟨i,z,hi,hz,hsz,mL,hzs⟩:=T.hi
  obtain ⟨us,h1,hsrc,h3,h4,h5⟩:=E.src T.ht
  have ko:us=[]:=List.eq_nil_of_length_eq_zero h1
  subst ko
  refine ⟨.slice none 0 0,w,_,?_,R.ghost id e 0 (.inl ⟨hf,nR⟩),.row id 0 0 _ rfl (by simp) (fun e' v' xs' h'=>by omega) (fun _ _ _=>.inl ⟨cr _ _ _,rfl,rfl⟩)⟩
  have hl:=hsrc.len w
  have hc:=hsrc.cells
  subst hsz
  simp only [List.length_nil,List.flatten_nil] at hl hc
  simp [Builtin.append_,run_underlying T.ht,sizeOf,typeInfo,hi,hl,hc]
 ·have:=AK R T ty id 0 none 0 0 (olds:=[]) (xs:=[]) rfl rfl (fun c hc=>by simp at hc) (by simp [Builtin.firstCells]) (fun j c hc=>by simp at hc) E (by omega) (by omega) (by simpa using hby) (.inl ⟨hf,nR⟩)
  simpa using this
theorem Ld (R:cn C hp w aa) {t et:TypeId} {e bytes:Nat} (T:sn P t et e bytes) (ty:TypeId) {id az len:Nat} {v:Value} (hv:Rp w (aI C aa hp) aa hp (.row id az len) v) {xs:List (List SV)} (hq:hp id=some (.row e az xs)) (hl:len≤xs.length)
 {x:Value} {ys:List (List SV)} (E:kG w (aI C aa hp) aa hp e x ys) (h63:len+ys.length≤maxLen) (hby:(len+ys.length)*bytes≤140737488355328) :
 ∃ u w' aK,(Builtin.append_ #[t,t] ty #[v,x]).run P w = .ok u w'∧Step C hp (up hp id (some (.row e (az+1) (xs.take len++ys)))) w w' aa aK∧
  Rp w' (aI C aK (up hp id (some (.row e (az+1) (xs.take len++ys))))) aK (up hp id (some (.row e (az+1) (xs.take len++ys)))) (.row id (az+1) (len+ys.length)) u:=by
 have NJ:=EK R hv hq hl
 obtain ⟨olds,vY,Oy,we,Ow,Ox⟩:=NJ.src T.ht
 have hlt:(xs.take len).length=len:=by simp;omega
 cases hv with
 | row _ _ _ _ g1 g0 jT gv=>
   rcases gv e xs hq with ⟨gr,rfl,rfl⟩ | ⟨b,cap,cur,t0,k1,rfl,k3,k4,k5,k6⟩
   ·by_cases hm:ys.length=0
    ·have hy:ys=[]:=List.eq_nil_of_length_eq_zero hm
     subst hy
     obtain ⟨i,z,hi,hz,hsz,mL,hzs⟩:=T.hi
     obtain ⟨us,h1,hsrc,h3,h4,h5⟩:=E.src T.ht
     have ko:us=[]:=List.eq_nil_of_length_eq_zero h1
     subst ko
     refine ⟨.slice none 0 0,w,_,?_,R.ghost id e (az+1) (.inr ⟨e,az,xs,hq,by omega⟩),.row id (az+1) 0 _ rfl (by simp) (fun e' v' xs' h'=>by simp at h';omega) (fun _ _ _=>.inl ⟨cr _ _ _,rfl,rfl⟩)⟩
     have hl:=hsrc.len w
     have hc:=hsrc.cells
     subst hsz
     simp only [List.length_nil,List.flatten_nil] at hl hc
     simp [Builtin.append_,run_underlying T.ht,sizeOf,typeInfo,hi,hl,hc]
    ·have:=AK R T ty id (az+1) none 0 0 (olds:=[]) (xs:=[]) rfl rfl (fun c hc=>by simp at hc) (by simp [Builtin.firstCells]) (fun j c hc=>by simp at hc) E (by omega) (by omega) (by simpa using hby) (.inr ⟨e,az,xs,hq,by omega⟩)
     simpa using this
   ·rcases R.heap id _ hq with ⟨hn,_⟩ | ⟨b',cur',t1,m1,m2,m3⟩
    ·rw [k1] at hn;cases hn
    ·rw [k1] at m1;cases m1
     rw [k3] at m2;cases m2
     by_cases hroom:len+ys.length≤cap
     ·obtain ⟨i,z,hi,hz,hsz,mL,hzs⟩:=T.hi
      obtain ⟨us,h1,hsrc,h3,h4,h5⟩:=E.src T.ht
      subst hsz
      have hfl:us.flatten.length=ys.length*i.size:=by rw [qZ i.size us h4,h1]
      have hfit:len*i.size+us.flatten.length≤cur.size:=by
       rw [hfl,← Nat.add_mul]
       exact Nat.le_trans (Nat.mul_le_mul_right _ hroom) k6
      have hst:=run_storeCells_at P b (len*i.size) t0 us.flatten 0 cur w k3 (by simpa using hfit) hsrc.one
      simp only [Nat.add_zero] at hst
      have hrun:(Builtin.append_ #[t,t] ty #[.slice (some ⟨b,0,none⟩) len cap,x]).run P w = .ok (.slice (some ⟨b,0,none⟩) (len+ys.length) cap) (w.setRow b (splice cur.toList (len*i.size) us.flatten).toArray):=by
       simp [Builtin.append_,run_underlying T.ht,sizeOf,typeInfo,hi,hsrc.len,hroom,hsrc.cells,Addr.add_lit,hst,splice]
      have hcs:(splice cur.toList (len*i.size) us.flatten).toArray.size=cur.size:=by
       simp only [List.size_toArray];rw [mU _ _ _ (by simpa using hfit)];simp
      have hmul:∀ a b:Nat,a<b→a*i.size+i.size≤b*i.size:=fun a b h=>by
       have:(a+1)*i.size≤b*i.size:=Nat.mul_le_mul_right _ h
       rw [Nat.add_mul] at this;omega
      have hH:kf w (aI C aa hp) aa hp (splice cur.toList (len*i.size) us.flatten).toArray (.row i.size (az+1) (xs.take len++ys)):=by
       refine ⟨fun c hc=>?_,?_,fun j c hc=>?_⟩
       ·rcases List.mem_append.1 hc with h | h
        ·exact we c h
        ·exact h3 c h
       ·rw [hcs,List.length_append,hlt,Nat.add_mul];omega
       ·by_cases hj:j<len
        ·rw [List.getElem?_append_left (by omega),List.getElem?_take,if_pos hj] at hc
         have hce:=m3.1 c (List.mem_of_getElem? hc)
         refine (m3.2.2 j c hc).apart hfit (.inl ?_)
         have:=hmul j len hj;omega
        ·rw [List.getElem?_append_right (by omega),hlt] at hc
         obtain ⟨u,q1,q2,q3,q4⟩:=h5 _ c hc
         have hce:=h3 c (List.mem_of_getElem? hc)
         intro jj y hy
         have Cb:jj<u.length:=by rw [q2];exact (List.getElem?_eq_some_iff.1 hy).1
         have hg:=List.getElem?_eq_getElem Cb
         refine ⟨u[jj],?_,q3 jj _ hg,?_⟩
         ·have hf:=vE i.size us h4 (j - len) jj u _ q1 hg
          have FI:=(List.getElem?_eq_some_iff.1 hf).1
          simp only [List.getElem?_toArray]
          have Xa:j*i.size=len*i.size+(j - len)*i.size:=by rw [← Nat.add_mul];congr 1;omega
          rw [pF _ _ _ (by simpa using hfit),if_pos (by omega)]
          rw [show j*i.size+jj - len*i.size=(j - len)*i.size+jj by omega];exact hf
         ·have:=q4 jj y hy
          rwa [List.getD_eq_getElem?_getD,hg,Option.getD_some] at this
      have S:=R.write (hb':=.row i.size (az+1) (xs.take len++ys)) hq k1 k3 hcs ⟨by omega,fun he=>by omega⟩ hH
      refine ⟨_,_,_,hrun,S,.row id (az+1) _ _ rfl (by simp) (fun e' v' xs' h'=>by simp at h';omega) (fun e' xs' h'=>.inr ⟨b,cap,_,t0,cr _ _ _,rfl,setRow_heap w b cur _ t0 _ k3,hroom,k5,?_⟩)⟩
      rw [cr] at h';cases h'
      rw [hcs];exact k6
     ·have hold:(Builtin.firstCells e len (.slice (some ⟨b,0,none⟩) len cap)).run P w.drew = .ok olds.flatten.toArray w.drew:=by
       have:=Oy.cellsD
       rwa [hlt] at this
      have:=AK R T ty id (az+1) (some ⟨b,0,none⟩) len cap (olds:=olds) (xs:=xs.take len) (by rw [vY]) hlt we hold Ox E (by omega) h63 hby (.inr ⟨e,az,xs,hq,by omega⟩)
      exact this
end
end Go.aJ

namespace Go.aJ
open Go
section
variable {P:Program} {C:Ctx} {hp:Hp} {w:World} {aa:Nat→Option Nat}
theorem Uq {t et:TypeId} {e:Nat} (ht:P.underlying t=some (.slice et)) (hs:cj P et=some e) {xs:List (List RV)} {ok:Nat→Prop} {v:Value} (hv:RO w ok (.sl e xs) v) (lo hi:Option Value) (l h:Int)
 (hlo:(lo=none∧l=0)∨∃ k,lo=some (.int k l)) (hhi:(hi=none∧h=xs.length)∨∃ k,hi=some (.int k h)) (h0:0≤l) (h1:l≤h) (h2:h≤xs.length) :
 ∃ u,(Instr.sliceAt t v lo hi none).run P w = .ok u w∧RO w ok (.sl e ((xs.take h.toNat).drop l.toNat)) u:=by
 cases hv with
 | sl _ _ a cap c g0 gc gm ge gr g1 gy=>
   have hres:RO w ok (.sl e ((xs.take h.toNat).drop l.toNat)) (.slice (if cap=l.toNat then a else a.map (·.add (l.toNat*e))) (h.toNat - l.toNat) (cap - l.toNat)):=by
    have hlen:((xs.take h.toNat).drop l.toNat).length=h.toNat - l.toNat:=by simp;omega
    have aB:∀ (i:Nat) (x:List RV),((xs.take h.toNat).drop l.toNat)[i]?=some x→xs[l.toNat+i]?=some x∧l.toNat+i<h.toNat:=fun i x hx=>by
     rw [List.getElem?_drop,List.getElem?_take] at hx
     split at hx
     ·exact ⟨hx,by assumption⟩
     ·cases hx
    have:=RO.sl (w:=w) (ok:=ok) e ((xs.take h.toNat).drop l.toNat) (if cap=l.toNat then a else a.map (·.add (l.toNat*e))) (cap - l.toNat) (fun i j=>c (l.toNat+i) j) (fun hn=>by
     have ha:a=none:=by
      split at hn
      ·exact hn
      ·cases a with
       | none=>rfl
       | some a=>cases hn
     obtain ⟨rfl,hc0⟩:=g0 ha
     simp at h2 ⊢
     omega) (by rw [hlen];omega) (by omega) (fun x hx=>ge x (List.mem_of_mem_take (List.mem_of_mem_drop hx))) (fun i x j y hx hy=>by
     obtain ⟨k1,k2⟩:=aB i x hx
     obtain ⟨ad,m1,m2,m3⟩:=gr _ x j y k1 hy
     subst m1
     have hne:¬ cap=l.toNat:=by omega
     refine ⟨ad.add (l.toNat*e),by rw [if_neg hne];rfl,by rw [xS];exact m2,?_⟩
     rw [xR,← m3];congr 2;rw [Nat.add_mul,Nat.add_assoc]) (fun i x j y hx hy=>g1 _ x j y (aB i x hx).1 hy) (fun i x j y hx hy=>gy _ x j y (aB i x hx).1 hy)
    rwa [hlen] at this
   refine ⟨_,?_,hres⟩
   have hb1:(Instr.sliceBounds true xs.length cap lo hi none).run P w = .ok (l.toNat,h.toNat,cap) w:=by
    rcases hlo with ⟨rfl,rfl⟩ | ⟨k,rfl⟩ <;> rcases hhi with ⟨rfl,rfl⟩ | ⟨k',rfl⟩
    ·simp [Instr.sliceBounds]
    ·have:h≤cap:=by omega
     have Nw:0≤h:=by omega
     simp [Instr.sliceBounds,Instr.sliceBound,asIntOf,this,Nw]
    ·simp [Instr.sliceBounds,Instr.sliceBound,asIntOf,h0,h1]
    ·have a1:h≤cap:=by omega
     have a2:0≤h:=by omega
     simp [Instr.sliceBounds,Instr.sliceBound,asIntOf,a1,a2,h0]
     intro hh;omega
   simp [Instr.sliceAt,run_underlying ht,Instr.slice,hb1,jB hs]
theorem Up {t et:TypeId} {e:Nat} (ht:P.underlying t=some (.slice et)) (hs:cj P et=some e) {id az len:Nat} {v:Value} (hv:Rp w (aI C aa hp) aa hp (.row id az len) v) {xs:List (List SV)} (hq:hp id=some (.row e az xs)) (lo:Option Value) (h:Int)
 (hlo:lo=none∨∃ k,lo=some (.int k 0)) (k':IntKind) (h0:0≤h) (h2:h≤len) :
 ∃ u,(Instr.sliceAt t v lo (some (.int k' h)) none).run P w = .ok u w∧Rp w (aI C aa hp) aa hp (.row id az h.toNat) u:=by
 have bounds:∀ (n cap:Nat),len≤cap→(Instr.sliceBounds true n cap lo (some (.int k' h)) none).run P w = .ok (0,h.toNat,cap) w:=fun n cap hc=>by
  have a1:h≤cap:=by omega
  rcases hlo with rfl | ⟨k,rfl⟩
  ·simp [Instr.sliceBounds,Instr.sliceBound,asIntOf,a1,h0]
  ·simp [Instr.sliceBounds,Instr.sliceBound,asIntOf,a1,h0]
 cases hv with
 | row _ _ _ _ g1 g0 jT gv=>
   rcases gv e xs hq with ⟨gr,rfl,rfl⟩ | ⟨b,cap,cur,t0,k1,rfl,k3,k4,k5,k6⟩
   ·have hh:h=0:=by simp at h2;omega
    subst hh
    refine ⟨.slice none 0 0,?_,.row _ _ _ _ rfl g0 jT (fun e' xs' fX=>.inl ⟨gr,rfl,rfl⟩)⟩
    have:=bounds 0 0 (Nat.le_refl _)
    simp [Instr.sliceAt,run_underlying ht,Instr.slice,this,jB hs]
   ·refine ⟨.slice (some ⟨b,0,none⟩) h.toNat cap,?_,.row _ _ _ _ rfl g0 jT (fun e' xs' fX=>.inr ⟨b,cap,cur,t0,k1,rfl,k3,by omega,k5,?_⟩)⟩
    ·have:=bounds len cap k4
     simp [Instr.sliceAt,run_underlying ht,Instr.slice,this,jB hs,Addr.add]
    ·rw [hq] at fX;cases fX;exact k6
def RL (w:World) (ok:Nat→Prop) (aa:Nat→Option Nat) (hp:Hp) (vs:List Value) (cs:List SV):Prop:=
 vs.length=cs.length∧(∀ (j:Nat) (u:Value),vs[j]?=some u→u.oneCell'=true)∧∀ (j:Nat) (y:SV),cs[j]?=some y→Rp w ok aa hp y (vs.getD j undef)
theorem RL.splice {ok:Nat→Prop} {vs us:List Value} {cs xs:List SV} (h:RL w ok aa hp vs cs) (k:RL w ok aa hp us xs) {o:Nat} (ho:o+xs.length≤cs.length):RL w ok aa hp (splice vs o us) (splice cs o xs):=by
 have hu:=k.1
 have hv:=h.1
 refine ⟨by rw [mU _ _ _ (by omega),mU _ _ _ ho,hv],fun j u hj=>?_,fun j y hj=>?_⟩
 ·rw [pF _ _ _ (by omega)] at hj
  split at hj
  ·exact k.2.1 _ u hj
  ·exact h.2.1 _ u hj
 ·rw [pF _ _ _ ho] at hj
  rw [List.getD_eq_getElem?_getD,pF _ _ _ (by omega)]
  by_cases c:o≤j∧j<o+xs.length
  ·rw [if_pos c] at hj
   rw [if_pos (by omega),← List.getD_eq_getElem?_getD];exact k.2.2 _ y hj
  ·rw [if_neg c] at hj
   rw [if_neg (by omega),← List.getD_eq_getElem?_getD];exact h.2.2 _ y hj
theorem RL.agg {ok:Nat→Prop} {vs:List Value} {cs:List SV} (h:RL w ok aa hp vs cs):Rp w ok aa hp (.agg cs) (.agg vs.toArray):=.agg cs vs h.1 h.2.1 h.2.2
def wQ (z:List SV):List (Nat×Nat)→List (List SV)→Option (List SV)
 | [],[]=>some z
 | (o,_)::ps,x::xs=>wQ (splice z o x) ps xs
 | _,_=>none
theorem GQ {ok:Nat→Prop}:∀ (ps:List (Nat×Nat)) (xs:List (List SV)) (us:List (List Value)) (zs:List SV) (zv:List Value) (r:List SV),wQ zs ps xs=some r→RL w ok aa hp zv zs→
 (∀ (j o n:Nat) (x:List SV),ps[j]?=some (o,n)→xs[j]?=some x→x.length=n∧o+n≤zs.length∧∃ u,us[j]?=some u∧RL w ok aa hp u x)→us.length=xs.length→
 ∃ qs:List (Nat×List Value),qs.length=ps.length∧(∀ (j o:Nat) (u:List Value),qs[j]?=some (o,u)→us[j]?=some u∧∃ n,ps[j]?=some (o,n)∧u.length=n)∧RL w ok aa hp (lay zv qs) r
 | [],[],us,zs,zv,r,h,hz,_,_=>by cases h;exact ⟨[],rfl,fun j o u hj=>by simp at hj,hz⟩
 | [],_::_,us,zs,zv,r,h,_,_,_=>by cases h
 | _::_,[],us,zs,zv,r,h,_,_,_=>by cases h
 | (o,n)::ps,x::xs,[],zs,zv,r,h,_,_,hl=>by simp at hl
 | (o,n)::ps,x::xs,u::us,zs,zv,r,h,hz,aE,hl=>by
   obtain ⟨h1,h2,u',h3,h4⟩:=aE 0 o n x rfl rfl
   cases h3
   have hs:=hz.splice h4 (o:=o) (by omega)
   obtain ⟨qs,q1,q2,q3⟩:=GQ ps xs us _ _ r h hs (fun j o' n' x' g1 g2=>by
    obtain ⟨k1,k2,u',k3,k4⟩:=aE (j+1) o' n' x' (by simpa using g1) (by simpa using g2)
    exact ⟨k1,by rw [mU _ _ _ (by omega)];exact k2,u',by simpa using k3,k4⟩) (by simpa using hl)
   refine ⟨(o,u)::qs,by simp [q1],fun j o' u' hj=>?_,q3⟩
   cases j with
   | zero=>simp at hj;obtain ⟨rfl,rfl⟩:=hj;exact ⟨rfl,n,rfl,by rw [h4.1,h1]⟩
   | succ j=>simp at hj;obtain ⟨k1,n',k2,k3⟩:=q2 j o' u' hj;exact ⟨by simpa using k1,n',by simpa using k2,k3⟩
def uG (P:Program) (t:TypeId) (i:Nat):Option (Nat×Nat):=match P.underlying t with
 | some (.struct fs)=>match fs[i]? with
   | some f=>match cj P f.type with
     | some n=>some (f.offset,n)
     | none=>none
   | none=>none
 | some (.array _ et)=>match cj P et with
   | some n=>some (i*n,n)
   | none=>none
 | _=>none
theorem Iw {P:Program} {w:World}:∀ (fs:List Field),(∀ f∈fs,(cj P f.type).isSome=true)→
 (fs.mapM fun f=>(do pure (f.offset,← sizeOf f.type):Sem (Nat×Nat))).run P w = .ok (fs.map fun f=>(f.offset,(cj P f.type).getD 0)) w
 | [],_=>rfl
 | f::r,h=>by
   have h0:=h f (by simp)
   obtain ⟨n,hn⟩:=Option.isSome_iff_exists.1 h0
   have ih:=Iw (w:=w) r (fun f hf=>h f (by simp [hf]))
   simp only [List.mapM_cons,Sem.run_bind,jB hn,Result.andThen_ok,Sem.run_pure,ih]
   simp [hn]
def Bx (P:Program) (t:TypeId):Bool:=match P.underlying t with
 | some (.struct fs)=>fs.toList.all fun f=>(cj P f.type).isSome
 | some (.array _ et)=>(cj P et).isSome
 | _=>false
theorem Lx {t:TypeId} {z:List RV} (hz:kE P t=some z) (mN:Bx P t=true) {ss:List SV} {vs:List Value} {cs:List (List SV)} (hvs:vs.length=ss.length) {ok:Nat→Prop} (Cj:∀ (j:Nat) (s:SV),ss[j]?=some s→Rp w ok aa hp s (vs.getD j undef))
 (hc:nL ss=some cs) {ps:List (Nat×Nat)} {r:List SV} (hl:wQ (z.map .rv) ps cs=some r) (hfit:∀ (j o n:Nat) (x:List SV),ps[j]?=some (o,n)→cs[j]?=some x→x.length=n∧o+n≤z.length)
 {pv:List (Nat×Value)} (gl:pv.length=ps.length) (Cg:∀ (j i:Nat) (v:Value),pv[j]?=some (i,v)→vs[j]?=some v∧ps[j]?=uG P t i) :
 ∃ u,(Instr.build t pv.toArray).run P w = .ok u w∧Rp w ok aa hp (.agg r) u:=by
 obtain ⟨us,h1,h2,h3⟩:=AX hc hvs Cj
 unfold kE at hz
 cases hi:P.info? t with
 | none=>simp [hi] at hz
 | some i=>
   cases jt:i.zero with
   | none=>simp [hi,jt] at hz
   | some zv=>
     simp only [hi,jt] at hz
     have hzl:=sx w ok aa hp hz
     have wH:RL w ok aa hp zv.cells.toList (z.map .rv):=⟨by simpa using hzl.1,hzl.2.1,hzl.2.2⟩
     obtain ⟨qs,q1,q2,q3⟩:=GQ ps cs us (z.map .rv) zv.cells.toList r hl wH (fun j o n x g1 g2=>by
      obtain ⟨k1,k2⟩:=hfit j o n x g1 g2
      obtain ⟨u,m1,m2,m3,m4⟩:=h3 j x g2
      exact ⟨k1,by simpa using k2,u,m1,m2,m3,m4⟩) h1
     have rm:∀ place:Nat→Option (Nat×Nat),(∀ i,place i=uG P t i∨uG P t i=none)→Instr.fill place zv.cells pv=some (lay zv.cells.toList qs).toArray:=fun place sX=>
      By place pv qs zv.cells (by rw [gl,q1]) (fun j i' v o x g1 g2=>by
       obtain ⟨k1,k2⟩:=Cg j i' v g1
       obtain ⟨m1,n,m2,m3⟩:=q2 j o x g2
       obtain ⟨u,a1,a2⟩:=h2 j v k1
       rw [m1] at a1;cases a1
       have hj:j<cs.length:=by rw [← h1];exact (List.getElem?_eq_some_iff.1 m1).1
       obtain ⟨b1,b2⟩:=hfit j o n _ m2 (List.getElem?_eq_getElem hj)
       rw [m2] at k2
       rcases sX i' with h | h
       ·refine ⟨by rw [h,← k2,m3],a2,?_⟩
        have:=hzl.1
        simp at this
        omega
       ·rw [h] at k2;cases k2)
     refine ⟨.agg (lay zv.cells.toList qs).toArray,?_,q3.agg⟩
     unfold Bx at mN
     cases hu:P.underlying t with
     | none=>simp [hu] at mN
     | some d=>
       rw [hu] at mN
       cases d with
       | struct fs=>
         simp only [List.all_eq_true] at mN
         have hm:=Iw (P:=P) (w:=w) fs.toList mN
         have hma:(fs.mapM fun f=>(do pure (f.offset,← sizeOf f.type):Sem (Nat×Nat))).run P w = .ok (fs.toList.map fun f=>(f.offset,(cj P f.type).getD 0)).toArray w:=by
          rw [Array.mapM_eq_mapM_toList]
          simp only [Sem.run_map,hm,Result.andThen_ok]
         have hf:=rm (fun i=>(fs.toList.map fun f=>(f.offset,(cj P f.type).getD 0)).toArray[i]?) (fun i=>by
          unfold uG
          rw [hu]
          simp only [List.getElem?_toArray,List.getElem?_map,Array.getElem?_toList]
          cases hx:fs[i]? with
          | none=>left;rfl
          | some f=>
            have hs:=mN f (by simpa using Array.mem_of_getElem? hx)
            obtain ⟨n,hn⟩:=Option.isSome_iff_exists.1 hs
            left;simp [hn])
         simp only [Instr.build,Sem.run_bind,zeroValue,typeInfo,run_program,Result.andThen_ok,hi,Sem.run_pure,jt,run_underlying hu,hma,hf]
       | array n et=>
         simp only at mN
         obtain ⟨k,hk⟩:=Option.isSome_iff_exists.1 mN
         have hf:=rm (fun i=>some (i*k,k)) (fun i=>by
          unfold uG
          rw [hu];left;simp [hk])
         simp only [Instr.build,Sem.run_bind,zeroValue,typeInfo,run_program,Result.andThen_ok,hi,Sem.run_pure,jt,run_underlying hu,jB hk,hf]
       | _=>simp at mN
end
end Go.aJ

namespace Go.aJ
open Go
section
variable {P:Program} {C:Ctx} {hp:Hp} {w:World} {aa:Nat→Option Nat}
theorem SW (R:cn C hp w aa) {id:Nat} (hf:hp id=none) (nR:C.h0 id=none) {t et:TypeId} {e bytes:Nat} (T:sn P t et e bytes) {z:List RV} (hz:kE P et=some z) (zu:z.length=e) (kl kc:IntKind) (n:Int) (h0:0≤n) (hby:(bytes:Int)*n≤281474976710656) (h63:n≤9223372036854775807) :
 ∃ u w' aK,(Instr.makeSlice t (.int kl n) (.int kc n)).run P w = .ok u w'∧Step C hp (up hp id (some (.row e 0 (List.replicate n.toNat (z.map .rv))))) w w' aa aK∧
  Rp w' (aI C aK (up hp id (some (.row e 0 (List.replicate n.toNat (z.map .rv)))))) aK (up hp id (some (.row e 0 (List.replicate n.toNat (z.map .rv))))) (.row id 0 n.toNat) u:=by
 obtain ⟨i,zv,hi,jt,hsz,mL,hzs⟩:=T.hi
 have hr:=run_make (P:=P) w t et i zv T.ht hi jt kl kc n n h0 (Int.le_refl _) (by rw [mL];exact hby) h63
 unfold kE at hz
 simp only [hi,jt] at hz
 obtain ⟨c1,c2,c3⟩:=sx w (aI C aa hp) aa hp hz
 subst hsz
 have S:=R.make (w1:=w) rfl rfl rfl rfl id (.row i.size 0 (List.replicate n.toNat (z.map .rv))) (madeCells zv.cells (n.toNat*i.size)) et hf nR (by
  refine ⟨fun c hc=>?_,by simp [size_madeCells],fun k c hk j y hj=>?_⟩
  ·rw [List.eq_of_mem_replicate hc];simpa using zu
  ·rw [List.getElem?_replicate] at hk
   split at hk
   ·rename_i hkn
    cases hk
    have hj':j<i.size:=by have:=(List.getElem?_eq_some_iff.1 hj).1;simpa [zu] using this
    have hlt:k*i.size+j<n.toNat*i.size:=by
     have:(k+1)*i.size≤n.toNat*i.size:=Nat.mul_le_mul_right _ hkn
     rw [Nat.add_mul] at this;omega
    have Cc:j<zv.cells.toList.length:=by simp;omega
    have hg:=List.getElem?_eq_getElem Cc
    refine ⟨zv.cells.toList[j],?_,c2 j _ hg,?_⟩
    ·simp only [madeCells,Array.getElem?_map]
     rw [Array.getElem?_range]
     simp only [hlt,if_true,Option.map_some,Option.some.injEq]
     rw [hzs,Nat.mul_comm,Nat.mul_add_mod,Nat.mod_eq_of_lt hj']
     simp [hzs,hj']
    ·have:=c3 j y hj
     rwa [List.getD_eq_getElem?_getD,hg,Option.getD_some] at this
   ·cases hk)
 refine ⟨_,_,_,hr,S,.row id 0 _ _ rfl (by simp) (fun e' v' xs' h'=>by omega) (fun e' xs' h'=>.inr ⟨w.heap.size,_,_,et,cr _ _ _,rfl,heap_alloc_new w _,Nat.le_refl _,by simp only [maxLen];omega,?_⟩)⟩
 rw [cr] at h';cases h'
 simp [size_madeCells]
theorem Uo {t et:TypeId} {e:Nat} (ht:P.underlying t=some (.slice et)) (hs:cj P et=some e) (lo hi:Option Value) (hlo:lo=none∨∃ k,lo=some (.int k 0)) (hhi:hi=none∨∃ k,hi=some (.int k 0)) :
 (Instr.sliceAt t (.slice none 0 0) lo hi none).run P w = .ok (.slice none 0 0) w:=by
 have hb1:(Instr.sliceBounds true 0 0 lo hi none).run P w = .ok (0,0,0) w:=by
  rcases hlo with rfl | ⟨k,rfl⟩ <;> rcases hhi with rfl | ⟨k',rfl⟩ <;> simp [Instr.sliceBounds,Instr.sliceBound,asIntOf]
 simp [Instr.sliceAt,run_underlying ht,Instr.slice,hb1,jB hs]
theorem Wy {n:Int} (h1 : -9223372036854775808≤n) (h2:n<9223372036854775808):IntKind.i64.wrap n=n:=by
 unfold IntKind.wrap
 simp only [IntKind.signed,IntKind.bits]
 by_cases h:(9223372036854775808:Int)≤n % 18446744073709551616 <;> simp [h] <;> omega
theorem TW (w:World) (t tx ty e:TypeId) (i:TypeInfo) (z:Value) (ht:P.underlying t=some (.slice e)) (hx:P.underlying tx=some (.int .i64)) (hi:P.info? e=some i) (hz:i.zero=some z) (hp:0<i.size) (k:IntKind) (n:Int) (h0:0<n) (h63:n≤9223372036854775807) (hby:n*i.bytes≤281474976710656) :
 (Builtin.append_ #[t,tx] ty #[.slice none 0 0,.int k n]).run P w =
   .ok (.slice (some ⟨w.heap.size,0,none⟩) n.toNat (grownCap w n.toNat 0 e))
    (w.drew.alloc (.cells (Builtin.zeroCells z.cells n.toNat++Builtin.zeroCells z.cells (grownCap w n.toNat 0 e - n.toNat)) e)):=by
 have hw:IntKind.i64.wrap n=n:=Wy (by omega) (by omega)
 have Ce:((n.toNat:Nat):Int)=n:=by omega
 have hlt:¬ (n<0):=by omega
 have h1:¬ (281474976710656<n*i.bytes):=by omega
 have h2:¬ (n.toNat=0):=by omega
 have h3:¬ (9223372036854775807<n):=by omega
 have h4:¬ (281474976710656<n.toNat*i.bytes):=by
  intro h
  have:((281474976710656:Nat):Int)<((n.toNat*i.bytes:Nat):Int):=by omega
  rw [Int.natCast_mul,Ce] at this
  omega
 have h5:¬ i.size=0:=by omega
 have h6:¬ (n≤0):=by omega
 have h7:max n 0=n:=by omega
 simp [Builtin.append_,run_underlying ht,run_underlying hx,sizeOf,typeInfo,zeroValue,hi,hz,asInt,asIntOf,hw,h6,h7,h0,hlt,h1,h2,h3,h4,h5,Builtin.nextslicecap,Builtin.firstCells,Question.forced,newRow,grownCap]
 intro h;exact absurd h (Nat.mul_ne_zero h2 h5)
theorem Le (R:cn C hp w aa) {t t' et:TypeId} {e bytes:Nat} (T:sn P t et e bytes) (ty:TypeId) (hu:P.underlying t'=some (.int .i64)) {id:Nat} (hf:hp id=none) (nR:C.h0 id=none) (k:IntKind) (n:Int) (h0:0<n) (h63:n.toNat≤maxLen) (hby:n.toNat*bytes≤140737488355328) :
 ∃ u w' aK,(Builtin.append_ #[t,t'] ty #[.slice none 0 0,.int k n]).run P w = .ok u w'∧Step C hp (up hp id (some (.row e 0 []))) w w' aa aK∧
  Rp w' (aI C aK (up hp id (some (.row e 0 [])))) aK (up hp id (some (.row e 0 []))) (.row id 0 n.toNat) u:=by
 obtain ⟨i,z,hi,hz,hsz,mL,hzs⟩:=T.hi
 have hpos:=T.pos
 subst hsz
 have Ce:((n.toNat:Nat):Int)=n:=by omega
 have hr:=TW (P:=P) w t t' ty et i z T.ht hu hi hz hpos k n h0 (by simp only [maxLen] at h63;omega) (by
  have:((n.toNat*bytes:Nat):Int)≤140737488355328:=by omega
  rw [Int.natCast_mul,Ce] at this
  rw [mL];omega)
 have BM:=grownCap_le_maxLen w n.toNat 0 et h63
 have BL:=grownCap_ge w n.toNat 0 et
 have S:=R.make (w1:=w.drew) rfl rfl rfl rfl id (.row i.size 0 []) (Builtin.zeroCells z.cells n.toNat++Builtin.zeroCells z.cells (grownCap w n.toNat 0 et - n.toNat)) et hf nR (by
  refine ⟨fun c hc=>by simp at hc,by simp,fun k c hk=>by simp at hk⟩)
 refine ⟨_,_,_,hr,S,.row id 0 _ _ rfl (by simp) (fun e' v' xs' h'=>by omega) (fun e' xs' h'=>.inr ⟨w.heap.size,_,_,et,cr _ _ _,rfl,heap_alloc_new w.drew _,BL,BM,?_⟩)⟩
 rw [cr] at h';cases h'
 simp only [Array.size_append,size_zeroCells,hzs,← Nat.add_mul]
 exact Nat.mul_le_mul_right _ (by omega)
theorem HR {ok:Nat→Prop} {cs:List SV} {v:Value} (hv:Rp w ok aa hp (.agg cs) v) {t:TypeId} {off n:Nat} (ha:fD P t=some true) (hs:cj P t=some n) (hl:off+n≤cs.length) :
 ∃ arr,v = .agg arr∧∃ u,(part t arr off).run P w = .ok u w∧Rp w ok aa hp (.agg ((cs.drop off).take n)) u:=by
 cases hv with
 | agg _ vs h1 h2 h3=>
   refine ⟨_,rfl,.agg ((vs.drop off).take n).toArray,?_,.agg _ _ (by simp [h1]) (fun j u hu=>?_) (fun j y hy=>?_)⟩
   ·simp [part,uO ha,jB hs]
   ·rw [List.getElem?_take] at hu
    split at hu
    ·rw [List.getElem?_drop] at hu;exact h2 _ u hu
    ·cases hu
   ·rw [List.getElem?_take] at hy
    split at hy
    ·rename_i hj
     rw [List.getElem?_drop] at hy
     have:=h3 _ y hy
     rw [List.getD_eq_getElem?_getD] at this ⊢
     rw [List.getElem?_take,if_pos hj,List.getElem?_drop];exact this
    ·cases hy
theorem HS {ok:Nat→Prop} {cs:List SV} {v:Value} (hv:Rp w ok aa hp (.agg cs) v) {t:TypeId} {off:Nat} (ha:fD P t=some false) {y:SV} (hy:cs[off]?=some y) :
 ∃ arr,v = .agg arr∧∃ u,(part t arr off).run P w = .ok u w∧Rp w ok aa hp y u:=by
 cases hv with
 | agg _ vs h1 h2 h3=>
   have hlt:off<vs.length:=by rw [h1];exact (List.getElem?_eq_some_iff.1 hy).1
   have hg:=List.getElem?_eq_getElem hlt
   have:=h3 off y hy
   rw [List.getD_eq_getElem?_getD,hg,Option.getD_some] at this
   refine ⟨_,rfl,vs[off],?_,this⟩
   simp [part,uO ha,hlt]
theorem MB {ok:Nat→Prop} {cs:List SV} {v:Value} (hv:Rp w ok aa hp (.agg cs) v) {s ft:TypeId} {f off n:Nat} (h:nN P s f=some (off,ft)) (ha:fD P ft=some true) (hs:cj P ft=some n) (hl:off+n≤cs.length) :
 ∃ u,(Instr.field s v f).run P w = .ok u w∧Rp w ok aa hp (.agg ((cs.drop off).take n)) u:=by
 obtain ⟨arr,rfl,u,h1,h2⟩:=HR hv ha hs hl
 refine ⟨u,?_,h2⟩
 unfold nN at h
 split at h
 ·rename_i fs hu
  split at h
  ·rename_i x hx
   cases h
   simp [Instr.field,run_underlying hu,hx,asAgg,h1]
  ·cases h
 ·cases h
theorem MC {ok:Nat→Prop} {cs:List SV} {v:Value} (hv:Rp w ok aa hp (.agg cs) v) {s ft:TypeId} {f off:Nat} (h:nN P s f=some (off,ft)) (ha:fD P ft=some false) {y:SV} (hy:cs[off]?=some y) :
 ∃ u,(Instr.field s v f).run P w = .ok u w∧Rp w ok aa hp y u:=by
 obtain ⟨arr,rfl,u,h1,h2⟩:=HS hv ha hy
 refine ⟨u,?_,h2⟩
 unfold nN at h
 split at h
 ·rename_i fs hu
  split at h
  ·rename_i x hx
   cases h
   simp [Instr.field,run_underlying hu,hx,asAgg,h1]
  ·cases h
 ·cases h
theorem PB {ok:Nat→Prop} {cs:List SV} {v:Value} (hv:Rp w ok aa hp (.agg cs) v) {t et:TypeId} {len e:Nat} (ht:P.underlying t=some (.array len et)) (hs:cj P et=some e) (ha:fD P et=some false) (k:IntKind) (i:Int) (h0:0≤i) (h1:i<len) {y:SV} (hy:cs[i.toNat*e]?=some y) :
 ∃ u,(Instr.index t v (.int k i)).run P w = .ok u w∧Rp w ok aa hp y u:=by
 obtain ⟨arr,rfl,u,g1,g2⟩:=HS hv ha hy
 exact ⟨u,by simp [Instr.index,asIntOf,run_underlying ht,h0,h1,jB hs,g1],g2⟩
theorem PA {ok:Nat→Prop} {cs:List SV} {v:Value} (hv:Rp w ok aa hp (.agg cs) v) {t et:TypeId} {len e:Nat} (ht:P.underlying t=some (.array len et)) (hs:cj P et=some e) (ha:fD P et=some true) (k:IntKind) (i:Int) (h0:0≤i) (h1:i<len) (hl:i.toNat*e+e≤cs.length) :
 ∃ u,(Instr.index t v (.int k i)).run P w = .ok u w∧Rp w ok aa hp (.agg ((cs.drop (i.toNat*e)).take e)) u:=by
 obtain ⟨arr,rfl,u,g1,g2⟩:=HR hv ha hs hl
 exact ⟨u,by simp [Instr.index,asIntOf,run_underlying ht,h0,h1,jB hs,g1],g2⟩
def lu (hp:Hp):SV→Option (Prop×Bool×List Nat)
 | .rv .lV=>some (True,true,[])
 | .rv (.rop _)=>some (True,false,[])
 | .ptr id _=>match hp id with
   | some (.var _)=>some (True,false,[id])
   | _=>none
 | .bX id az _ _=>match hp id with
   | some (.row _ bL _)=>some (bL=az,false,[id])
   | _=>none
 | _=>none
theorem TX {t el:TypeId} (ht:P.underlying t=some (.pointer el)) {s:SV} {v:Value} (hv:Rp w (aI C aa hp) aa hp s v) {p:Prop} {b:Bool} {rd:List Nat} (h:lu hp s=some (p,b,rd)) (aE:p) :
 (binOp .eql t v (.pointer none)).run P w = .ok (.bool b) w∧(binOp .neq t v (.pointer none)).run P w = .ok (.bool !b) w:=by
 have core:∀ a:Option Addr,(Op.equal t (.pointer a) (.pointer none)).run P w = .ok a.isNone w:=fun a=>by
  have c:∀ d,(Op.equalIn (d+1) t (.pointer a) (.pointer none)).run P w = .ok a.isNone w:=fun d=>by
   cases a <;> simp [Op.equalIn,run_underlying ht]
  exact c 9999
 have fin:∀ a:Option Addr,v = .pointer a→a.isNone=b→(binOp .eql t v (.pointer none)).run P w = .ok (.bool b) w∧(binOp .neq t v (.pointer none)).run P w = .ok (.bool !b) w:=fun a Co hb=>by
  subst Co;subst hb
  have:=core a
  constructor <;> cases a <;> simp [binOp,this]
 cases hv with
 | rv r v hr=>
   cases r with
   | lV=>cases hr;cases h;exact fin none rfl rfl
   | rop cs=>cases hr;cases h;exact fin _ rfl rfl
   | _=>cases h
 | ptr id off _ h1 h0 hb=>
   simp only [lu] at h
   split at h
   ·rename_i cs hq
    cases h
    obtain ⟨b',_,rfl⟩:=hb cs hq
    exact fin _ rfl rfl
   ·cases h
 | bX id az i off _ h1 h0 hle hb=>
   simp only [lu] at h
   split at h
   ·rename_i e bL xs hq
    cases h
    subst aE
    obtain ⟨b',_,rfl⟩:=hb e xs hq
    exact fin _ rfl rfl
   ·cases h
 | _=>cases h
end
end Go.aJ

namespace Go.aJ
open Go
inductive CK where
 | b | i | s
 deriving Inhabited,DecidableEq
def tW:CK→Value→Value→Option Bool
 | .b,.bool a,.bool b=>some (a == b)
 | .i,.int k a,.int k' b=>if k=k' then some (a == b) else none
 | .s,.string a,.string b=>some (a.toList == b.toList)
 | _,_,_=>none
def ki:List CK→List Value→List Value→Option Bool
 | [],[],[]=>some true
 | k::ks,x::xs,y::ys=>match tW k x y,ki ks xs ys with
   | some a,some b=>some (a && b)
   | _,_=>none
 | _,_,_=>none
def yI (P:Program) (rec:TypeId→Option (List CK)):Nat→List Field→Option (List CK)
 | _,[]=>some []
 | off, f :: r => if f.name = "_" ∨ f.offset ≠ off then none else match rec f.type, P.info? f.type with
   | some ks,some i=>if i.size=ks.length then match yI P rec (off+ks.length) r with
     | some l=>some (ks++l)
     | none=>none
     else none
   | _,_=>none
def mI (P:Program):Nat→TypeId→Option (List CK)
 | 0,_=>none
 | D+1,t=>match P.underlying t with
   | some .bool=>some [.b]
   | some (.int _)=>some [.i]
   | some .string=>some [.s]
   | some (.array n e)=>match mI P D e,P.info? e with
     | some ks,some i=>if i.size=ks.length then some ((List.replicate n ks).flatten) else none
     | _,_=>none
   | some (.struct fs)=>if P.stoodInHeld t then none else yI P (mI P D) 0 fs.toList
   | _=>none
def mV (P:Program) (t:TypeId) (cs:List Value):Value:=match P.underlying t with
 | some (.struct _) | some (.array _ _)=>.agg cs.toArray
 | _=>cs.headD undef
theorem yw:∀ {ks:List CK} {xs ys:List Value} {r:Bool},ki ks xs ys=some r→xs.length=ks.length∧ys.length=ks.length
 | [],[],[],_,_=>⟨rfl,rfl⟩
 | k::ks,x::xs,y::ys,r,h=>by
   unfold ki at h
   split at h
   ·rename_i a b ha hb
    have:=yw hb
    simp [this.1,this.2]
   ·cases h
 | [],_::_,_,_,h=>by cases h
 | [],[],_::_,_,h=>by cases h
 | _::_,[],_,_,h=>by cases h
 | _::_,_::_,[],_,h=>by cases h
theorem AY:∀ {ks ls:List CK} {xs ys:List Value} {r:Bool},ki (ks++ls) xs ys=some r→
 ∃ r1 r2,ki ks (xs.take ks.length) (ys.take ks.length)=some r1∧ki ls (xs.drop ks.length) (ys.drop ks.length)=some r2∧r=(r1 && r2)
 | [],ls,xs,ys,r,h=>⟨true,r,rfl,by simpa using h,by simp⟩
 | k::ks,ls,x::xs,y::ys,r,h=>by
   simp only [List.cons_append,ki] at h
   split at h
   ·rename_i a b ha hb
    obtain ⟨r1,r2,h1,h2,h3⟩:=AY hb
    cases h
    refine ⟨a && r1,r2,?_,by simpa using h2,by rw [h3,Bool.and_assoc]⟩
    simp only [List.length_cons,List.take_succ_cons,ki,ha,h1]
   ·cases h
 | _::_,_,[],_,_,h=>by simp [ki] at h
 | _::_,_,_::_,[],_,h=>by simp [ki] at h
section
variable {P:Program}
theorem Ae {e:TypeId} {i:TypeInfo} (hi:P.info? e=some i) {kd:TypeDesc} (hu:P.underlying e=some kd) {ks:List CK} (hn:i.size=ks.length) (hk:fD P e=some false→ks.length=1) {xs:List Value} {off:Nat} (hl:off+ks.length≤xs.length) (w:World) :
 (part e xs.toArray off).run P w = .ok (mV P e ((xs.drop off).take ks.length)) w:=by
 have hs:cj P e=some ks.length:=by simp [cj,hi,hn]
 have ht:∃ b,fD P e=some b:=by simp [fD,hu]
 obtain ⟨b,hb⟩:=ht
 cases b with
 | true=>
   have hw:mV P e ((xs.drop off).take ks.length) = .agg ((xs.drop off).take ks.length).toArray:=by
    unfold mV
    simp only [fD,hu,Option.map_some,Option.some.injEq] at hb
    rw [hu]
    split at hb
    ·rfl
    ·rfl
    ·cases hb
   rw [hw]
   simp only [part,Sem.run_bind,uO hb,Result.andThen_ok,if_true,jB hs,Sem.run_pure]
   have:(xs.toArray.extract off (off+ks.length))=((xs.drop off).take ks.length).toArray:=by
    apply Array.ext'
    rw [Array.toList_extract]
    simp [List.extract]
   rw [this]
 | false=>
   have h1:=hk hb
   rw [h1] at hl ⊢
   have hlt:off<xs.length:=by omega
   have hd:(xs.drop off).take 1=[xs[off]]:=by
    rw [List.drop_eq_getElem_cons hlt];rfl
   have hw:mV P e [xs[off]]=xs[off]:=by
    unfold mV
    simp only [fD,hu,Option.map_some,Option.some.injEq] at hb
    rw [hu]
    split at hb
    ·cases hb
    ·cases hb
    ·rename_i h1 h2
     split
     ·rename_i he;cases he;exact absurd rfl (h1 _)
     ·rename_i he;cases he;exact absurd rfl (h2 _ _)
     ·rfl
   rw [hd,hw]
   simp only [part,Sem.run_bind,uO hb,Result.andThen_ok,Bool.false_eq_true,if_false]
   have:xs.toArray[off]?=some xs[off]:=by simp [hlt]
   rw [this];rfl
theorem yJ {D:Nat} {t:TypeId} {ks:List CK} (h:mI P D t=some ks) (ha:fD P t=some false):ks.length=1:=by
 cases D with
 | zero=>cases h
 | succ D=>
   unfold mI at h
   unfold fD at ha
   split at h
   ·cases h;rfl
   ·cases h;rfl
   ·cases h;rfl
   ·rename_i hu;simp [hu] at ha
   ·rename_i hu;simp [hu] at ha
   ·cases h
def AA (P:Program) (d:Nat) (t:TypeId) (ks:List CK):Prop:=∀ (cx cy:List Value) (r:Bool),ki ks cx cy=some r→∀ w,(Op.equalIn d t (mV P t cx) (mV P t cy)).run P w = .ok r w
theorem EV {D:Nat} {t:TypeId} {ks:List CK} (h:mI P D t=some ks):∃ kd,P.underlying t=some kd:=by
 cases D with
 | zero=>cases h
 | succ D=>
   unfold mI at h
   split at h <;> first | exact ⟨_,by assumption⟩ | cases h
theorem Ir {d D:Nat} (IH:∀ (t:TypeId) (ks:List CK),mI P D t=some ks→AA P d t ks) {X Y:List Value}:∀ (fs:List Field) (off:Nat) (ks:List CK) (r:Bool),yI P (mI P D) off fs=some ks→ki ks (X.drop off) (Y.drop off)=some r→off≤X.length→off≤Y.length→∀ w,(Op.eqFields d X.toArray Y.toArray fs).run P w = .ok r w
 | [],off,ks,r,h,hc,_,_,w=>by
   cases h
   cases hx:X.drop off with
   | nil=>cases hy:Y.drop off with
     | nil=>rw [hx,hy] at hc;cases hc;rfl
     | cons=>rw [hx,hy] at hc;cases hc
   | cons=>rw [hx] at hc;cases hc
 | f::fs,off,ks,r,h,hc,hX,hY,w=>by
   unfold yI at h
   split at h
   ·cases h
   ·rename_i hno
    split at h
    ·rename_i k1 i fH hi
     split at h
     ·rename_i hsz
      split at h
      ·rename_i l hl
       cases h
       obtain ⟨r1,r2,h1,h2,rfl⟩:=AY hc
       have hlen:=yw hc
       simp only [List.length_drop,List.length_append] at hlen
       obtain ⟨kd,hu⟩:=EV fH
       have hoff:f.offset=off:=by
        by_cases he:f.offset=off
        ·exact he
        ·exact absurd (.inr he) hno
       have hname : ¬ f.name = "_" := fun he => hno (.inl he)
       have pX:=Ae (P:=P) hi hu hsz (yJ fH) (xs:=X) (off:=off) (by omega) w
       have pY:=Ae (P:=P) hi hu hsz (yJ fH) (xs:=Y) (off:=off) (by omega) w
       have pE:=IH f.type k1 fH _ _ r1 h1 w
       simp only [Op.eqFields,hname,ne_eq,not_false_eq_true,if_true,Sem.run_bind,hoff,pX,pY,pE,Result.andThen_ok]
       cases r1 with
       | false=>simp
       | true=>
         simp only [Bool.not_true,Bool.false_eq_true,if_false,Bool.true_and]
         refine Ir IH fs (off+k1.length) l r2 hl ?_ (by omega) (by omega) w
         rw [← List.drop_drop,← List.drop_drop];exact h2
      ·cases h
     ·cases h
    ·cases h
theorem Is {d D:Nat} {e:TypeId} {ks:List CK} (hk:mI P D e=some ks) (IH:AA P d e ks) {i:TypeInfo} (hi:P.info? e=some i) (hsz:i.size=ks.length) {X Y:List Value}:∀ (n k:Nat) (r:Bool),ki ((List.replicate n ks).flatten) (X.drop (k*ks.length)) (Y.drop (k*ks.length))=some r→k*ks.length≤X.length→k*ks.length≤Y.length→∀ w,(Op.eqItems d e ks.length X.toArray Y.toArray (List.range' k n)).run P w = .ok r w
 | 0,k,r,hc,_,_,w=>by
   simp only [List.replicate_zero,List.flatten_nil] at hc
   cases hx:X.drop (k*ks.length) with
   | nil=>cases hy:Y.drop (k*ks.length) with
     | nil=>rw [hx,hy] at hc;cases hc;rfl
     | cons=>rw [hx,hy] at hc;cases hc
   | cons=>rw [hx] at hc;cases hc
 | n+1,k,r,hc,hX,hY,w=>by
   rw [List.replicate_succ,List.flatten_cons] at hc
   obtain ⟨r1,r2,h1,h2,rfl⟩:=AY hc
   have hlen:=yw hc
   simp only [List.length_drop,List.length_append] at hlen
   obtain ⟨kd,hu⟩:=EV hk
   have pX:=Ae (P:=P) hi hu hsz (yJ hk) (xs:=X) (off:=k*ks.length) (by omega) w
   have pY:=Ae (P:=P) hi hu hsz (yJ hk) (xs:=Y) (off:=k*ks.length) (by omega) w
   have pE:=IH _ _ r1 h1 w
   have hs:(k+1)*ks.length=k*ks.length+ks.length:=by rw [Nat.add_mul,Nat.one_mul]
   simp only [List.range'_succ,Op.eqItems,Sem.run_bind,pX,pY,pE,Result.andThen_ok]
   cases r1 with
   | false=>simp
   | true=>
     simp only [Bool.not_true,Bool.false_eq_true,if_false,Bool.true_and]
     refine Is hk IH hi hsz n (k+1) r2 ?_ (by omega) (by omega) w
     rw [hs,← List.drop_drop,← List.drop_drop];exact h2
theorem Bw (d:Nat):∀ (D:Nat) (t:TypeId) (ks:List CK),mI P D t=some ks→AA P (d+D) t ks
 | 0,t,ks,h=>by cases h
 | D+1,t,ks,h=>by
   intro cx cy r hc w
   have hlen:=yw hc
   unfold mI at h
   split at h
   ·rename_i hu
    cases h
    obtain ⟨x,rfl⟩:=List.length_eq_one_iff.1 hlen.1
    obtain ⟨y,rfl⟩:=List.length_eq_one_iff.1 hlen.2
    cases x <;> cases y <;>(simp [ki,tW] at hc)
    subst hc
    simp only [mV,hu,List.headD_cons]
    exact run_equalIn_bool w (d+D) t _ _ hu
   ·rename_i k hu
    cases h
    obtain ⟨x,rfl⟩:=List.length_eq_one_iff.1 hlen.1
    obtain ⟨y,rfl⟩:=List.length_eq_one_iff.1 hlen.2
    cases x <;> cases y <;>(simp [ki,tW] at hc)
    rename_i k1 a k2 b
    by_cases hk:k1=k2
    ·subst hk
     simp at hc
     subst hc
     simp only [mV,hu,List.headD_cons]
     exact run_equalIn_int w (d+D) t _ _ _ _ hu
    ·simp [hk] at hc
   ·rename_i hu
    cases h
    obtain ⟨x,rfl⟩:=List.length_eq_one_iff.1 hlen.1
    obtain ⟨y,rfl⟩:=List.length_eq_one_iff.1 hlen.2
    cases x <;> cases y <;>(simp [ki,tW] at hc)
    subst hc
    simp only [mV,hu,List.headD_cons]
    exact run_equalIn_string w (d+D) t _ _ hu
   ·rename_i n e hu
    split at h
    ·rename_i k1 i fH hi
     split at h
     ·rename_i hsz
      cases h
      simp only [mV,hu]
      have mM:P.cellsOf e=k1.length:=by simp [Program.cellsOf,hi,hsz]
      rw [show d+(D+1)=(d+D)+1 from rfl,run_equalIn_array w (d+D) _ _ hu hi,mM,List.range_eq_range']
      refine Is fH (Bw d D e k1 fH) hi hsz n 0 r ?_ (by simp) (by simp) w
      simpa using hc
     ·cases h
    ·cases h
   ·rename_i fs hu
    split at h
    ·cases h
    ·rename_i hst
     simp only [mV,hu]
     have mN:P.fieldsOf t=fs:=by simp [Program.fieldsOf,hu]
     rw [show d+(D+1)=(d+D)+1 from rfl,run_equalIn_struct w (d+D) t _ _ (by rw [mN];exact hu) (by simpa using hst),mN]
     exact Ir (Bw d D) fs.toList 0 ks r h (by simpa using hc) (by simp) (by simp) w
   ·cases h
end
def yu:CK→SV→SV→Option (Prop×Bool)
 | .b,.rv (.bool a),.rv (.bool b)=>some (True,a == b)
 | .i,.rv (.int k a),.rv (.int k' b)=>some (k=k',a == b)
 | .s,.rv (.str a),.rv (.str b)=>some (True,a.toList == b.toList)
 | _,_,_=>none
def vp:List CK→List SV→List SV→Option (Prop×Bool)
 | [],[],[]=>some (True,true)
 | k::ks,x::xs,y::ys=>match yu k x y,vp ks xs ys with
   | some (p,a),some (q,b)=>some (p∧q,a && b)
   | _,_=>none
 | _,_,_=>none
theorem LI {w:World} {ok:Nat→Prop} {aa:Nat→Option Nat} {hp:Hp} {k:CK} {x y:SV} {u v:Value} (hu:Rp w ok aa hp x u) (hv:Rp w ok aa hp y v) {p:Prop} {b:Bool} (h:yu k x y=some (p,b)) (aE:p):tW k u v=some b:=by
 unfold yu at h
 split at h
 ·cases h
  cases hu with | rv _ _ hr=>cases hv with | rv _ _ hs=>cases hr;cases hs;rfl
 ·cases h
  cases hu with | rv _ _ hr=>cases hv with | rv _ _ hs=>cases hr;cases hs;simp [tW,aE]
 ·cases h
  cases hu with | rv _ _ hr=>cases hv with | rv _ _ hs=>cases hr;cases hs;rfl
 ·cases h
theorem En {w:World} {ok:Nat→Prop} {aa:Nat→Option Nat} {hp:Hp}:∀ {ks:List CK} {xs ys:List SV} {us vs:List Value} {p:Prop} {b:Bool},us.length=xs.length→vs.length=ys.length→(∀ (j:Nat) (y:SV),xs[j]?=some y→Rp w ok aa hp y (us.getD j undef))→(∀ (j:Nat) (y:SV),ys[j]?=some y→Rp w ok aa hp y (vs.getD j undef))→
 vp ks xs ys=some (p,b)→p→ki ks us vs=some b
 | [],[],[],us,vs,p,b,h1,h2,_,_,h,_=>by
   cases h
   obtain rfl:=List.eq_nil_of_length_eq_zero h1
   obtain rfl:=List.eq_nil_of_length_eq_zero h2
   rfl
 | k::ks,x::xs,y::ys,us,vs,p,b,h1,h2,hu,hv,h,aE=>by
   unfold vp at h
   split at h
   ·rename_i p1 a q c ha hc
    cases h
    cases us with
    | nil=>simp at h1
    | cons u us=>
      cases vs with
      | nil=>simp at h2
      | cons v vs=>
        have e1:=LI (hu 0 x rfl) (hv 0 y rfl) ha aE.1
        have e2:=En (us:=us) (vs:=vs) (by simpa using h1) (by simpa using h2) (fun j y hj=>hu (j+1) y (by simpa using hj)) (fun j y hj=>hv (j+1) y (by simpa using hj)) hc aE.2
        simp only [List.getD_cons_zero] at e1
        simp only [ki,e1,e2]
   ·cases h
 | [],_::_,_,_,_,_,_,_,_,_,_,h,_=>by cases h
 | [],[],_::_,_,_,_,_,_,_,_,_,h,_=>by cases h
 | _::_,[],_,_,_,_,_,_,_,_,_,h,_=>by cases h
 | _::_,_::_,[],_,_,_,_,_,_,_,_,h,_=>by cases h
end Go.aJ

namespace Go.aJ
open Go
def chunks {α:Type} (e:Nat):Nat→List α→List (List α)
 | 0,_=>[]
 | n+1,cs=>cs.take e::chunks e n (cs.drop e)
theorem yy {α:Type} {e:Nat}:∀ {n:Nat} {cs:List α},(chunks e n cs).length=n
 | 0,_=>rfl
 | n+1,cs=>by simp [chunks,yy (n:=n)]
theorem Bc {α:Type} {e:Nat}:∀ {n:Nat} {cs:List α} {i:Nat} {x:List α},n*e≤cs.length→(chunks e n cs)[i]?=some x→x.length=e∧i<n∧∀ j,j<e→x[j]?=cs[i*e+j]?
 | 0,_,i,x,_,h=>by simp [chunks] at h
 | n+1,cs,i,x,hl,h=>by
   rw [Nat.add_mul,Nat.one_mul] at hl
   cases i with
   | zero=>
     simp [chunks] at h
     subst h
     refine ⟨by simp;omega,by omega,fun j hj=>?_⟩
     rw [List.getElem?_take,if_pos hj];simp
   | succ i=>
     simp only [chunks,List.getElem?_cons_succ] at h
     obtain ⟨a,b,c⟩:=Bc (by simp;omega) h
     refine ⟨a,by omega,fun j hj=>?_⟩
     rw [c j hj,List.getElem?_drop,Nat.add_mul]
     congr 1;omega
section
variable {P:Program} {C:Ctx} {hp:Hp} {w:World} {aa:Nat→Option Nat}
theorem Mh (R:cn C hp w aa) {id az off len:Nat} {v:Value} (hv:Rp w (aI C aa hp) aa hp (.win id az off len) v) {e:Nat} {xs:List (List SV)} (hq:hp id=some (.row e az xs)) (hl:off+len≤xs.length) :
 kG w (aI C aa hp) aa hp e v ((xs.drop off).take len):=by
 cases hv with
 | win _ _ _ _ _ g1 g0 jT gr gc=>
   obtain ⟨ad,cap,rfl,k1,k2,k3,k4⟩:=gr e xs hq
   have hlt:((xs.drop off).take len).length=len:=by simp;omega
   rcases R.heap id _ hq with ⟨hn,_,_,h2⟩ | ⟨b',cur,t1,m1,m2,m3⟩
   ·cases h2
    simp at hl
    obtain ⟨rfl,rfl⟩:=hl
    cases ad with
    | none=>rw [k3 rfl];simpa using Bq e
    | some ad=>
      have:=kG.mk' (w:=w) (ok:=aI C aa hp) (aa:=aa) (hp:=hp) (e:=e) (cap:=cap) (a:=some ad) (ys:=[]) (fun _ _=>undef) (by simp) (by simp) (by simp) (by simp)
      simpa using this
   ·have:=kG.mk' (w:=w) (ok:=aI C aa hp) (aa:=aa) (hp:=hp) (e:=e) (cap:=cap) (a:=ad) (ys:=(xs.drop off).take len) (fun i j=>cur.getD ((off+i)*e+j) undef) (fun c hc=>m3.1 c (List.mem_of_mem_drop (List.mem_of_mem_take hc))) (by omega) (fun h=>by have:=k3 h;exact ⟨List.eq_nil_of_length_eq_zero (by omega),this⟩) (fun i x j y hx hy=>by
     rw [List.getElem?_take] at hx
     split at hx
     ·rw [List.getElem?_drop] at hx
      obtain ⟨u,h1,h2,h3⟩:=m3.2.2 _ x hx j y hy
      have hgd:cur.getD ((off+i)*e+j) undef=u:=by rw [Array.getD_eq_getD_getElem?,h1];rfl
      rw [hgd]
      refine ⟨h2,h3,fun DM had=>?_⟩
      obtain ⟨b,hb,hab⟩:=k4 (by omega)
      rw [had] at hab;cases hab
      rw [m1] at hb;cases hb
      rw [add_lit,qn m2]
      rw [show off*e+(i*e+j)=(off+i)*e+j by rw [Nat.add_mul];omega];exact h1
     ·cases hx)
    rwa [hlt] at this
theorem Mi (R:cn C hp w aa) {id az off len:Nat} {v:Value} (hv:Rp w (aI C aa hp) aa hp (.win id az off len) v) {e:Nat} {cs:List SV} (hq:hp id=some (.var cs)) (hl:off+len*e≤cs.length) :
 kG w (aI C aa hp) aa hp e v (chunks e len (cs.drop off)):=by
 cases hv with
 | win _ _ _ _ _ g1 g0 jT gr gc=>
   obtain ⟨ad,cap,rfl,k1,k2,k3,k4⟩:=gc cs hq
   have hdl:len*e≤(cs.drop off).length:=by simp;omega
   rcases R.heap id _ hq with ⟨hn,_,_,h2⟩ | ⟨b',cur,t1,m1,m2,m3⟩
   ·cases h2
   ·have:=kG.mk' (w:=w) (ok:=aI C aa hp) (aa:=aa) (hp:=hp) (e:=e) (cap:=cap) (a:=ad) (ys:=chunks e len (cs.drop off)) (fun i j=>cur.getD (off+(i*e+j)) undef) (fun c hc=>by
     obtain ⟨i,hi⟩:=List.getElem?_of_mem hc
     exact (Bc hdl hi).1) (by rw [yy];omega) (fun h=>by have:=k3 h;exact ⟨List.eq_nil_of_length_eq_zero (by rw [yy];omega),this⟩) (fun i x j y hx hy=>by
     obtain ⟨a1,a2,a3⟩:=Bc hdl hx
     have hj:j<e:=by have:=(List.getElem?_eq_some_iff.1 hy).1;omega
     rw [a3 j hj,List.getElem?_drop] at hy
     obtain ⟨u,h1,h2,h3⟩:=m3.2 _ y hy
     rw [Nat.zero_add] at h1
     have hgd:cur.getD (off+(i*e+j)) undef=u:=by rw [Array.getD_eq_getD_getElem?,h1];rfl
     rw [hgd]
     refine ⟨h2,h3,fun DM had=>?_⟩
     obtain ⟨b,hb,hab⟩:=k4 (by omega)
     rw [had] at hab;cases hab
     rw [m1] at hb;cases hb
     rw [add_lit,qn m2];exact h1)
    rwa [yy] at this
theorem GU {t et:TypeId} (ht:P.underlying t=some (.slice et)) (ty:TypeId) {id az off len:Nat} {v:Value} (hv:Rp w (aI C aa hp) aa hp (.win id az off len) v) (hq:(∃ e xs,hp id=some (.row e az xs))∨∃ cs,hp id=some (.var cs)) :
 (Builtin.len_ #[t] ty #[v]).run P w = .ok (.int .i64 len) w:=by
 cases hv with
 | win _ _ _ _ _ g1 g0 jT gr gc=>
   rcases hq with ⟨e,xs,hq⟩ | ⟨cs,hq⟩
   ·obtain ⟨ad,cap,rfl,_⟩:=gr e xs hq;exact tH ht ty _ _ _
   ·obtain ⟨ad,cap,rfl,_⟩:=gc cs hq;exact tH ht ty _ _ _
theorem Pu {t et:TypeId} {e:Nat} (ht:P.underlying t=some (.slice et)) (hs:cj P et=some e) {id az off len:Nat} {v:Value} (hv:Rp w (aI C aa hp) aa hp (.win id az off len) v) {xs:List (List SV)} (hq:hp id=some (.row e az xs))
 {k:IntKind} {i:Int} (h0:0≤i) (h1:i<len) :
 ∃ u,(Instr.indexAt t v (.int k i)).run P w = .ok u w∧Rp w (aI C aa hp) aa hp (.bX id az (off+i.toNat) 0) u:=by
 cases hv with
 | win _ _ _ _ _ g1 g0 jT gr gc=>
   obtain ⟨ad,cap,rfl,k1,k2,k3,k4⟩:=gr e xs hq
   obtain ⟨b,hb,rfl⟩:=k4 (by omega)
   refine ⟨_,Ad ht hs _ _ _ k i h0 h1,.bX _ _ _ _ _ rfl g0 jT (fun e' xs' fX=>⟨b,hb,?_⟩)⟩
   rw [hq] at fX;cases fX
   rw [add_lit,Nat.add_mul];simp
theorem Pv {t et:TypeId} {e:Nat} (ht:P.underlying t=some (.slice et)) (hs:cj P et=some e) {id az off len:Nat} {v:Value} (hv:Rp w (aI C aa hp) aa hp (.win id az off len) v) {cs:List SV} (hq:hp id=some (.var cs))
 {k:IntKind} {i:Int} (h0:0≤i) (h1:i<len) :
 ∃ u,(Instr.indexAt t v (.int k i)).run P w = .ok u w∧Rp w (aI C aa hp) aa hp (.ptr id (off+i.toNat*e)) u:=by
 cases hv with
 | win _ _ _ _ _ g1 g0 jT gr gc=>
   obtain ⟨ad,cap,rfl,k1,k2,k3,k4⟩:=gc cs hq
   obtain ⟨b,hb,rfl⟩:=k4 (by omega)
   exact ⟨_,Ad ht hs _ _ _ k i h0 h1,.ptr _ _ _ rfl g0 (fun _ _=>⟨b,hb,by rw [add_lit]⟩)⟩
theorem IE {t et:TypeId} {e:Nat} (ht:P.underlying t=some (.slice et)) (hs:cj P et=some e) {id az len:Nat} {v:Value} (hv:Rp w (aI C aa hp) aa hp (.row id az len) v) {xs:List (List SV)} (hq:hp id=some (.row e az xs)) (hi:Option Value) (k:IntKind) (l h:Int)
 (hhi:(hi=none∧h=len)∨∃ k,hi=some (.int k h)) (h0:0≤l) (h1:l≤h) (h2:h≤len) :
 ∃ u,(Instr.sliceAt t v (some (.int k l)) hi none).run P w = .ok u w∧Rp w (aI C aa hp) aa hp (.win id az l.toNat (h.toNat - l.toNat)) u:=by
 have bounds:∀ (cap:Nat),len≤cap→(Instr.sliceBounds true len cap (some (.int k l)) hi none).run P w = .ok (l.toNat,h.toNat,cap) w:=fun cap hc=>by
  rcases hhi with ⟨rfl,rfl⟩ | ⟨k',rfl⟩
  ·simp [Instr.sliceBounds,Instr.sliceBound,asIntOf,h0,h1]
  ·have a1:h≤cap:=by omega
   have a2:0≤h:=by omega
   simp [Instr.sliceBounds,Instr.sliceBound,asIntOf,a1,a2,h0]
   intro hh;omega
 cases hv with
 | row _ _ _ _ g1 g0 jT gv=>
   rcases gv e xs hq with ⟨gr,rfl,rfl⟩ | ⟨b,cap,cur,t0,k1,rfl,k3,k4,k5,k6⟩
   ·have hh:h=0:=by simp at h2;omega
    subst hh
    obtain rfl:l=0:=by omega
    refine ⟨.slice none 0 0,?_,.win _ _ _ _ _ rfl g0 jT (fun e' xs' fX=>⟨none,0,rfl,Nat.le_refl _,by simp [maxLen],fun _=>rfl,fun h=>by simp at h⟩) (fun cs hc=>by rw [hq] at hc;cases hc)⟩
    have:=bounds 0 (Nat.le_refl _)
    simp [Instr.sliceAt,run_underlying ht,Instr.slice,this,jB hs]
   ·refine ⟨.slice (if cap=l.toNat then some ⟨b,0,none⟩ else some ⟨b,l.toNat*e,none⟩) (h.toNat - l.toNat) (cap - l.toNat),?_,.win _ _ _ _ _ rfl g0 jT (fun e' xs' fX=>⟨_,_,rfl,by omega,by omega,fun hn=>(by split at hn <;> cases hn),fun hl=>⟨b,k1,?_⟩⟩) (fun cs hc=>by rw [hq] at hc;cases hc)⟩
    ·have:=bounds cap k4
     by_cases hcl:cap=l.toNat
     ·subst hcl;simp [Instr.sliceAt,run_underlying ht,Instr.slice,this,jB hs]
     ·simp [Instr.sliceAt,run_underlying ht,Instr.slice,this,jB hs,hcl,add_lit]
    ·rw [hq] at fX;cases fX
     rw [if_neg (by omega)]
theorem Lh {t et:TypeId} {e n:Nat} (ht:P.underlying t=some (.array n et)) (hs:cj P et=some e) {id off:Nat} {v:Value} (hv:Rp w (aI C aa hp) aa hp (.ptr id off) v) {cs:List SV} (hq:hp id=some (.var cs)) (hn:n≤maxLen) :
 ∃ u,(Instr.sliceAt t v none none none).run P w = .ok u w∧Rp w (aI C aa hp) aa hp (.win id 0 off n) u:=by
 cases hv with
 | ptr _ _ _ g1 g0 gb=>
   obtain ⟨b,hb,rfl⟩:=gb cs hq
   refine ⟨.slice (some ⟨b,off,none⟩) n n,?_,.win _ _ _ _ _ rfl g0 (fun _ _ _ h=>by rw [hq] at h;cases h) (fun _ _ h=>by rw [hq] at h;cases h) (fun cs' hc=>⟨_,_,rfl,Nat.le_refl _,hn,fun h=>(by cases h),fun _=>⟨b,hb,rfl⟩⟩)⟩
   simp [Instr.sliceAt,run_underlying ht,Instr.sureAddr,Instr.sliceBounds,jB hs]
   by_cases h0:n=0
   ·simp [h0]
   ·simp [h0,add_lit]
theorem TT {ok:Nat→Prop} {e az off:Nat} {xs ys:List (List SV)} {cur:Array Value} (h3:kf w ok aa hp cur (.row e az xs)) {us:List (List Value)} (hl:us.length=ys.length) (mP:∀ u∈us,u.length=e) (wE:∀ y∈ys,y.length=e) (hoff:off+ys.length≤xs.length)
 (hcell:∀ (j:Nat) (c:List SV),ys[j]?=some c→∃ u,us[j]?=some u∧u.length=c.length∧(∀ (i:Nat) (x:Value),u[i]?=some x→x.oneCell'=true)∧∀ (i:Nat) (y:SV),c[i]?=some y→Rp w ok aa hp y (u.getD i undef)) :
 off*e+us.flatten.length≤cur.size∧kf w ok aa hp (splice cur.toList (off*e) us.flatten).toArray (.row e az (splice xs off ys)):=by
 have hfl:us.flatten.length=ys.length*e:=by rw [qZ e us mP,hl]
 have hsz:off*e+us.flatten.length≤cur.size:=by
  have h1:(off+ys.length)*e≤xs.length*e:=Nat.mul_le_mul_right _ hoff
  rw [Nat.add_mul] at h1
  have:=h3.2.1
  omega
 have hcs:off*e+us.flatten.length≤cur.toList.length:=by simpa using hsz
 refine ⟨hsz,fun x hx=>?_,?_,fun i x hx=>?_⟩
 ·unfold splice at hx
  rcases List.mem_append.1 hx with hx | hx
  ·rcases List.mem_append.1 hx with hx | hx
   ·exact h3.1 x (List.mem_of_mem_take hx)
   ·exact wE x hx
  ·exact h3.1 x (List.mem_of_mem_drop hx)
 ·simp only [List.size_toArray]
  rw [mU _ _ _ hcs,mU _ _ _ hoff]
  simpa using h3.2.1
 ·rw [pF _ _ _ hoff] at hx
  intro j y hy
  simp only [List.getElem?_toArray]
  rw [pF _ _ _ hcs]
  by_cases hc:off≤i∧i<off+ys.length
  ·rw [if_pos hc] at hx
   obtain ⟨u,h1,h2,h4,h5⟩:=hcell _ x hx
   have hjl:j<x.length:=(List.getElem?_eq_some_iff.1 hy).1
   have ru:x.length=e:=wE x (List.mem_of_getElem? hx)
   have hg:=List.getElem?_eq_getElem (l:=u) (i:=j) (by omega)
   have hf:=vE e us mP _ j u _ h1 hg
   have hi1:(i - off)*e+off*e=i*e:=by rw [← Nat.add_mul];congr 1;omega
   have hb:(i - off)*e+j<us.flatten.length:=(List.getElem?_eq_some_iff.1 hf).1
   rw [if_pos (by omega)]
   refine ⟨_,by rw [show i*e+j - off*e=(i - off)*e+j by omega];exact hf,h4 _ _ hg,?_⟩
   have:=h5 j y hy
   rwa [List.getD_eq_getElem?_getD,hg,Option.getD_some] at this
  ·rw [if_neg hc] at hx
   obtain ⟨v,h1,h2,h4⟩:=h3.2.2 i x hx j y hy
   have ru:x.length=e:=h3.1 x (List.mem_of_getElem? hx)
   have hjl:j<x.length:=(List.getElem?_eq_some_iff.1 hy).1
   refine ⟨v,?_,h2,h4⟩
   rw [if_neg]
   ·simpa using h1
   ·rintro ⟨a1,a2⟩
    rcases Nat.lt_or_ge i off with hlt | hge
    ·have:(i+1)*e≤off*e:=Nat.mul_le_mul_right _ hlt
     rw [Nat.add_mul] at this;omega
    ·have:(off+ys.length)*e≤i*e:=Nat.mul_le_mul_right _ (by omega)
     rw [Nat.add_mul] at this;omega
theorem Ue (R:cn C hp w aa) {id b:Nat} {e az off:Nat} {xs ys:List (List SV)} (hq:hp id=some (.row e az xs)) (hr:aa id=some b) {us:List (List Value)} (hl:us.length=ys.length) (mP:∀ u∈us,u.length=e) (wE:∀ y∈ys,y.length=e) (hoff:off+ys.length≤xs.length)
 (hcell:∀ (j:Nat) (c:List SV),ys[j]?=some c→∃ u,us[j]?=some u∧u.length=c.length∧(∀ (i:Nat) (x:Value),u[i]?=some x→x.oneCell'=true)∧∀ (i:Nat) (y:SV),c[i]?=some y→Rp w (aI C aa hp) aa hp y (u.getD i undef)) :
 ∃ w' aK,(storeCells ⟨b,off*e,none⟩ us.flatten).run P w = .ok () w'∧Step C hp (up hp id (some (.row e az (splice xs off ys)))) w w' aa aK:=by
 rcases R.heap id _ hq with ⟨hn,_⟩ | ⟨b',cur,t0,g1,g2,g3⟩
 ·rw [hr] at hn;cases hn
 ·rw [hr] at g1;cases g1
  obtain ⟨h1,h2⟩:=TT g3 hl mP wE hoff hcell
  have hst:=run_storeCells_at P b (off*e) t0 us.flatten 0 cur w g2 (by simpa using h1) (fun v hv=>by
   obtain ⟨u,hu,OJ⟩:=List.mem_flatten.1 hv
   obtain ⟨j,hj⟩:=List.getElem?_of_mem hu
   obtain ⟨i,hi⟩:=List.getElem?_of_mem OJ
   have hjl:=(List.getElem?_eq_some_iff.1 hj).1
   obtain ⟨u',k1,_,k3,_⟩:=hcell j _ (List.getElem?_eq_getElem (l:=ys) (i:=j) (by omega))
   rw [hj] at k1;cases k1
   exact k3 i v hi)
  simp only [Nat.add_zero] at hst
  refine ⟨_,_,hst,R.write hq hr g2 ?_ ⟨Nat.le_refl _,fun _=>⟨rfl,rfl,fun _ _ c t hc=>⟨c,t,hc,rfl⟩⟩⟩ h2⟩
  simp only [List.size_toArray]
  have:=mU cur.toList (off*e) us.flatten (by simpa using h1)
  unfold splice at this
  rw [this];simp
theorem WB (z:Array Value):∀ (n:Nat),(Builtin.zeroCells z n).toList=(List.replicate n z.toList).flatten
 | 0=>by simp [Builtin.zeroCells]
 | n+1=>by
   refine List.ext_getElem? (fun k=>?_)
   by_cases hz:z.size=0
   ·have:z = #[]:=Array.eq_empty_of_size_eq_zero hz
    subst this
    simp [Builtin.zeroCells]
   ·have hpos:0<z.size:=by omega
    have hfl:=qZ z.size (List.replicate (n+1) z.toList) (fun u hu=>by rw [List.eq_of_mem_replicate hu];simp)
    by_cases hk:k<(n+1)*z.size
    ·have h1:k / z.size<n+1:=(Nat.div_lt_iff_lt_mul hpos).2 hk
     have h2:k % z.size<z.size:=Nat.mod_lt _ hpos
     have:=vE z.size (List.replicate (n+1) z.toList) (fun u hu=>by rw [List.eq_of_mem_replicate hu];simp) (k / z.size) (k % z.size) z.toList (z[k % z.size]'h2) (by rw [List.getElem?_replicate,if_pos h1]) (by simp)
     rw [show k / z.size*z.size+k % z.size=k by rw [Nat.mul_comm];exact Nat.div_add_mod k z.size] at this
     rw [this]
     simp [Builtin.zeroCells,hk,h2]
    ·rw [List.getElem?_eq_none (by simp [Builtin.zeroCells];omega),List.getElem?_eq_none (by rw [hfl];simp;omega)]
theorem Wr {hp:Hp} {id:Nat} {hb:HB} (h:hp id=some hb):up hp id (some hb)=hp:=by
 funext j
 by_cases hj:j=id
 ·subst hj;rw [cr,h]
 ·rw [gA _ _ hj]
theorem WC {t:TypeId} {z:List RV} (h:kE P t=some z) (w:World):∃ zv,(zeroValue t).run P w = .ok zv w∧tY zv.cells.toList=some z:=by
 unfold kE at h
 cases hi:P.info? t with
 | none=>simp [hi] at h
 | some i=>
   cases jt:i.zero with
   | none=>simp [hi,jt] at h
   | some zv=>
     simp only [hi,jt] at h
     exact ⟨zv,by simp [zeroValue,typeInfo,hi,jt],h⟩
theorem LY (R:cn C hp w aa) {t et:TypeId} {e:Nat} (ht:P.underlying t=some (.slice et)) {z:List RV} (hz:kE P et=some z) (zu:z.length=e) (ty:TypeId) {id az off len:Nat} {v:Value} (hv:Rp w (aI C aa hp) aa hp (.win id az off len) v) {xs:List (List SV)} (hq:hp id=some (.row e az xs)) (hl:off+len≤xs.length) :
 ∃ w' aK,(Builtin.clear_ #[t] ty #[v]).run P w = .ok (.tuple #[]) w'∧Step C hp (up hp id (some (.row e az (splice xs off (List.replicate len (z.map SV.rv)))))) w w' aa aK:=by
 cases hv with
 | win _ _ _ _ _ g1 g0 jT gr gc=>
   obtain ⟨ad,cap,rfl,k1,k2,k3,k4⟩:=gr e xs hq
   cases len with
   | zero=>
     refine ⟨w,aa,?_,?_⟩
     ·cases ad <;> simp [Builtin.clear_,run_underlying ht]
     ·have:splice xs off (List.replicate 0 (z.map SV.rv))=xs:=by simp [splice]
      rw [this,Wr hq];exact R.same
   | succ n=>
     obtain ⟨b,hb,rfl⟩:=k4 (by omega)
     obtain ⟨zv,wH,OQ⟩:=WC hz w
     obtain ⟨c1,c2,c3⟩:=sx w (aI C aa hp) aa hp OQ
     obtain ⟨w',aK,h1,h2⟩:=Ue (P:=P) R hq hb (off:=off) (ys:=List.replicate (n+1) (z.map SV.rv)) (us:=List.replicate (n+1) zv.cells.toList) (by simp) (fun u hu=>by rw [List.eq_of_mem_replicate hu];omega) (fun u hu=>by rw [List.eq_of_mem_replicate hu];simp [zu]) (by simpa using hl) (fun j c hj=>by
      have hjl:j<n+1:=by have:=(List.getElem?_eq_some_iff.1 hj).1;simpa using this
      rw [List.getElem?_replicate,if_pos hjl] at hj
      cases hj
      exact ⟨_,by rw [List.getElem?_replicate,if_pos hjl],by simp at c1 ⊢;exact c1,c2,c3⟩)
     refine ⟨w',aK,?_,h2⟩
     have hzl:=WB zv.cells (n+1)
     simp [Builtin.clear_,run_underlying ht,wH,hzl,h1]
end
end Go.aJ

namespace Go.aJ
open Go
inductive AO where
 | mv | pick
 | alloc (z:List RV) | box
 | build (z:List RV) (ps:List (Nat×Nat))
 | Ek (e:Nat)
 | load (n:Nat) (agg:Bool) | store (n:Nat) | CQ
 | ry (op:BinOp) | qE (op:BinOp) | vz (neg:Bool) | yK (neg:Bool)
 | not | neg | EJ (k:IntKind)
 | Hu (t:TypeId) | Ht (f:FuncId) | Hs (f:FuncId) | Hv (e bytes:Nat) (z:List RV)
 | slc (e:Nat) (lo hi:Bool)
 | Fh (off:Nat) | Fi (off n:Nat) (agg:Bool)
 | ixs (e:Nat) | Gu (len e:Nat) | Gw (len e:Nat) (agg:Bool)
 | len | lens | app (e bytes:Nat) | mx | mn | ext (i:Nat)
 | eqs (neg agg:Bool) (ks:List CK) | qv (neg:Bool) (k:Nat) | rJ (op:BinOp) | Jq (t:TypeId) (ok:Bool)
 | Em | DX (e bytes:Nat)
 | Gv
 | IF (n e:Nat) | Ev (e:Nat) (z:List RV) | die
 | call (f:FuncId) | oB | inv (name:String)
 deriving Inhabited
abbrev XR:=Option (Prop×SV×Option (Nat×HB)×List Nat)
def xD (hp:Hp):Option (Nat×HB)→Hp
 | none=>hp
 | some (id,hb)=>up hp id (some hb)
def gE (n:Nat) (agg:Bool) (hp:Hp):SV→XR
 | .ptr id off=>match hp id with
   | some (.var cs)=>if agg then some (off+n≤cs.length,.agg ((cs.drop off).take n),none,[id]) else some (off<cs.length,(cs[off]?).getD .dead,none,[id])
   | _=>none
 | .bX id az i off=>match hp id with
   | some (.row e bL xs)=>if agg then some (az=bL∧i<xs.length∧off+n≤e,.agg ((((xs[i]?).getD []).drop off).take n),none,[id]) else some (az=bL∧i<xs.length∧off<e,(((xs[i]?).getD [])[off]?).getD .dead,none,[id])
   | _=>none
 | .rv (.rop cs)=>if agg then some (n≤cs.length,.agg ((cs.take n).map .rv),none,[]) else some (0<cs.length,.rv ((cs[0]?).getD .lV),none,[])
 | _=>none
def rQ (n:Nat) (hp:Hp) (p x:SV):XR:=match mG x with
 | none=>none
 | some cx=>match p with
   | .ptr id off=>match hp id with
     | some (.var cs)=>some (cx.length=n∧off+n≤cs.length,.dead,some (id,.var (splice cs off cx)),[id])
     | _=>none
   | .bX id az i off=>match hp id with
     | some (.row e bL xs)=>some (az=bL∧i<xs.length∧cx.length=n∧off+n≤e,.dead,some (id,.row e bL (xs.set i (splice ((xs[i]?).getD []) off cx))),[id])
     | _=>none
   | _=>none
def yf (nx:Nat) (x:SV):XR:=match mG x with
 | some cs=>some (True,.ptr nx 0,some (nx,.var cs),[])
 | none=>none
def fits (n:Nat):List (Nat×Nat)→List (List SV)→Prop
 | [],[]=>True
 | (o,k)::ps,x::xs=>x.length=k∧o+k≤n∧fits n ps xs
 | _,_=>False
def yh (z:List RV) (ps:List (Nat×Nat)) (xs:List SV):XR:=match nL xs with
 | some cs=>match wQ (z.map .rv) ps cs with
   | some r=>some (fits z.length ps cs,.agg r,none,[])
   | none=>none
 | none=>none
def xT (e:Nat):List (List SV)→Prop
 | []=>True
 | x::r=>x.length=e∧xT e r
def yg (e nx:Nat) (xs:List SV):XR:=match nL xs with
 | some cs=>some (xT e cs∧xs.length*e≤16777216,.row nx 0 xs.length,some (nx,.row e 0 cs),[])
 | none=>none
def oE (off:Nat) (hp:Hp):SV→XR
 | .ptr id o=>match hp id with
   | some (.var _)=>some (True,.ptr id (o+off),none,[id])
   | _=>none
 | .bX id az i o=>match hp id with
   | some (.row _ bL _)=>some (az=bL,.bX id az i (o+off),none,[id])
   | _=>none
 | .rv (.rop cs)=>some (True,.rv (.rop (cs.drop off)),none,[])
 | _=>none
def oV (e:Nat) (hp:Hp) (x:SV) (i:Int):XR:=match x with
 | .rv (.sl e' xs)=>some (e'=e∧0≤i∧i<xs.length,.rv (.rop ((xs[i.toNat]?).getD [])),none,[])
 | .row id az len=>match hp id with
   | some (.row e' bL _)=>some (e'=e∧az=bL∧0≤i∧i<len,.bX id az i.toNat 0,none,[id])
   | _=>none
 | .win id az off len=>match hp id with
   | some (.row e' bL _)=>some (e'=e∧az=bL∧0≤i∧i<len,.bX id az (off+i.toNat) 0,none,[id])
   | some (.var _)=>some (0≤i∧i<len,.ptr id (off+i.toNat*e),none,[id])
   | _=>none
 | _=>none
def oU (len e:Nat) (hp:Hp) (x:SV) (i:Int):XR:=match x with
 | .ptr id o=>match hp id with
   | some (.var _)=>some (0≤i∧i<len,.ptr id (o+i.toNat*e),none,[id])
   | _=>none
 | .bX id az i0 o=>match hp id with
   | some (.row _ bL _)=>some (az=bL∧0≤i∧i<len,.bX id az i0 (o+i.toNat*e),none,[id])
   | _=>none
 | .rv (.rop cs)=>some (0≤i∧i<len,.rv (.rop (cs.drop (i.toNat*e))),none,[])
 | _=>none
def oW (hp:Hp):SV→XR
 | .rv (.sl _ xs)=>some (True,.rv (.int .i64 xs.length),none,[])
 | .rv .cv=>some (True,.rv (.int .i64 0),none,[])
 | .rv .mT=>some (True,.rv (.int .i64 0),none,[])
 | .row id az len=>match hp id with
   | some (.row _ bL _)=>some (az=bL,.rv (.int .i64 len),none,[id])
   | _=>none
 | .win id az _ len=>match hp id with
   | some (.row _ bL _)=>some (az=bL,.rv (.int .i64 len),none,[id])
   | some (.var _)=>some (True,.rv (.int .i64 len),none,[id])
   | _=>none
 | _=>none
def zC (i:Int):SV→XR
 | .rv (.str s)=>some (0≤i∧i.toNat<s.size,.rv (.int .u8 (((s[i.toNat]?).getD 0).toNat:Nat)),none,[])
 | _=>none
def wT:SV→XR
 | .rv (.str s)=>some (True,.rv (.int .i64 s.size),none,[])
 | _=>none
def nD (e:Nat) (hp:Hp):SV→Option (Prop×List (List SV)×List Nat)
 | .rv (.sl e' ys)=>some (e'=e,ys.map (List.map .rv),[])
 | .rv .cv=>some (True,[],[])
 | .rv .mT=>some (True,[],[])
 | .row id az len=>match hp id with
   | some (.row e' bL xs)=>some (e'=e∧az=bL∧len≤xs.length,xs.take len,[id])
   | _=>none
 | .win id az off len=>match hp id with
   | some (.row e' bL xs)=>some (e'=e∧az=bL∧off+len≤xs.length,(xs.drop off).take len,[id])
   | some (.var cs)=>some (off+len*e≤cs.length,chunks e len (cs.drop off),[id])
   | _=>none
 | _=>none
def qR (e bytes:Nat) (hp:Hp) (nx:Nat) (s x:SV):XR:=match nD e hp x with
 | none=>none
 | some (p,ys,rd)=>match s with
   | .rv .cv=>some (p∧ys.length≤maxLen∧ys.length*bytes≤140737488355328,.row nx 0 ys.length,some (nx,.row e 0 ys),rd)
   | .row id az len=>match hp id with
     | some (.row e' bL xs)=>some (p∧e'=e∧az=bL∧len≤xs.length∧len+ys.length≤maxLen∧(len+ys.length)*bytes≤140737488355328,.row id (az+1) (len+ys.length),some (id,.row e (az+1) (xs.take len++ys)),id::rd)
     | _=>none
   | _=>none
def yq:SV→XR
 | .rv .cv=>some (True,.rv (.int .i64 0),none,[])
 | _=>none
def xV (e bytes nx:Nat):SV→SV→XR
 | .rv .cv,.rv (.int _ n)=>some (0<n∧n.toNat≤maxLen∧n.toNat*bytes≤140737488355328,.row nx 0 n.toNat,some (nx,.row e 0 []),[])
 | _,_=>none
def yb:List SV→Option (Option Int×Option Int)
 | [.rv (.int _ l),.rv (.int _ h)]=>some (some l,some h)
 | _=>none
def yd:List SV→Option (Option Int×Option Int)
 | [.rv (.int _ l)]=>some (some l,none)
 | _=>none
def yc:List SV→Option (Option Int×Option Int)
 | [.rv (.int _ h)]=>some (none,some h)
 | _=>none
def AS:List SV→Option (Option Int×Option Int)
 | []=>some (none,none)
 | _=>none
def tP (lo hi:Bool) (r:List SV):Option (Option Int×Option Int):=if lo then (if hi then yb r else yd r) else (if hi then yc r else AS r)
def qM (e:Nat) (hp:Hp) (x:SV) (l h:Option Int):XR:=match x with
 | .rv (.sl e' xs)=>some (e'=e∧0≤l.getD 0∧l.getD 0≤h.getD xs.length∧h.getD xs.length≤xs.length,.rv (.sl e ((xs.take (h.getD xs.length).toNat).drop (l.getD 0).toNat)),none,[])
 | .row id az len=>match hp id,h with
   | some (.row e' bL _),some h=>if l.getD 0=0 then some (e'=e∧az=bL∧0≤h∧h≤len,.row id az h.toNat,none,[id]) else some (e'=e∧az=bL∧0≤l.getD 0∧l.getD 0≤h∧h≤len,.win id az (l.getD 0).toNat (h.toNat - (l.getD 0).toNat),none,[id])
   | some (.row e' bL _),none=>match l with
     | some l=>some (e'=e∧az=bL∧0≤l∧l≤len,.win id az l.toNat (len - l.toNat),none,[id])
     | none=>none
   | _,_=>none
 | .rv .cv=>some (l.getD 0=0∧h.getD 0=0,.rv .cv,none,[])
 | _=>none
def rM (n e:Nat) (hp:Hp):SV→XR
 | .ptr id off=>match hp id with
   | some (.var cs)=>some (off+n*e≤cs.length∧n≤maxLen,.win id 0 off n,none,[id])
   | _=>none
 | _=>none
def qU (e:Nat) (z:List RV) (hp:Hp):SV→XR
 | .win id az off len=>match hp id with
   | some (.row e' bL xs)=>some (e'=e∧az=bL∧off+len≤xs.length,.dead,some (id,.row e' bL (splice xs off (List.replicate len (z.map .rv)))),[id])
   | _=>none
 | _=>none
def rL (e:Nat) (lo hi:Bool) (hp:Hp):List SV→XR
 | x::r=>match tP lo hi r with
   | some (l,h)=>qM e hp x l h
   | none=>none
 | []=>none
def yQ (off n:Nat) (agg:Bool):SV→XR
 | .agg cs=>if agg then some (off+n≤cs.length,.agg ((cs.drop off).take n),none,[]) else some (off<cs.length,(cs[off]?).getD .dead,none,[])
 | _=>none
def zD (len e:Nat) (agg:Bool) (i:Int):SV→XR
 | .agg cs=>if agg then some (0≤i∧i<len∧i.toNat*e+e≤cs.length,.agg ((cs.drop (i.toNat*e)).take e),none,[]) else some (0≤i∧i<len∧i.toNat*e<cs.length,(cs[i.toNat*e]?).getD .dead,none,[])
 | _=>none
def o1 (f:SV→XR):List SV→XR
 | [x]=>f x
 | _=>none
def o2 (f:SV→SV→XR):List SV→XR
 | [x,y]=>f x y
 | _=>none
def xg:List SV→XR
 | [.rv (.bool c),x,y]=>some (True,if c then x else y,none,[])
 | _=>none
def xU (z:List RV) (nx:Nat):List SV→XR
 | []=>some (True,.ptr nx 0,some (nx,.var (z.map .rv)),[])
 | _=>none
def wX (hp:Hp) (x:SV):XR:=match lu hp x with
 | some (p,false,rd)=>some (p,x,none,rd)
 | _=>none
def zw (op:BinOp):SV→SV→XR
 | .rv (.int k a),.rv (.int k' b)=>match ry op k a b with
   | some (p,r)=>some (k=k'∧p,.rv r,none,[])
   | none=>none
 | _,_=>none
def zB (op:BinOp):SV→SV→XR
 | .rv (.int k a),.rv (.int _ b)=>match qE op k a b with
   | some (p,r)=>some (p,.rv r,none,[])
   | none=>none
 | _,_=>none
def vA (neg:Bool) (hp:Hp) (x:SV):XR:=match lu hp x with
 | some (p,b,rd)=>some (p,.rv (.bool (b != neg)),none,rd)
 | none=>none
def yL (neg:Bool):SV→SV→XR
 | .rv (.bool a),.rv (.bool b)=>some (True,.rv (.bool (if neg then !(a == b) else a == b)),none,[])
 | _,_=>none
def zO:SV→XR
 | .rv (.bool b)=>some (True,.rv (.bool !b),none,[])
 | _=>none
def zM:SV→XR
 | .rv (.int k n)=>some (True,.rv (.int k (k.wrap (0 - n))),none,[])
 | _=>none
def yF (k:IntKind):SV→XR
 | .rv (.int _ n)=>some (True,.rv (.int k (k.wrap n)),none,[])
 | _=>none
def zH (e bytes:Nat) (z:List RV) (nx:Nat):SV→SV→XR
 | .rv (.int _ l),.rv (.int _ c)=>some (c=l∧0≤l∧(bytes:Int)*l≤281474976710656∧l≤9223372036854775807,.row nx 0 l.toNat,some (nx,.row e 0 (List.replicate l.toNat (z.map .rv))),[])
 | _,_=>none
def nw (f:SV→Int→XR):SV→SV→XR
 | x,.rv (.int _ i)=>f x i
 | _,_=>none
def zJ:SV→SV→XR
 | .rv (.int k a),.rv (.int _ b)=>some (True,.rv (.int k (if b>a then b else a)),none,[])
 | _,_=>none
def zI:SV→SV→XR
 | .rv (.int k a),.rv (.int _ b)=>some (True,.rv (.int k (if b<a then b else a)),none,[])
 | _,_=>none
def yO (i:Nat):SV→XR
 | .aO xs=>some (i<xs.length,(xs[i]?).getD .dead,none,[])
 | _=>none
def rC (hp:Hp):SV→Option (Prop×Bool×List Nat)
 | .rv .cv=>some (True,true,[])
 | .rv .mT=>some (True,false,[])
 | .rv (.sl _ xs)=>some (0<xs.length,false,[])
 | .row id az len=>match hp id with
   | some (.row _ bL _)=>some (az=bL∧0<len,false,[id])
   | _=>none
 | _=>none
def wL:SV→Option (Prop×Bool×List Nat)
 | .rv .pe=>some (True,true,[])
 | .rv (.fn _ _)=>some (True,false,[])
 | .fn _ _=>some (True,false,[])
 | .fK _ _=>some (True,false,[])
 | _=>none
def wM:SV→Option (Prop×Bool×List Nat)
 | .rv .oa=>some (True,true,[])
 | .rv (.bW _ _)=>some (True,false,[])
 | .bW _ _=>some (True,false,[])
 | _=>none
def uA (k:Nat) (hp:Hp) (x:SV):Option (Prop×Bool×List Nat):=match k with
 | 0=>rC hp x
 | 1=>wL x
 | _=>wM x
def sF (neg:Bool) (k:Nat) (hp:Hp) (x:SV):XR:=match uA k hp x with
 | some (p,b,rd)=>some (p,.rv (.bool (b != neg)),none,rd)
 | none=>none
def yN (neg:Bool):Option (Prop×Bool)→XR
 | some (p,b)=>some (p,.rv (.bool (if neg then !b else b)),none,[])
 | none=>none
def yM (neg agg:Bool) (ks:List CK):SV→SV→XR
 | .agg xs,.agg ys=>if agg then yN neg (vp ks xs ys) else none
 | _,_=>none
def rJ (op:BinOp) (a b:ByteArray):Option (Prop×RV):=match op with
 | .add=>some (((a.size+b.size:Nat):Int)≤9223372036854775807,.str (a++b))
 | .eql=>some (True,.bool (a.toList == b.toList))
 | .neq=>some (True,.bool (!(a.toList == b.toList)))
 | .lss=>some (True,.bool (Op.bytesLess a.toList b.toList))
 | .leq=>some (True,.bool (Op.bytesLess a.toList b.toList || a.toList == b.toList))
 | .gtr=>some (True,.bool (!(Op.bytesLess a.toList b.toList || a.toList == b.toList)))
 | .geq=>some (True,.bool (!Op.bytesLess a.toList b.toList))
 | _=>none
def Ah (op:BinOp):SV→SV→XR
 | .rv (.str a),.rv (.str b)=>match rJ op a b with
   | some (p,r)=>some (p,.rv r,none,[])
   | none=>none
 | _,_=>none
def oR:SV→Option (TypeId×SV)
 | .bW t x=>some (t,x)
 | .rv (.bW t r)=>some (t,.rv r)
 | _=>none
def uW (t:TypeId) (ok:Bool) (t':TypeId) (x:SV):XR:=if t'=t then some (True,if ok then .aO [x,.rv (.bool true)] else x,none,[]) else if ok then some (True,.aO [.dead,.rv (.bool false)],none,[]) else none
def xw (t:TypeId) (ok:Bool):SV→XR
 | .bW t' x=>uW t ok t' x
 | .rv (.bW t' r)=>uW t ok t' (.rv r)
 | .rv .oa=>if ok then some (True,.aO [.dead,.rv (.bool false)],none,[]) else none
 | _=>none
def bY (ao:AO) (xs:List SV) (hp:Hp) (nx:Nat):XR:=
 match ao with
 | .mv=>o1 (fun x=>some (True,x,none,[])) xs
 | .pick=>xg xs
 | .alloc z=>xU z nx xs
 | .box=>o1 (yf nx) xs
 | .build z ps=>yh z ps xs
 | .Ek e=>yg e nx xs
 | .load n agg=>o1 (gE n agg hp) xs
 | .store n=>o2 (rQ n hp) xs
 | .CQ=>o1 (wX hp) xs
 | .ry op=>o2 (zw op) xs
 | .qE op=>o2 (zB op) xs
 | .vz neg=>o1 (vA neg hp) xs
 | .yK neg=>o2 (yL neg) xs
 | .not=>o1 zO xs
 | .neg=>o1 zM xs
 | .EJ k=>o1 (yF k) xs
 | .Hu t=>o1 (fun x=>some (True,.bW t x,none,[])) xs
 | .Ht f=>some (True,.fn f xs,none,[])
 | .Hs f=>some (True,.fK f xs,none,[])
 | .Hv e bytes z=>o2 (zH e bytes z nx) xs
 | .slc e lo hi=>rL e lo hi hp xs
 | .Fh off=>o1 (oE off hp) xs
 | .Fi off n agg=>o1 (yQ off n agg) xs
 | .ixs e=>o2 (nw (oV e hp)) xs
 | .Gu len e=>o2 (nw (oU len e hp)) xs
 | .Gw len e agg=>o2 (nw (fun x i=>zD len e agg i x)) xs
 | .Gv=>o2 (nw (fun x i=>zC i x)) xs
 | .len=>o1 (oW hp) xs
 | .lens=>o1 wT xs
 | .app e bytes=>o2 (qR e bytes hp nx) xs
 | .Em=>o1 yq xs
 | .DX e bytes=>o2 (xV e bytes nx) xs
 | .mx=>o2 zJ xs
 | .mn=>o2 zI xs
 | .ext i=>o1 (yO i) xs
 | .eqs neg agg ks=>o2 (yM neg agg ks) xs
 | .qv neg k=>o1 (sF neg k hp) xs
 | .rJ op=>o2 (Ah op) xs
 | .Jq t ok=>o1 (xw t ok) xs
 | .IF n e=>o1 (rM n e hp) xs
 | .Ev e z=>o1 (qU e z hp) xs
 | .call _ | .oB | .inv _ | .die=>none
def qY (P:Program) (t:TypeId):Option (TypeId×Nat×Nat×List RV):=match P.underlying t with
 | some (.slice et)=>match P.info? et with
   | some i=>match kE P et with
     | some z=>if z.length=i.size∧0<i.size then some (et,i.size,i.bytes,z) else none
     | none=>none
   | none=>none
 | _=>none
def vr (P:Program) (op:BinOp) (t:TypeId) (x y:Operand):Option (AO×List Operand):=match op with
 | .shl=>some (.qE .shl,[x,y])
 | .shr=>some (.qE .shr,[x,y])
 | _=>match P.underlying t with
   | some (.int _)=>some (.ry op,[x,y])
   | some .bool=>match op with
     | .eql=>some (.yK false,[x,y])
     | .neq=>some (.yK true,[x,y])
     | _=>none
   | some (.pointer _)=>match op,y with
     | .eql,.const (.pointer none)=>some (.vz false,[x])
     | .neq,.const (.pointer none)=>some (.vz true,[x])
     | _,_=>none
   | some .string=>some (.rJ op,[x,y])
   | some (.slice _)=>match op,y with
     | .eql,.const (.slice none 0 0)=>some (.qv false 0,[x])
     | .neq,.const (.slice none 0 0)=>some (.qv true 0,[x])
     | _,_=>none
   | some (.func _ _ _)=>match op,y with
     | .eql,.const .nilFunc=>some (.qv false 1,[x])
     | .neq,.const .nilFunc=>some (.qv true 1,[x])
     | _,_=>none
   | some (.interface _)=>match op,y with
     | .eql,.const .nilIface=>some (.qv false 2,[x])
     | .neq,.const .nilIface=>some (.qv true 2,[x])
     | _,_=>none
   | _=>match fD P t,mI P 64 t with
     | some true,some ks=>if P.eqGuardType P.depth t then none else match op with
       | .eql=>some (.eqs false true ks,[x,y])
       | .neq=>some (.eqs true true ks,[x,y])
       | _=>none
     | _,_=>none
def qp (P:Program):Op→Option (AO×List Operand)
 | .move x=>some (.mv,[x])
 | .assign x=>some (.mv,[x])
 | .pick c a b=>some (.pick,[c,a,b])
 | .alloc t=>match kE P t with
   | some z=>some (.alloc z,[])
   | none=>none
 | .box _ x=>some (.box,[x])
 | .build t parts=>match kE P t,parts.toList.mapM (fun p=>uG P t p.1) with
   | some z,some ps=>if Bx P t then some (.build z ps,parts.toList.map (·.2)) else none
   | _,_=>none
 | .buildSlice t len parts=>match qY P t with
   | some (_,e,_,_)=>if parts.toList.map (·.1)=List.range len then some (.Ek e,parts.toList.map (·.2)) else none
   | none=>none
 | .load t x=>match cj P t,fD P t with
   | some n,some agg=>some (.load n agg,[x])
   | _,_=>none
 | .store t p x=>match cj P t with
   | some n=>some (.store n,[p,x])
   | none=>none
 | .nilCheck x=>some (.CQ,[x])
 | .binOp op t x y _=>vr P op t x y
 | .unOp .not _ x=>some (.not,[x])
 | .unOp .neg _ x=>some (.neg,[x])
 | .convert src dst x=>match P.underlying src,P.underlying dst with
   | some _,some (.int k)=>some (.EJ k,[x])
   | _,_=>none
 | .makeInterface t x=>match P.underlying t with
   | some (.interface _)=>none
   | some _=>some (.Hu t,[x])
   | none=>none
 | .makeFunc (.func f) first cap=>if first.size=0 then some (.Ht f,cap.toList) else if cap.size=0 then some (.Hs f,first.toList) else none
 | .makeSlice t l c=>match qY P t with
   | some (_,e,bytes,z)=>some (.Hv e bytes z,[l,c])
   | none=>none
 | .slice t x lo hi none=>match qY P t with
   | some (_,e,_,_)=>some (.slc e lo.isSome hi.isSome,x::(lo.toList++hi.toList))
   | none=>match P.underlying t,lo,hi with
     | some (.array n et),none,none=>match cj P et with
       | some e=>some (.IF n e,[x])
       | none=>none
     | _,_,_=>none
 | .panic x=>some (.die,[x])
 | .fieldAddr s x f=>match nN P s f with
   | some (off,ft)=>match cj P ft with
     | some (_+1)=>some (.Fh off,[x])
     | _=>none
   | none=>none
 | .field s x f=>match nN P s f with
   | some (off,ft)=>match cj P ft,fD P ft with
     | some n,some agg=>some (.Fi off n agg,[x])
     | _,_=>none
   | none=>none
 | .indexAddr t x i=>match P.underlying t with
   | some (.slice et)=>match cj P et with
     | some e=>some (.ixs e,[x,i])
     | none=>none
   | some (.array len et)=>match cj P et with
     | some e=>some (.Gu len e,[x,i])
     | none=>none
   | _=>none
 | .index t x i=>match P.underlying t with
   | some (.array len et)=>match cj P et,fD P et with
     | some e,some agg=>some (.Gw len e agg,[x,i])
     | _,_=>none
   | some .string=>some (.Gv,[x,i])
   | _=>none
 | .extract x i=>some (.ext i,[x])
 | .call { callee:=.builtin .len,args,argTypes }=>match args.toList,argTypes.toList with
   | [x],[t]=>match P.underlying t with
     | some (.slice _)=>some (.len,[x])
     | some .string=>some (.lens,[x])
     | _=>none
   | _,_=>none
 | .call { callee:=.builtin .append,args,argTypes }=>match args.toList,argTypes.toList with
   | [s,x],[t,t']=>if t=t' then match qY P t with
     | some (_,e,bytes,_)=>some (.app e bytes,[s,x])
     | none=>none
     else match P.underlying t',qY P t with
     | some (.int .i64),some (_,e,bytes,_)=>some (.DX e bytes,[s,x])
     | _,_=>none
   | _,_=>none
 | .call { callee:=.builtin .cap,args,argTypes }=>match args.toList,argTypes.toList with
   | [x],[t]=>match P.underlying t with
     | some (.slice _)=>some (.Em,[x])
     | _=>none
   | _,_=>none
 | .call { callee:=.builtin .clear,args,argTypes }=>match args.toList,argTypes.toList with
   | [x],[t]=>match qY P t with
     | some (_,e,_,z)=>some (.Ev e z,[x])
     | none=>none
   | _,_=>none
 | .call { callee:=.builtin .max,args,.. }=>if args.size=2 then some (.mx,args.toList) else none
 | .call { callee:=.builtin .min,args,.. }=>if args.size=2 then some (.mn,args.toList) else none
 | .typeAssert x _ t ok=>match P.underlying t,kE P t with
   | some (.interface _),_=>none
   | some _,some _=>some (.Jq t ok,[x])
   | _,_=>none
 | .call { callee:=.invoke r name,args,.. }=>some (.inv name,r::args.toList)
 | .call { callee:=.value (.func f),args,.. }=>some (.call f,args.toList)
 | .call { callee:=.value x,args,.. }=>some (.oB,x::args.toList)
 | _=>none
def Sk:Operand→Bool
 | .tmp _ | .func _=>true
 | .const v=>(vu v).isSome
 | .global _=>false
def kY (P:Program) (op:Op):Option (AO×List Operand):=match qp P op with
 | some (ao,xs)=>if xs.all Sk then some (ao,xs) else some (.die,[])
 | none=>some (.die,[])
theorem yz {P:Program} {op:Op} {ao:AO} {xs:List Operand} (h:kY P op=some (ao,xs)) (hd:ao≠.die):qp P op=some (ao,xs):=by
 unfold kY at h
 split at h
 ·split at h
  ·cases h;assumption
  ·cases h;exact absurd rfl hd
 ·cases h;exact absurd rfl hd
end Go.aJ

namespace Go.aJ
open Go
section
variable {P:Program} {C:Ctx} {hp:Hp} {w:World} {aa:Nat→Option Nat}
def ov (P:Program) (C:Ctx) (hp:Hp) (w:World) (aa:Nat→Option Nat) (o:Oper) (a:Act) (sv:SV) (u:Option (Nat×HB)):Prop:=
 ∃ n v w' aK,(execOp a.eval o).run P w = .ok n w'∧(n = .value v∨(n = .skip∧v=undef))∧Step C hp (xD hp u) w w' aa aK∧Rp w' (aI C aK (xD hp u)) aK (xD hp u) sv v
theorem jy (R:cn C hp w aa) {o:Oper} {a:Act} {sv:SV} {v:Value} (h:(execOp a.eval o).run P w = .ok (.value v) w) (hr:Rp w (aI C aa hp) aa hp sv v):ov P C hp w aa o a sv none:=
 ⟨.value v,v,w,aa,h,.inl rfl,R.same,hr⟩
theorem uk {o:Oper} {a:Act} {sv:SV} {id:Nat} {hb:HB} {m:Sem Value} (he:∀ w,(execOp a.eval o).run P w=(m.run P w).andThen fun v w'=>.ok (.value v) w')
 (h:∃ u w' aK,m.run P w = .ok u w'∧Step C hp (up hp id (some hb)) w w' aa aK∧Rp w' (aI C aK (up hp id (some hb))) aK (up hp id (some hb)) sv u):ov P C hp w aa o a sv (some (id,hb)):=by
 obtain ⟨u,w',aK,h1,h2,h3⟩:=h
 exact ⟨.value u,u,w',aK,by rw [he,h1];rfl,.inl rfl,h2,h3⟩
theorem nk (R:cn C hp w aa) {o:Oper} {a:Act} {sv:SV} {m:Sem Value} (he:∀ w,(execOp a.eval o).run P w=(m.run P w).andThen fun v w'=>.ok (.value v) w')
 (h:∃ u,m.run P w = .ok u w∧Rp w (aI C aa hp) aa hp sv u):ov P C hp w aa o a sv none:=by
 obtain ⟨u,h1,h2⟩:=h
 exact jy R (by rw [he,h1];rfl) h2
theorem CL (R:cn C hp w aa) {t:TypeId} {n:Nat} {agg:Bool} (hs:cj P t=some n) (ha:fD P t=some agg) {s:SV} {v:Value} (hv:Rp w (aI C aa hp) aa hp s v) {p:Prop} {sv:SV} {u:Option (Nat×HB)} {rd:List Nat} (hE:gE n agg hp s=some (p,sv,u,rd)) (aE:p) :
 u=none∧∃ x,(Instr.loadAt t v).run P w = .ok x w∧Rp w (aI C aa hp) aa hp sv x:=by
 unfold gE at hE
 split at hE
 ·split at hE
  ·rename_i id off cs hq
   cases agg with
   | true=>simp only [if_true,Option.some.injEq,Prod.mk.injEq] at hE;obtain ⟨rfl,rfl,rfl,rfl⟩:=hE;exact ⟨rfl,SD R hv hq hs ha aE⟩
   | false=>
     simp only [Bool.false_eq_true,if_false,Option.some.injEq,Prod.mk.injEq] at hE;obtain ⟨rfl,rfl,rfl,rfl⟩:=hE
     refine ⟨rfl,SE R hv hq ha ?_⟩
     rw [List.getElem?_eq_getElem aE];rfl
  ·cases hE
 ·split at hE
  ·rename_i id az i off _ e bL xs hq
   cases agg with
   | true=>
     simp only [if_true,Option.some.injEq,Prod.mk.injEq] at hE;obtain ⟨rfl,rfl,rfl,rfl⟩:=hE
     obtain ⟨rfl,h2,h3⟩:=aE
     exact ⟨rfl,SB R hv hq hs ha (by rw [List.getElem?_eq_getElem h2];rfl) h3⟩
   | false=>
     simp only [Bool.false_eq_true,if_false,Option.some.injEq,Prod.mk.injEq] at hE;obtain ⟨rfl,rfl,rfl,rfl⟩:=hE
     obtain ⟨rfl,h2,h3⟩:=aE
     have hx:=List.getElem?_eq_getElem h2
     have hlen:(xs[i]).length=e:=by
      rcases R.heap id _ hq with ⟨_,_,_,h'⟩ | ⟨b,cur,t0,g1,g2,g3⟩
      ·cases h';simp at h2
      ·exact g3.1 _ (List.getElem_mem h2)
     refine ⟨rfl,SC R hv hq ha (x:=xs[i]) hx ?_⟩
     rw [hx,Option.getD_some,List.getElem?_eq_getElem (by rw [hlen];exact h3)];rfl
  ·cases hE
 ·rename_i cs
  cases hv with
  | rv _ _ hr=>
    cases agg with
    | true=>simp only [if_true,Option.some.injEq,Prod.mk.injEq] at hE;obtain ⟨rfl,rfl,rfl,rfl⟩:=hE;exact ⟨rfl,SF hr hs ha aE⟩
    | false=>
      simp only [Bool.false_eq_true,if_false,Option.some.injEq,Prod.mk.injEq] at hE;obtain ⟨rfl,rfl,rfl,rfl⟩:=hE
      refine ⟨rfl,SG hr ha ?_⟩
      rw [List.getElem?_eq_getElem aE];rfl
 ·cases hE
theorem Wb (R:cn C hp w aa) {t:TypeId} {n:Nat} (hs:cj P t=some n) {s x:SV} {v y:Value} (hv:Rp w (aI C aa hp) aa hp s v) (hx:Rp w (aI C aa hp) aa hp x y) {p:Prop} {sv:SV} {u:Option (Nat×HB)} {rd:List Nat} (hE:rQ n hp s x=some (p,sv,u,rd)) (aE:p) :
 sv = .dead∧∃ w' aK,(Instr.storeAt t v y).run P w = .ok () w'∧Step C hp (xD hp u) w w' aa aK:=by
 unfold rQ at hE
 split at hE
 ·cases hE
 ·rename_i cx hc
  split at hE
  ·split at hE
   ·rename_i id off cs hq
    cases hE
    exact ⟨rfl,Wc R hv hq hs hx hc aE.1 aE.2⟩
   ·cases hE
  ·split at hE
   ·rename_i id az i off e bL xs hq
    cases hE
    obtain ⟨rfl,h2,h3,h4⟩:=aE
    have kr:=List.getElem?_eq_getElem h2
    have:=Wa R hv hq hs hx hc h3 kr h4
    rw [kr,Option.getD_some]
    exact ⟨rfl,this⟩
   ·cases hE
  ·cases hE
theorem MA {s0 ft:TypeId} {f off n:Nat} (h:nN P s0 f=some (off,ft)) (hs:cj P ft=some (n+1)) {s:SV} {v:Value} (hv:Rp w (aI C aa hp) aa hp s v) {p:Prop} {sv:SV} {u:Option (Nat×HB)} {rd:List Nat} (hE:oE off hp s=some (p,sv,u,rd)) (aE:p) :
 u=none∧∃ x,(Instr.fieldAt s0 v f).run P w = .ok x w∧Rp w (aI C aa hp) aa hp sv x:=by
 unfold oE at hE
 split at hE
 ·split at hE
  ·rename_i cs hq;cases hE;exact ⟨rfl,Mx hv hq h hs⟩
  ·cases hE
 ·split at hE
  ·rename_i e bL xs hq;cases hE;cases aE;exact ⟨rfl,Mw hv hq h hs⟩
  ·cases hE
 ·cases hE
  cases hv with
  | rv _ _ hr=>exact ⟨rfl,My hr h hs⟩
 ·cases hE
theorem Pz {t et:TypeId} {e:Nat} (ht:P.underlying t=some (.slice et)) (hs:cj P et=some e) {s:SV} {v:Value} (hv:Rp w (aI C aa hp) aa hp s v) {k:IntKind} {i:Int} {p:Prop} {sv:SV} {u:Option (Nat×HB)} {rd:List Nat} (hE:oV e hp s i=some (p,sv,u,rd)) (aE:p) :
 u=none∧∃ x,(Instr.indexAt t v (.int k i)).run P w = .ok x w∧Rp w (aI C aa hp) aa hp sv x:=by
 unfold oV at hE
 split at hE
 ·cases hE
  obtain ⟨rfl,h1,h2⟩:=aE
  cases hv with
  | rv _ _ hr=>exact ⟨rfl,Pt ht hs hr h1 h2⟩
 ·split at hE
  ·rename_i e' bL xs hq
   cases hE
   obtain ⟨rfl,rfl,h1,h2⟩:=aE
   exact ⟨rfl,Pr ht hs hv hq h1 h2⟩
  ·cases hE
 ·split at hE
  ·rename_i e' bL xs hq
   cases hE
   obtain ⟨rfl,rfl,h1,h2⟩:=aE
   exact ⟨rfl,Pu ht hs hv hq h1 h2⟩
  ·rename_i cs hq
   cases hE
   exact ⟨rfl,Pv ht hs hv hq aE.1 aE.2⟩
  ·cases hE
 ·cases hE
theorem Px {t et:TypeId} {len e:Nat} (ht:P.underlying t=some (.array len et)) (hs:cj P et=some e) {s:SV} {v:Value} (hv:Rp w (aI C aa hp) aa hp s v) {k:IntKind} {i:Int} {p:Prop} {sv:SV} {u:Option (Nat×HB)} {rd:List Nat} (hE:oU len e hp s i=some (p,sv,u,rd)) (aE:p) :
 u=none∧∃ x,(Instr.indexAt t v (.int k i)).run P w = .ok x w∧Rp w (aI C aa hp) aa hp sv x:=by
 unfold oU at hE
 split at hE
 ·split at hE
  ·rename_i cs hq;cases hE;exact ⟨rfl,Pp ht hs hv hq aE.1 aE.2⟩
  ·cases hE
 ·split at hE
  ·rename_i e' bL xs hq;cases hE;obtain ⟨rfl,h1,h2⟩:=aE;exact ⟨rfl,Po ht hs hv hq h1 h2⟩
  ·cases hE
 ·cases hE
  cases hv with
  | rv _ _ hr=>exact ⟨rfl,Pq ht hs hr aE.1 aE.2⟩
 ·cases hE
theorem Ss {t et:TypeId} (ht:P.underlying t=some (.slice et)) (ty:TypeId) {s:SV} {v:Value} (hv:Rp w (aI C aa hp) aa hp s v) {p:Prop} {sv:SV} {u:Option (Nat×HB)} {rd:List Nat} (hE:oW hp s=some (p,sv,u,rd)) (aE:p) :
 u=none∧∃ x,(Builtin.len_ #[t] ty #[v]).run P w = .ok x w∧Rp w (aI C aa hp) aa hp sv x:=by
 unfold oW at hE
 split at hE
 ·cases hE
  cases hv with
  | rv _ _ hr=>cases hr;exact ⟨rfl,_,tH ht ty _ _ _,.rv _ _ (.int _ _)⟩
 ·cases hE
  cases hv with
  | rv _ _ hr=>cases hr;exact ⟨rfl,_,tH ht ty _ _ _,.rv _ _ (.int _ _)⟩
 ·cases hE
  cases hv with
  | rv _ _ hr=>cases hr;exact ⟨rfl,_,tH ht ty _ _ _,.rv _ _ (.int _ _)⟩
 ·split at hE
  ·rename_i e bL xs hq;cases hE;cases aE;exact ⟨rfl,_,Sv ht ty hv hq,.rv _ _ (.int _ _)⟩
  ·cases hE
 ·split at hE
  ·rename_i e bL xs hq;cases hE;cases aE;exact ⟨rfl,_,GU ht ty hv (.inl ⟨_,_,hq⟩),.rv _ _ (.int _ _)⟩
  ·rename_i cs hq;cases hE;exact ⟨rfl,_,GU ht ty hv (.inr ⟨_,hq⟩),.rv _ _ (.int _ _)⟩
  ·cases hE
 ·cases hE
theorem Sw {t:TypeId} (ht:P.underlying t=some .string) (ty:TypeId) {s:SV} {v:Value} (hv:Rp w (aI C aa hp) aa hp s v) {p:Prop} {sv:SV} {u:Option (Nat×HB)} {rd:List Nat} (hE:wT s=some (p,sv,u,rd)) (aE:p) :
 u=none∧∃ x,(Builtin.len_ #[t] ty #[v]).run P w = .ok x w∧Rp w (aI C aa hp) aa hp sv x:=by
 unfold wT at hE
 split at hE
 ·cases hE
  cases hv with
  | rv _ _ hr=>cases hr;exact ⟨rfl,_,Uc ht ty _,.rv _ _ (.int _ _)⟩
 ·cases hE
theorem Jm (R:cn C hp w aa) {e:Nat} {s:SV} {v:Value} (hv:Rp w (aI C aa hp) aa hp s v) {p:Prop} {ys:List (List SV)} {rd:List Nat} (hE:nD e hp s=some (p,ys,rd)) (aE:p):kG w (aI C aa hp) aa hp e v ys:=by
 unfold nD at hE
 split at hE
 ·cases hE;cases aE
  cases hv with
  | rv _ _ hr=>exact EL hr
 ·cases hE
  cases hv with
  | rv _ _ hr=>cases hr;exact Bq e
 ·cases hE
  cases hv with
  | rv _ _ hr=>exact EL (RO.Us e hr)
 ·split at hE
  ·rename_i e' bL xs hq;cases hE;obtain ⟨rfl,rfl,h3⟩:=aE;exact EK R hv hq h3
  ·cases hE
 ·split at hE
  ·rename_i e' bL xs hq;cases hE;obtain ⟨rfl,rfl,h3⟩:=aE;exact Mh R hv hq h3
  ·rename_i cs hq;cases hE;exact Mi R hv hq aE
  ·cases hE
 ·cases hE
theorem uc {t et:TypeId} {e bytes:Nat} {z:List RV} (h:qY P t=some (et,e,bytes,z)):sn P t et e bytes∧kE P et=some z∧z.length=e∧cj P et=some e:=by
 unfold qY at h
 split at h
 ·rename_i et' ht
  split at h
  ·rename_i i hi
   split at h
   ·rename_i z' hz
    split at h
    ·rename_i hc
     cases h
     refine ⟨⟨ht,?_,hc.2⟩,hz,hc.1,by simp [cj,hi]⟩
     have wG:=hz
     unfold kE at wG
     simp only [hi] at wG
     cases jt:i.zero with
     | none=>simp [jt] at wG
     | some zv=>
       simp only [jt] at wG
       obtain ⟨c1,_⟩:=sx (default:World) (fun _=>True) (fun _=>none) (fun _=>none) wG
       exact ⟨i,zv,hi,jt,rfl,rfl,by simp at c1;omega⟩
    ·cases h
   ·cases h
  ·cases h
 ·cases h
theorem Lb (R:cn C hp w aa) {t et:TypeId} {e bytes:Nat} (T:sn P t et e bytes) (ty:TypeId) {nx:Nat} {s x:SV} {v y:Value} (hv:Rp w (aI C aa hp) aa hp s v) (hx:Rp w (aI C aa hp) aa hp x y)
 {p:Prop} {sv:SV} {u:Option (Nat×HB)} {rd:List Nat} (hf:∀ hb,u=some (nx,hb)→hp nx=none∧C.h0 nx=none) (hE:qR e bytes hp nx s x=some (p,sv,u,rd)) (aE:p) :
 ∃ id hb,u=some (id,hb)∧∃ r w' aK,(Builtin.append_ #[t,t] ty #[v,y]).run P w = .ok r w'∧Step C hp (up hp id (some hb)) w w' aa aK∧Rp w' (aI C aK (up hp id (some hb))) aK (up hp id (some hb)) sv r:=by
 unfold qR at hE
 split at hE
 ·cases hE
 ·rename_i p' ys rd' hsrc
  split at hE
  ·cases hE
   obtain ⟨h1,h2,h3⟩:=aE
   have E:=Jm R hx hsrc h1
   cases hv with
   | rv _ _ hr=>cases hr;exact ⟨_,_,rfl,Lc R T ty (hf _ rfl).1 (hf _ rfl).2 E h2 h3⟩
  ·split at hE
   ·rename_i id az len e' bL xs hq
    cases hE
    obtain ⟨h1,rfl,rfl,h4,h5,h6⟩:=aE
    have E:=Jm R hx hsrc h1
    exact ⟨_,_,rfl,Ld R T ty hv hq h4 E h5 h6⟩
   ·cases hE
  ·cases hE
theorem Uf {op:BinOp} {a b:ByteArray} {p:Prop} {r:RV} (h:rJ op a b=some (p,r)) (kk:p) (t:TypeId):(binOp op t (.string a) (.string b)).run P w = .ok (valOf r) w∧∀ ok,RO w ok r (valOf r):=by
 cases op <;> unfold rJ at h <;>(try (cases h;done))
 case add=>
  cases h
  refine ⟨?_,fun ok=>.str _⟩
  have:¬ ((a.size+b.size:Nat):Int)>IntKind.i64.max:=by
   simp only [IntKind.max,IntKind.signed,IntKind.bits];simpa using kk
  simp only [binOp,Op.stringOp,this,if_false];rfl
 all_goals (cases h;exact ⟨rfl,fun ok=>.bool _⟩)
theorem Ip {ok:Nat→Prop} {s:ByteArray} {v:Value} (h:Rp w ok aa hp (.rv (.str s)) v):v = .string s:=by
 cases h with | rv _ _ h=>cases h;rfl
def tu:Value→Option Bool
 | .slice a _ _=>some a.isNone
 | .nilIface=>some true
 | .iface _ _=>some false
 | .nilFunc=>some true
 | .func _ _ _=>some false
 | _=>none
theorem Pn {s:SV} {v:Value} (hv:Rp w (aI C aa hp) aa hp s v) {p:Prop} {b:Bool} {rd:List Nat} (h:rC hp s=some (p,b,rd)) (kk:p):tu v=some b∧∃ a n c,v = .slice a n c:=by
 cases hv with
 | rv r v hr=>
   cases hr <;> simp only [rC] at h <;> first
    | (cases h;exact ⟨rfl,_,_,_,rfl⟩)
    | (cases h;done)
    | skip
   rename_i e xs a cap c h0 hc hm he Ga h1 hy
   cases h
   cases a with
   | none=>have:=(h0 rfl).1;subst this;simp at kk
   | some a=>exact ⟨rfl,_,_,_,rfl⟩
 | row id az len _ g1 g0 jT gv=>
   simp only [rC] at h
   split at h
   ·rename_i e bL xs hq
    cases h
    obtain ⟨rfl,hl⟩:=kk
    rcases gv e xs hq with ⟨_,rfl,rfl⟩ | ⟨b,cap,cur,t0,k1,rfl,k3,k4,k5,k6⟩
    ·omega
    ·exact ⟨rfl,_,_,_,rfl⟩
   ·cases h
 | _=>cases h
theorem Pk {s:SV} {v:Value} (hv:Rp w (aI C aa hp) aa hp s v) {p:Prop} {b:Bool} {rd:List Nat} (h:wL s=some (p,b,rd)):tu v=some b∧(v = .nilFunc∨∃ f x y,v = .func f x y):=by
 cases hv with
 | rv r v hr=>
   cases hr <;> simp only [wL] at h <;> first
    | (cases h;exact ⟨rfl,.inl rfl⟩)
    | (cases h;exact ⟨rfl,.inr ⟨_,_,_,rfl⟩⟩)
    | (cases h;done)
 | fn f cs vs hl hy=>cases h;exact ⟨rfl,.inr ⟨_,_,_,rfl⟩⟩
 | fK f cs vs hl hy=>cases h;exact ⟨rfl,.inr ⟨_,_,_,rfl⟩⟩
 | _=>cases h
theorem Pm {s:SV} {v:Value} (hv:Rp w (aI C aa hp) aa hp s v) {p:Prop} {b:Bool} {rd:List Nat} (h:wM s=some (p,b,rd)):tu v=some b∧(v = .nilIface∨∃ f x,v = .iface f x):=by
 cases hv with
 | rv r v hr=>
   cases hr <;> simp only [wM] at h <;> first
    | (cases h;exact ⟨rfl,.inl rfl⟩)
    | (cases h;exact ⟨rfl,.inr ⟨_,_,rfl⟩⟩)
    | (cases h;done)
 | bW t x v h'=>cases h;exact ⟨rfl,.inr ⟨_,_,rfl⟩⟩
 | _=>cases h
theorem Dm {t:TypeId} {u:Value} (hk:(∃ el,P.underlying t=some (.slice el)∧u = .slice none 0 0)∨(∃ a b c,P.underlying t=some (.func a b c)∧u = .nilFunc)∨(∃ ms,P.underlying t=some (.interface ms)∧u = .nilIface)) {v:Value} {b:Bool} (hn:tu v=some b)
 (hf:(∃ a n c,v = .slice a n c)∧(∃ a n c,u = .slice a n c)∨((v = .nilFunc∨∃ f x y,v = .func f x y)∧u = .nilFunc)∨((v = .nilIface∨∃ f x,v = .iface f x)∧u = .nilIface)) :
 (binOp .eql t v u).run P w = .ok (.bool b) w∧(binOp .neq t v u).run P w = .ok (.bool !b) w:=by
 have core:(Op.equal t v u).run P w = .ok b w:=by
  have c:∀ d,(Op.equalIn (d+1) t v u).run P w = .ok b w:=fun d=>by
   rcases hk with ⟨el,ht,rfl⟩ | ⟨x,y,z,ht,rfl⟩ | ⟨ms,ht,rfl⟩
   ·rcases hf with ⟨⟨a,n,c,rfl⟩,_⟩ | ⟨_,h⟩ | ⟨_,h⟩
    ·cases a <;>(simp [tu] at hn;subst hn;simp [Op.equalIn,run_underlying ht])
    ·cases h
    ·cases h
   ·rcases hf with ⟨_,a,n,c,h⟩ | ⟨h,_⟩ | ⟨_,h⟩
    ·cases h
    ·rcases h with rfl | ⟨f,x,y,rfl⟩ <;>(simp [tu] at hn;subst hn;simp [Op.equalIn,run_underlying ht])
    ·cases h
   ·rcases hf with ⟨_,a,n,c,h⟩ | ⟨_,h⟩ | ⟨h,_⟩
    ·cases h
    ·cases h
    ·rcases h with rfl | ⟨f,x,rfl⟩ <;>(simp [tu] at hn;subst hn;simp [Op.equalIn,run_underlying ht])
  exact c 9999
 rcases hf with ⟨⟨a,n,c,rfl⟩,a',n',c',rfl⟩ | ⟨h,rfl⟩ | ⟨h,rfl⟩
 ·constructor <;> simp [binOp,core]
 ·rcases h with rfl | ⟨f,x,y,rfl⟩ <;> constructor <;> simp [binOp,core]
 ·rcases h with rfl | ⟨f,x,rfl⟩ <;> constructor <;> simp [binOp,core]
theorem TZ {t:TypeId} {ks:List CK} (hk:mI P 64 t=some ks) (ha:fD P t=some true) {us vs:List Value} {b:Bool} (h:ki ks us vs=some b) :
 (binOp .eql t (.agg us.toArray) (.agg vs.toArray)).run P w = .ok (.bool b) w∧(binOp .neq t (.agg us.toArray) (.agg vs.toArray)).run P w = .ok (.bool !b) w:=by
 have hw:∀ cs:List Value,mV P t cs = .agg cs.toArray:=fun cs=>by
  unfold mV
  unfold fD at ha
  cases hu:P.underlying t with
  | none=>simp [hu] at ha
  | some d=>cases d <;> simp [hu] at ha <;> rfl
 have core:(Op.equal t (.agg us.toArray) (.agg vs.toArray)).run P w = .ok b w:=by
  have:=Bw (P:=P) 9936 64 t ks hk us vs b h w
  rw [hw,hw] at this
  exact this
 constructor <;> simp [binOp,core]
theorem Ug {xt t:TypeId} {ok:Bool} {z:List RV} (hni:∀ ms,P.underlying t≠some (.interface ms)) {d:TypeDesc} (hd:P.underlying t=some d) (hz:kE P t=some z) {s:SV} {v:Value} {zP:Nat→Prop} (hv:Rp w zP aa hp s v) {p:Prop} {sv:SV} {u:Option (Nat×HB)} {rd:List Nat} (hE:xw t ok s=some (p,sv,u,rd)) :
 u=none∧∃ x,(Instr.typeAssert v xt t ok).run P w = .ok x w∧Rp w zP aa hp sv x:=by
 have BS:∀ ms,d≠.interface ms:=fun ms he=>hni ms (by rw [hd,he])
 obtain ⟨zv,Gi,_⟩:=Kz (P:=P) hz w
 have holds:∀ (t':TypeId) (x:SV) (y:Value),Rp w zP aa hp x y→uW t ok t' x=some (p,sv,u,rd)→u=none∧∃ x,(Instr.typeAssert (.iface t' y) xt t ok).run P w = .ok x w∧Rp w zP aa hp sv x:=fun t' x y hy hF=>by
  unfold uW at hF
  split at hF
  ·rename_i he
   subst he
   cases hF
   refine ⟨rfl,if ok then .tuple #[y,.bool true] else y,?_,?_⟩
   ·unfold Instr.typeAssert
    simp only [Sem.run_bind,run_underlying hd,Result.andThen_ok]
    cases d <;> first | exact absurd rfl (BS _) | simp
   ·cases ok with
    | false=>exact hy
    | true=>exact .aO [x,.rv (.bool true)] [y,.bool true] rfl (fun j z hz=>by
       match j with
       | 0=>simp at hz;subst hz;exact hy
       | 1=>simp at hz;subst hz;exact .rv _ _ (.bool _)
       | j+2=>simp at hz)
  ·rename_i he
   split at hF
   ·rename_i hok
    subst hok
    cases hF
    refine ⟨rfl,.tuple #[zv,.bool false],?_,?_⟩
    ·unfold Instr.typeAssert
     simp only [Sem.run_bind,run_underlying hd,Result.andThen_ok]
     cases d <;> first | exact absurd rfl (BS _) | simp [he,Gi]
    ·exact .aO [.dead,.rv (.bool false)] [zv,.bool false] rfl (fun j z hz=>by
      match j with
      | 0=>simp at hz;subst hz;exact .dead _
      | 1=>simp at hz;subst hz;exact .rv _ _ (.bool _)
      | j+2=>simp at hz)
   ·cases hF
 unfold xw at hE
 split at hE
 ·cases hv with | bW _ _ v0 h0=>exact holds _ _ _ h0 hE
 ·cases hv with | rv _ _ hr=>cases hr with | bW _ _ v0 h0=>exact holds _ _ _ (.rv _ _ h0) hE
 ·cases hv with
  | rv _ _ hr=>
    cases hr
    split at hE
    ·rename_i hok
     subst hok
     cases hE
     refine ⟨rfl,.tuple #[zv,.bool false],?_,?_⟩
     ·unfold Instr.typeAssert
      simp only [Sem.run_bind,run_underlying hd,Result.andThen_ok]
      cases d <;> first | exact absurd rfl (BS _) | simp [Gi]
     ·exact .aO [.dead,.rv (.bool false)] [zv,.bool false] rfl (fun j z hz=>by
       match j with
       | 0=>simp at hz;subst hz;exact .dead _
       | 1=>simp at hz;subst hz;exact .rv _ _ (.bool _)
       | j+2=>simp at hz)
    ·cases hE
 ·cases hE
end
end Go.aJ

namespace Go.aJ
open Go
inductive kF (w:World) (ok:Nat→Prop) (aa:Nat→Option Nat) (hp:Hp) (a:Act):List SV→List Operand→Prop where
 | nil:kF w ok aa hp a [] []
 | cons {s:SV} {x:Operand} {ss:List SV} {xs:List Operand} (h:Rp w ok aa hp s (a.eval x)) (t:kF w ok aa hp a ss xs):kF w ok aa hp a (s::ss) (x::xs)
section
variable {P:Program} {C:Ctx} {hp:Hp} {w:World} {aa:Nat→Option Nat}
theorem kF.length {ok:Nat→Prop} {a:Act} {ss:List SV} {xs:List Operand} (h:kF w ok aa hp a ss xs):ss.length=xs.length:=by
 induction h with
 | nil=>rfl
 | cons _ _ ih=>simp [ih]
theorem kF.get {ok:Nat→Prop} {a:Act} {ss:List SV} {xs:List Operand} (h:kF w ok aa hp a ss xs):∀ (j:Nat) (s:SV),ss[j]?=some s→Rp w ok aa hp s ((xs.map a.eval).getD j undef):=by
 induction h with
 | nil=>intro j s hs;simp at hs
 | cons h _ ih=>
   intro j s hs
   cases j with
   | zero=>simp at hs;subst hs;simpa using h
   | succ j=>simp at hs;simpa using ih j s hs
theorem Fe:∀ (n:Nat) (ps:List (Nat×Nat)) (xs:List (List SV)),fits n ps xs→∀ (j o k:Nat) (x:List SV),ps[j]?=some (o,k)→xs[j]?=some x→x.length=k∧o+k≤n
 | n,[],[],_,j,o,k,x,h,_=>by simp at h
 | n,[],_::_,h,_,_,_,_,_,_=>h.elim
 | n,_::_,[],h,_,_,_,_,_,_=>h.elim
 | n,(o,k)::ps,x::xs,h,j,o',k',x',h1,h2=>by
   obtain ⟨a,b,c⟩:=h
   cases j with
   | zero=>simp at h1 h2;obtain ⟨rfl,rfl⟩:=h1;subst h2;exact ⟨a,b⟩
   | succ j=>simp at h1 h2;exact Fe n ps xs c j o' k' x' h1 h2
theorem DT {e:Nat}:∀ {cs:List (List SV)},xT e cs→∀ c∈cs,c.length=e
 | [],_,c,hc=>by simp at hc
 | x::r,h,c,hc=>by
   rcases List.mem_cons.1 hc with rfl | hc
   ·exact h.1
   ·exact DT h.2 c hc
theorem mapM_some_get {α β:Type} (f:α→Option β):∀ (l:List α) (r:List β),l.mapM f=some r→r.length=l.length∧∀ (j:Nat) (x:α),l[j]?=some x→r[j]?=f x∧(f x).isSome=true
 | [],r,h=>by simp at h;subst h;exact ⟨rfl,fun j x hx=>by simp at hx⟩
 | y::l,r,h=>by
   simp only [List.mapM_cons,Option.bind_eq_bind] at h
   cases hy:f y with
   | none=>simp [hy] at h
   | some b=>
     cases hl:l.mapM f with
     | none=>simp [hy,hl] at h
     | some bs=>
       simp [hy,hl] at h
       subst h
       obtain ⟨h1,h2⟩:=mapM_some_get f l bs hl
       refine ⟨by simp [h1],fun j x hx=>?_⟩
       cases j with
       | zero=>simp at hx;subst hx;simp [hy]
       | succ j=>simp at hx;simpa using h2 j x hx
theorem kF.zero {ok:Nat→Prop} {a:Act} {ss:List SV} (h:kF w ok aa hp a ss []):ss=[]:=by cases h;rfl
theorem kF.one {ok:Nat→Prop} {a:Act} {ss:List SV} {x:Operand} (h:kF w ok aa hp a ss [x]):∃ s,ss=[s]∧Rp w ok aa hp s (a.eval x):=by
 cases h with
 | cons h t=>cases t;exact ⟨_,rfl,h⟩
theorem kF.two {ok:Nat→Prop} {a:Act} {ss:List SV} {x y:Operand} (h:kF w ok aa hp a ss [x,y]):∃ s t,ss=[s,t]∧Rp w ok aa hp s (a.eval x)∧Rp w ok aa hp t (a.eval y):=by
 cases h with
 | cons h t=>obtain ⟨s,rfl,h2⟩:=t.one;exact ⟨_,_,rfl,h,h2⟩
theorem kF.three {ok:Nat→Prop} {a:Act} {ss:List SV} {x y z:Operand} (h:kF w ok aa hp a ss [x,y,z]):∃ s t r,ss=[s,t,r]∧Rp w ok aa hp s (a.eval x)∧Rp w ok aa hp t (a.eval y)∧Rp w ok aa hp r (a.eval z):=by
 cases h with
 | cons h t=>obtain ⟨s,t,rfl,h2,h3⟩:=t.two;exact ⟨_,_,_,rfl,h,h2,h3⟩
theorem jN {ok:Nat→Prop} {k:IntKind} {n:Int} {v:Value} (h:Rp w ok aa hp (.rv (.int k n)) v):v = .int k n:=by
 cases h with | rv _ _ h=>cases h;rfl
theorem tG {ok:Nat→Prop} {b:Bool} {v:Value} (h:Rp w ok aa hp (.rv (.bool b)) v):v = .bool b:=by
 cases h with | rv _ _ h=>cases h;rfl
theorem Ta {s:SV} {v:Value} (hv:Rp w (aI C aa hp) aa hp s v) {p:Prop} {rd:List Nat} (h:lu hp s=some (p,false,rd)) (aE:p):∃ ad,v = .pointer (some ad):=by
 cases hv with
 | rv r v hr=>
   cases r with
   | lV=>cases h
   | rop cs=>cases hr;exact ⟨_,rfl⟩
   | _=>cases h
 | ptr id off _ h1 h0 hb=>
   simp only [lu] at h
   split at h
   ·rename_i cs hq
    obtain ⟨b',_,rfl⟩:=hb cs hq
    exact ⟨_,rfl⟩
   ·cases h
 | bX id az i off _ h1 h0 hle hb=>
   simp only [lu] at h
   split at h
   ·rename_i e bL xs hq
    cases h;subst aE
    obtain ⟨b',_,rfl⟩:=hb e xs hq
    exact ⟨_,rfl⟩
   ·cases h
 | _=>cases h
theorem TY {t:TypeId} (ht:P.underlying t=some .bool) (a b:Bool):(binOp .eql t (.bool a) (.bool b)).run P w = .ok (.bool (a == b)) w∧(binOp .neq t (.bool a) (.bool b)).run P w = .ok (.bool !(a == b)) w:=by
 have core:(Op.equal t (.bool a) (.bool b)).run P w = .ok (a == b) w:=by
  have c:∀ d,(Op.equalIn (d+1) t (.bool a) (.bool b)).run P w = .ok (a == b) w:=fun d=>by
   simp [Op.equalIn,run_underlying ht]
  exact c 9999
 constructor <;> simp [binOp,core]
set_option maxHeartbeats 4000000 in
theorem Tj {o:Oper} {ao:AO} {xs:List Operand} (hc:kY P o.op=some (ao,xs)) (R:cn C hp w aa) (a:Act) {ss:List SV} (A:kF w (aI C aa hp) aa hp a ss xs) {nx:Nat}
 {p:Prop} {sv:SV} {u:Option (Nat×HB)} {rd:List Nat} (hf:∀ hb,u=some (nx,hb)→hp nx=none∧C.h0 nx=none) (hE:bY ao ss hp nx=some (p,sv,u,rd)) (aE:p):ov P C hp w aa o a sv u:=by
 have hc:=yz hc (fun e=>by subst e;simp only [bY] at hE;cases hE)
 cases hop:o.op <;> rw [hop] at hc <;> unfold qp at hc <;>(try dsimp only at hc) <;>(try (cases hc;done))
 case move x=>
  cases hc;obtain ⟨s,rfl,h⟩:=A.one;simp only [bY,o1] at hE;cases hE;exact jy R (by simp [execOp,hop]) h
 case assign x=>
  cases hc;obtain ⟨s,rfl,h⟩:=A.one;simp only [bY,o1] at hE;cases hE;exact jy R (by simp [execOp,hop]) h
 case pick c x y=>
  cases hc;obtain ⟨s1,s2,s3,rfl,h1,h2,h3⟩:=A.three
  simp only [bY,xg] at hE
  split at hE
  ·rename_i c' x' y' hh
   cases hE;cases hh
   have e1:=tG h1
   refine jy R (v:=if c' then a.eval x else a.eval y) ?_ ?_
   ·cases c' <;> simp [execOp,hop,e1,asBool]
   ·cases c' <;> simp [h2,h3]
  ·cases hE
 case alloc t=>
  split at hc
  ·rename_i z hz
   cases hc;cases A.zero;simp only [bY,xU] at hE;cases hE
   exact uk (m:=Instr.alloc t true (.tuple #[])) (fun w=>by simp [execOp,hop]) (KX R (hf _ rfl).1 (hf _ rfl).2 hz _)
  ·cases hc
 case box t x=>
  cases hc;obtain ⟨s,rfl,h⟩:=A.one
  simp only [bY,o1,yf] at hE
  split at hE
  ·rename_i cs hcs
   cases hE
   exact uk (m:=Instr.box t (a.eval x)) (fun w=>by simp [execOp,hop]) (SY R (hf _ rfl).1 (hf _ rfl).2 t h hcs)
  ·cases hE
 case build t parts=>
  split at hc
  ·rename_i z ps hz hps
   split at hc
   ·rename_i mN
    cases hc
    simp only [bY,yh] at hE
    split at hE
    ·rename_i cs hcs
     split at hE
     ·rename_i r hr
      cases hE
      obtain ⟨m1,m2⟩:=mapM_some_get _ _ _ hps
      refine nk R (m:=Instr.build t (parts.map fun (i,x)=>(i,a.eval x))) (fun w=>by simp [execOp,hop]) ?_
      have:=Lx (P:=P) (w:=w) (aa:=aa) (hp:=hp) (ok:=aI C aa hp) hz mN (vs:=(parts.toList.map (·.2)).map a.eval) (by simp [A.length]) A.get hcs hr (fun j o n x g1 g2=>Fe _ _ _ aE j o n x g1 g2) (pv:=parts.toList.map fun (i,x)=>(i,a.eval x)) (by simpa using m1.symm) (fun j i v hj=>by
       rw [List.getElem?_map] at hj
       cases js:parts.toList[j]? with
       | none=>simp [js] at hj
       | some q=>
         simp only [js,Option.map_some,Option.some.injEq,Prod.mk.injEq] at hj
         obtain ⟨rfl,rfl⟩:=hj
         refine ⟨by simp only [List.getElem?_map,js,Option.map_some],?_⟩
         exact (m2 j q js).1)
      have he:(parts.map fun (i,x)=>(i,a.eval x))=(parts.toList.map fun (i,x)=>(i,a.eval x)).toArray:=by
       apply Array.ext';simp
      rw [he];exact this
     ·cases hE
    ·cases hE
   ·cases hc
  ·cases hc
 case buildSlice t len parts=>
  split at hc
  ·rename_i et e AU z hel
   split at hc
   ·rename_i hidx
    cases hc
    obtain ⟨T,hz,hzl,hs⟩:=uc hel
    simp only [bY,yg] at hE
    split at hE
    ·rename_i cs hcs
     cases hE
     have hlen:parts.toList.length=len:=by
      have:=congrArg List.length hidx
      simpa using this
     have nU:ss.length=len:=by rw [A.length];simpa using hlen
     have qB:len≤maxLen:=by
      have h1:=aE.2
      have h2:=T.pos
      have:len*1≤len*e:=Nat.mul_le_mul_left _ h2
      rw [nU] at h1
      simp only [maxLen];omega
     refine uk (m:=Instr.buildSlice t len (parts.map fun (i,x)=>(i,a.eval x))) (fun w=>by simp [execOp,hop]) ?_
     have:=Lw R (hf _ rfl).1 (hf _ rfl).2 T.ht hs hz (by rw [← nU];exact aE.2) qB nU (vs:=(parts.toList.map (·.2)).map a.eval) (by simp [A.length]) A.get hcs (DT aE.1) (ps:=parts.toList.map fun (i,x)=>(i,a.eval x)) (by simpa using hlen) (fun j i v hj=>by
      rw [List.getElem?_map] at hj
      cases js:parts.toList[j]? with
      | none=>simp [js] at hj
      | some q=>
        simp only [js,Option.map_some,Option.some.injEq,Prod.mk.injEq] at hj
        obtain ⟨rfl,rfl⟩:=hj
        refine ⟨?_,by simp only [List.getElem?_map,js,Option.map_some]⟩
        have hj':j<len:=by rw [← hlen];exact (List.getElem?_eq_some_iff.1 js).1
        have:=congrArg (fun l:List Nat=>l[j]?) hidx
        simp only [List.getElem?_map,js,Option.map_some,List.getElem?_range hj',Option.some.injEq] at this
        exact this)
     have he:(parts.map fun (i,x)=>(i,a.eval x))=(parts.toList.map fun (i,x)=>(i,a.eval x)).toArray:=by
      apply Array.ext';simp
     rw [he,nU];exact this
    ·cases hE
   ·cases hc
  ·cases hc
 case load t x=>
  split at hc
  ·rename_i n agg hs ha
   cases hc;obtain ⟨s,rfl,h⟩:=A.one
   simp only [bY,o1] at hE
   obtain ⟨rfl,hx⟩:=CL R hs ha h hE aE
   exact nk R (m:=Instr.loadAt t (a.eval x)) (fun w=>by simp [execOp,hop]) hx
  ·cases hc
 case store t x y=>
  split at hc
  ·rename_i n hs
   cases hc;obtain ⟨s1,s2,rfl,h1,h2⟩:=A.two
   simp only [bY,o2] at hE
   obtain ⟨rfl,w',aK,hr,S⟩:=Wb R hs h1 h2 hE aE
   exact ⟨.skip,undef,w',aK,by simp [execOp,hop,hr],.inr ⟨rfl,rfl⟩,S,.dead _⟩
  ·cases hc
 case nilCheck x=>
  cases hc;obtain ⟨s,rfl,h⟩:=A.one
  simp only [bY,o1,wX] at hE
  split at hE
  ·rename_i p' rd' hn
   cases hE
   obtain ⟨ad,had⟩:=Ta h hn aE
   exact jy R (v:=a.eval x) (by simp [execOp,hop,had]) h
  ·cases hE
 case binOp op t x y yt=>
  have Mp:∀ (op:BinOp),(∃ k,P.underlying t=some (.int k))→o.op = .binOp op t x y yt→some (AO.ry op,[x,y])=some (ao,xs)→ov P C hp w aa o a sv u:=fun op _ hop hc=>by
   cases hc;obtain ⟨s1,s2,rfl,h1,h2⟩:=A.two
   simp only [bY,o2,zw] at hE
   split at hE
   ·split at hE
    ·rename_i k a' k' b' p' r hb
     cases hE
     obtain ⟨rfl,zn⟩:=aE
     obtain ⟨g1,g2⟩:=Ua (P:=P) (w:=w) hb zn t
     refine jy R (v:=valOf r) ?_ (.rv _ _ (g2 _))
     simp [execOp,hop,jN h1,jN h2,eqGuard,g1]
    ·cases hE
   ·cases hE
  have Fa:∀ (op:BinOp),o.op = .binOp op t x y yt→some (AO.qE op,[x,y])=some (ao,xs)→ov P C hp w aa o a sv u:=fun op hop hc=>by
   cases hc;obtain ⟨s1,s2,rfl,h1,h2⟩:=A.two
   simp only [bY,o2,zB] at hE
   split at hE
   ·split at hE
    ·rename_i k1 a1 k2 b1 _ p' r hb
     cases hE
     obtain ⟨g1,g2⟩:=Ub (P:=P) (w:=w) (k':=k2) hb aE t
     refine jy R (v:=valOf r) ?_ (.rv _ _ (g2 _))
     simp [execOp,hop,jN h1,jN h2,eqGuard,g1]
    ·cases hE
   ·cases hE
  have EX:∀ (neg:Bool),P.underlying t=some .bool→o.op = .binOp (if neg then .neq else .eql) t x y yt→some (AO.yK neg,[x,y])=some (ao,xs)→ov P C hp w aa o a sv u:=fun neg ht hop hc=>by
   cases hc;obtain ⟨s1,s2,rfl,h1,h2⟩:=A.two
   simp only [bY,o2,yL] at hE
   split at hE
   ·rename_i a' b'
    cases hE
    obtain ⟨g1,g2⟩:=TY (P:=P) (w:=w) ht a' b'
    refine jy R (v:=.bool (if neg then !(a' == b') else a' == b')) ?_ (.rv _ _ (.bool _))
    cases neg <;> simp [execOp,hop,tG h1,tG h2,eqGuard,g1,g2]
   ·cases hE
  have EY:∀ (neg:Bool),(∃ el,P.underlying t=some (.pointer el))→y = .const (.pointer none)→o.op = .binOp (if neg then .neq else .eql) t x y yt→some (AO.vz neg,[x])=some (ao,xs)→ov P C hp w aa o a sv u:=fun neg ⟨el,ht⟩ hy hop hc=>by
   cases hc;obtain ⟨s1,rfl,h1⟩:=A.one
   simp only [bY,o1,vA] at hE
   split at hE
   ·rename_i p' b rd' hb
    cases hE
    obtain ⟨g1,g2⟩:=TX (P:=P) ht h1 hb aE
    have BY:a.eval y = .pointer none:=by rw [hy];rfl
    refine jy R (v:=.bool (b != neg)) ?_ (.rv _ _ (.bool _))
    have Of:∀ v,(eqGuard .eql t x y v (.pointer none)).run P w = .ok () w:=fun v=>by cases v <;> simp [eqGuard]
    have vQ:∀ v,(eqGuard .neq t x y v (.pointer none)).run P w = .ok () w:=fun v=>by cases v <;> simp [eqGuard]
    cases neg <;> simp [execOp,hop,BY,Of,vQ,g1,g2]
   ·cases hE
  have Mq:∀ (op:BinOp),o.op = .binOp op t x y yt→some (AO.rJ op,[x,y])=some (ao,xs)→ov P C hp w aa o a sv u:=fun op hop hc=>by
   cases hc;obtain ⟨s1,s2,rfl,h1,h2⟩:=A.two
   simp only [bY,o2,Ah] at hE
   split at hE
   ·split at hE
    ·rename_i a' b' p' r hb
     cases hE
     obtain ⟨g1,g2⟩:=Uf (P:=P) (w:=w) hb aE t
     refine jy R (v:=valOf r) ?_ (.rv _ _ (g2 _))
     simp [execOp,hop,Ip h1,Ip h2,eqGuard,g1]
    ·cases hE
   ·cases hE
  have uf:∀ (neg:Bool) (k:Nat) (u0:Value),(k=0∧(∃ el,P.underlying t=some (.slice el))∧u0 = .slice none 0 0)∨(k=1∧(∃ b1 b2 b3,P.underlying t=some (.func b1 b2 b3))∧u0 = .nilFunc)∨(k=2∧(∃ ms,P.underlying t=some (.interface ms))∧u0 = .nilIface)→y = .const u0→o.op = .binOp (if neg then .neq else .eql) t x y yt→some (AO.qv neg k,[x])=some (ao,xs)→ov P C hp w aa o a sv u:=fun neg k u0 hk hy hop hc=>by
   cases hc;obtain ⟨s1,rfl,h1⟩:=A.one
   simp only [bY,o1,sF] at hE
   split at hE
   ·rename_i p' b rd' hb
    cases hE
    have BY:a.eval y=u0:=by rw [hy];rfl
    refine jy R (v:=.bool (b != neg)) ?_ (.rv _ _ (.bool _))
    have Og:∀ op v,(eqGuard op t x y v u0).run P w = .ok () w:=fun op v=>by
     subst hy
     cases op <;> cases v <;>(rcases hk with ⟨_,_,rfl⟩ | ⟨_,_,rfl⟩ | ⟨_,_,rfl⟩) <;> simp [eqGuard]
    have key:(binOp .eql t (a.eval x) u0).run P w = .ok (.bool b) w∧(binOp .neq t (a.eval x) u0).run P w = .ok (.bool !b) w:=by
     rcases hk with ⟨rfl,⟨el,ht⟩,rfl⟩ | ⟨rfl,⟨b1,b2,b3,ht⟩,rfl⟩ | ⟨rfl,⟨ms,ht⟩,rfl⟩
     ·obtain ⟨n1,n2⟩:=Pn h1 hb aE
      exact Dm (.inl ⟨el,ht,rfl⟩) n1 (.inl ⟨n2,_,_,_,rfl⟩)
     ·obtain ⟨n1,n2⟩:=Pk h1 hb
      exact Dm (.inr (.inl ⟨_,_,_,ht,rfl⟩)) n1 (.inr (.inl ⟨n2,rfl⟩))
     ·obtain ⟨n1,n2⟩:=Pm h1 hb
      exact Dm (.inr (.inr ⟨_,ht,rfl⟩)) n1 (.inr (.inr ⟨n2,rfl⟩))
    obtain ⟨g1,g2⟩:=key
    cases neg <;> simp [execOp,hop,BY,Og,g1,g2]
   ·cases hE
  have EZ:∀ (neg:Bool) (ks:List CK),fD P t=some true→mI P 64 t=some ks→P.eqGuardType P.depth t=false→o.op = .binOp (if neg then .neq else .eql) t x y yt→some (AO.eqs neg true ks,[x,y])=some (ao,xs)→ov P C hp w aa o a sv u:=fun neg ks ha hk hg hop hc=>by
   cases hc;obtain ⟨s1,s2,rfl,h1,h2⟩:=A.two
   simp only [bY,o2,yM,if_true] at hE
   split at hE
   ·rename_i xs' ys'
    generalize OK:a.eval x=vx at h1
    generalize OL:a.eval y=vy at h2
    cases h1 with
    | agg _ us zi g1 Nu=>
      cases h2 with
      | agg _ vs vU g2 Nv=>
        unfold yN at hE
        split at hE
        ·rename_i p' b hb
         cases hE
         have BP:=En zi vU Nu Nv hb aE
         obtain ⟨e1,e2⟩:=TZ (P:=P) (w:=w) hk ha BP
         refine jy R (v:=.bool (if neg then !b else b)) ?_ (.rv _ _ (.bool _))
         cases neg <;> simp [execOp,hop,OK,OL,eqGuard,hg,e1,e2]
        ·cases hE
   ·cases hE
  unfold vr at hc
  split at hc
  ·exact Fa _ hop hc
  ·exact Fa _ hop hc
  ·split at hc
   ·rename_i k hk;exact Mp op ⟨k,hk⟩ hop hc
   ·rename_i hk
    split at hc
    ·exact EX false hk hop hc
    ·exact EX true hk hop hc
    ·cases hc
   ·rename_i el hk
    split at hc
    ·exact EY false ⟨el,hk⟩ rfl hop hc
    ·exact EY true ⟨el,hk⟩ rfl hop hc
    ·cases hc
   ·exact Mq op hop hc
   ·rename_i el hk
    split at hc
    ·exact uf false 0 _ (.inl ⟨rfl,⟨el,hk⟩,rfl⟩) rfl hop hc
    ·exact uf true 0 _ (.inl ⟨rfl,⟨el,hk⟩,rfl⟩) rfl hop hc
    ·cases hc
   ·rename_i hk
    split at hc
    ·exact uf false 1 _ (.inr (.inl ⟨rfl,⟨_,_,_,hk⟩,rfl⟩)) rfl hop hc
    ·exact uf true 1 _ (.inr (.inl ⟨rfl,⟨_,_,_,hk⟩,rfl⟩)) rfl hop hc
    ·cases hc
   ·rename_i hk
    split at hc
    ·exact uf false 2 _ (.inr (.inr ⟨rfl,⟨_,hk⟩,rfl⟩)) rfl hop hc
    ·exact uf true 2 _ (.inr (.inr ⟨rfl,⟨_,hk⟩,rfl⟩)) rfl hop hc
    ·cases hc
   ·split at hc
    ·rename_i ks yX hks
     split at hc
     ·cases hc
     ·rename_i hg
      have hg':P.eqGuardType P.depth t=false:=by simpa using hg
      split at hc
      ·exact EZ false ks yX hks hg' hop hc
      ·exact EZ true ks yX hks hg' hop hc
      ·cases hc
    ·cases hc
 case unOp op t x=>
  cases op with
  | not=>
    cases hc;obtain ⟨s,rfl,h⟩:=A.one
    simp only [bY,o1,zO] at hE
    split at hE
    ·cases hE
     exact jy R (v:=.bool _) (by simp [execOp,hop,tG h,Op.unary]) (.rv _ _ (.bool _))
    ·cases hE
  | neg=>
    cases hc;obtain ⟨s,rfl,h⟩:=A.one
    simp only [bY,o1,zM] at hE
    split at hE
    ·cases hE
     exact jy R (v:=.int _ _) (by simp [execOp,hop,jN h,Op.unary,Op.intArith]) (.rv _ _ (.int _ _))
    ·cases hE
  | _=>cases hc
 case convert src dst x=>
  split at hc
  ·rename_i d k hs hd
   cases hc;obtain ⟨s,rfl,h⟩:=A.one
   simp only [bY,o1,yF] at hE
   split at hE
   ·cases hE
    refine jy R (v:=.int k _) ?_ (.rv _ _ (.int _ _))
    simp [execOp,hop,jN h,convert,run_underlying hs,run_underlying hd,Conv.intToInt]
   ·cases hE
  ·cases hc
 case makeInterface t x=>
  split at hc
  ·cases hc
  ·rename_i d hni hd
   cases hc;obtain ⟨s,rfl,h⟩:=A.one
   simp only [bY,o1] at hE
   cases hE
   refine jy R (v:=.iface t (a.eval x)) ?_ (.bW _ _ _ h)
   cases d <;> first | (exact absurd rfl (hni _)) | simp [execOp,hop,Instr.makeInterface,run_underlying hd]
  ·cases hc
 case makeFunc fn first cap=>
  cases fn with
  | func f=>
    dsimp only at hc
    split at hc
    ·rename_i Oe
     cases hc
     simp only [bY] at hE
     cases hE
     have he:first = #[]:=Array.eq_empty_of_size_eq_zero Oe
     refine jy R (v:=.func (.func f) #[] (cap.map a.eval)) (by simp [execOp,hop,Instr.makeFunc,he]) ?_
     have:=Rp.fn (w:=w) (ok:=aI C aa hp) (aa:=aa) (hp:=hp) f ss (cap.toList.map a.eval) (by simp [A.length]) A.get
     have hq:(cap.toList.map a.eval).toArray=cap.map a.eval:=by apply Array.ext';simp
     rwa [hq] at this
    ·split at hc
     ·rename_i hcap
      cases hc
      simp only [bY] at hE
      cases hE
      have he:cap = #[]:=Array.eq_empty_of_size_eq_zero hcap
      refine jy R (v:=.func (.func f) (first.map a.eval) #[]) (by simp [execOp,hop,Instr.makeFunc,he]) ?_
      have:=Rp.fK (w:=w) (ok:=aI C aa hp) (aa:=aa) (hp:=hp) f ss (first.toList.map a.eval) (by simp [A.length]) A.get
      have hq:(first.toList.map a.eval).toArray=first.map a.eval:=by apply Array.ext';simp
      rwa [hq] at this
     ·cases hc
  | _=>cases hc
 case makeSlice t l c=>
  split at hc
  ·rename_i et e AU z hel
   cases hc
   obtain ⟨T,hz,hzl,hs⟩:=uc hel
   obtain ⟨s1,s2,rfl,h1,h2⟩:=A.two
   simp only [bY,o2,zH] at hE
   split at hE
   ·cases hE
    obtain ⟨rfl,g1,g2,g3⟩:=aE
    have e1:=jN h1
    have e2:=jN h2
    refine uk (m:=Instr.makeSlice t (a.eval l) (a.eval c)) (fun w=>by simp [execOp,hop]) ?_
    rw [e1,e2]
    exact SW R (hf _ rfl).1 (hf _ rfl).2 T hz hzl _ _ _ g1 g2 g3
   ·cases hE
  ·cases hc
 case typeAssert x xt t ok=>
  split at hc
  ·cases hc
  ·rename_i d z hni hd hz
   cases hc;obtain ⟨s,rfl,h⟩:=A.one
   simp only [bY,o1] at hE
   obtain ⟨rfl,hx⟩:=Ug (xt:=xt) (fun ms he=>by rw [hd] at he;cases he;exact hni _ rfl) hd hz h hE
   exact nk R (m:=Instr.typeAssert (a.eval x) xt t ok) (fun w=>by simp [execOp,hop]) hx
  ·cases hc
 case fieldAddr s0 x f=>
  split at hc
  ·rename_i off ft hfl
   split at hc
   ·rename_i n hs
    cases hc;obtain ⟨s,rfl,h⟩:=A.one
    simp only [bY,o1] at hE
    obtain ⟨rfl,hx⟩:=MA hfl hs h hE aE
    exact nk R (m:=Instr.fieldAt s0 (a.eval x) f) (fun w=>by simp [execOp,hop]) hx
   ·cases hc
  ·cases hc
 case field s0 x f=>
  split at hc
  ·rename_i off ft hfl
   split at hc
   ·rename_i n agg hs ha
    cases hc;obtain ⟨s,rfl,h⟩:=A.one
    simp only [bY,o1,yQ] at hE
    refine (?_:u=none∧_).elim (fun hu hx=>by subst hu;exact nk R (m:=Instr.field s0 (a.eval x) f) (fun w=>by simp [execOp,hop]) hx)
    split at hE
    ·cases agg with
     | true=>simp only [if_true,Option.some.injEq,Prod.mk.injEq] at hE;obtain ⟨rfl,rfl,rfl,rfl⟩:=hE;exact ⟨rfl,MB h hfl ha hs aE⟩
     | false=>
       simp only [Bool.false_eq_true,if_false,Option.some.injEq,Prod.mk.injEq] at hE;obtain ⟨rfl,rfl,rfl,rfl⟩:=hE
       exact ⟨rfl,MC h hfl ha (by rw [List.getElem?_eq_getElem aE];rfl)⟩
    ·cases hE
   ·cases hc
  ·cases hc
 case indexAddr t x i=>
  split at hc
  ·rename_i et ht
   split at hc
   ·rename_i e hs
    cases hc;obtain ⟨s1,s2,rfl,h1,h2⟩:=A.two
    simp only [bY,o2,nw] at hE
    split at hE
    ·have e2:=jN h2
     obtain ⟨rfl,hx⟩:=Pz ht hs h1 (k:=by assumption) hE aE
     refine nk R (m:=Instr.indexAt t (a.eval x) (a.eval i)) (fun w=>by simp [execOp,hop]) ?_
     rw [e2];exact hx
    ·cases hE
   ·cases hc
  ·rename_i len et ht
   split at hc
   ·rename_i e hs
    cases hc;obtain ⟨s1,s2,rfl,h1,h2⟩:=A.two
    simp only [bY,o2,nw] at hE
    split at hE
    ·have e2:=jN h2
     obtain ⟨rfl,hx⟩:=Px ht hs h1 (k:=by assumption) hE aE
     refine nk R (m:=Instr.indexAt t (a.eval x) (a.eval i)) (fun w=>by simp [execOp,hop]) ?_
     rw [e2];exact hx
    ·cases hE
   ·cases hc
  ·cases hc
 case index t x i=>
  split at hc
  ·rename_i len et ht
   split at hc
   ·rename_i e agg hs ha
    cases hc;obtain ⟨s1,s2,rfl,h1,h2⟩:=A.two
    simp only [bY,o2,nw] at hE
    split at hE
    ·rename_i k' i'
     have e2:=jN h2
     refine (?_:u=none∧_).elim (fun hu hx=>by subst hu;exact nk R (m:=Instr.index t (a.eval x) (a.eval i)) (fun w=>by simp [execOp,hop]) hx)
     rw [e2]
     unfold zD at hE
     split at hE
     ·cases agg with
      | true=>simp only [if_true,Option.some.injEq,Prod.mk.injEq] at hE;obtain ⟨rfl,rfl,rfl,rfl⟩:=hE;exact ⟨rfl,PA h1 ht hs ha _ _ aE.1 aE.2.1 aE.2.2⟩
      | false=>
        simp only [Bool.false_eq_true,if_false,Option.some.injEq,Prod.mk.injEq] at hE;obtain ⟨rfl,rfl,rfl,rfl⟩:=hE
        exact ⟨rfl,PB h1 ht hs ha _ _ aE.1 aE.2.1 (by rw [List.getElem?_eq_getElem aE.2.2];rfl)⟩
     ·cases hE
    ·cases hE
   ·cases hc
  ·rename_i ht
   cases hc;obtain ⟨s1,s2,rfl,h1,h2⟩:=A.two
   simp only [bY,o2,nw] at hE
   split at hE
   ·rename_i k' i'
    have e2:=jN h2
    unfold zC at hE
    split at hE
    ·rename_i s
     cases hE
     generalize OO:a.eval x=xv at h1
     cases h1 with
     | rv _ _ hr=>
       cases hr with
       | str=>
         have hlt:=aE.2
         refine jy R (v:=.int .u8 (((s[i'.toNat]?).getD 0).toNat:Nat)) ?_ (.rv _ _ (.int _ _))
         have hg:s[i'.toNat]?=some (s[i'.toNat]'hlt):=getElem?_pos s i'.toNat hlt
         simp [execOp,hop,Instr.index,e2,asIntOf,run_underlying ht,aE.1,hg,OO]
    ·cases hE
   ·cases hE
  ·cases hc
 case extract x i=>
  cases hc;obtain ⟨s,rfl,h⟩:=A.one
  simp only [bY,o1,yO] at hE
  split at hE
  ·rename_i ts
   cases hE
   cases qz:a.eval x with
   | tuple arr=>
     rw [qz] at h
     cases h with
     | aO _ vs hl hy=>
       have hlt:i<vs.length:=by rw [hl];exact aE
       have hg:=List.getElem?_eq_getElem hlt
       have:=hy i _ (List.getElem?_eq_getElem aE)
       rw [List.getD_eq_getElem?_getD,hg,Option.getD_some] at this
       refine jy R (v:=vs[i]) (by simp [execOp,hop,qz,Instr.extract,hlt]) ?_
       rw [List.getElem?_eq_getElem aE];exact this
   | _=>rw [qz] at h;cases h
  ·cases hE
 case slice t x lo hi mx=>
  cases mx with
  | some m=>cases hc
  | none=>
    dsimp only at hc
    split at hc
    ·rename_i et e AU z hel
     cases hc
     obtain ⟨T,hz,hzl,hs⟩:=uc hel
     refine (?_:u=none∧_).elim (fun hu hx=>by subst hu;exact nk R (m:=Instr.sliceAt t (a.eval x) (lo.map a.eval) (hi.map a.eval) none) (fun w=>by simp [execOp,hop]) hx)
     have core:∀ (s1:SV) (l h:Option Int),Rp w (aI C aa hp) aa hp s1 (a.eval x)→((lo=none∧l=none)∨∃ y k l',lo=some y∧a.eval y = .int k l'∧l=some l')→((hi=none∧h=none)∨∃ y k h',hi=some y∧a.eval y = .int k h'∧h=some h')→
      qM e hp s1 l h=some (p,sv,u,rd)→u=none∧∃ v,(Instr.sliceAt t (a.eval x) (lo.map a.eval) (hi.map a.eval) none).run P w = .ok v w∧Rp w (aI C aa hp) aa hp sv v:=by
      intro s1 l h h1 hlo hhi hm
      unfold qM at hm
      split at hm
      ·rename_i e' xs'
       cases hm
       obtain ⟨rfl,q1,q2,q3⟩:=aE
       refine ⟨rfl,?_⟩
       cases h1 with
       | rv _ _ hr=>
         obtain ⟨v,k1,k2⟩:=Uq (P:=P) (w:=w) T.ht hs hr (lo.map a.eval) (hi.map a.eval) (l.getD 0) (h.getD xs'.length) (by
          rcases hlo with ⟨rfl,rfl⟩ | ⟨y,k,l',rfl,hy,rfl⟩
          ·exact .inl ⟨rfl,rfl⟩
          ·exact .inr ⟨k,by simp [hy]⟩) (by
          rcases hhi with ⟨rfl,rfl⟩ | ⟨y,k,l',rfl,hy,rfl⟩
          ·exact .inl ⟨rfl,rfl⟩
          ·exact .inr ⟨k,by simp [hy]⟩) q1 q2 q3
         exact ⟨v,k1,.rv _ _ k2⟩
      ·split at hm
       ·rename_i id az len _ _ e' bL xs' h' hq
        rcases hhi with ⟨_,hh⟩ | ⟨y,k,l',rfl,hy,hh⟩
        ·cases hh
        ·cases hh
         split at hm
         ·rename_i q1
          cases hm
          obtain ⟨rfl,rfl,q2,q3⟩:=aE
          refine ⟨rfl,?_⟩
          have:=Up (P:=P) T.ht hs h1 hq (lo.map a.eval) h' (by
           rcases hlo with ⟨rfl,rfl⟩ | ⟨y',k',l2,rfl,hy',rfl⟩
           ·exact .inl rfl
           ·simp at q1;subst q1;exact .inr ⟨k',by simp [hy']⟩) k q2 q3
          simpa [hy] using this
         ·rename_i q1
          cases hm
          obtain ⟨rfl,rfl,q2,q3,q4⟩:=aE
          refine ⟨rfl,?_⟩
          rcases hlo with ⟨rfl,rfl⟩ | ⟨y',k',l2,rfl,hy',rfl⟩
          ·exact absurd rfl q1
          ·have:=IE (P:=P) T.ht hs h1 hq (some (.int k h')) k' l2 h' (.inr ⟨k,rfl⟩) q2 q3 q4
           simpa [hy,hy'] using this
       ·rename_i id az len _ _ e' bL xs' hq
        split at hm
        ·rename_i l2
         cases hm
         obtain ⟨rfl,rfl,q2,q3⟩:=aE
         refine ⟨rfl,?_⟩
         rcases hlo with ⟨_,hh⟩ | ⟨y',k',l3,rfl,hy',hh⟩
         ·cases hh
         ·cases hh
          rcases hhi with ⟨rfl,_⟩ | ⟨_,_,_,_,_,hh⟩
          ·have:=IE (P:=P) T.ht hs h1 hq none k' l2 len (.inl ⟨rfl,rfl⟩) q2 q3 (Int.le_refl _)
           simpa [hy'] using this
          ·cases hh
        ·cases hm
       ·cases hm
      ·cases hm
       obtain ⟨q1,q2⟩:=aE
       refine ⟨rfl,?_⟩
       cases h1 with
       | rv _ _ hr=>
         generalize Fy:a.eval x=vx at *
         cases hr
         exact ⟨_,Uo (P:=P) (w:=w) T.ht hs (lo.map a.eval) (hi.map a.eval) (by
          rcases hlo with ⟨rfl,rfl⟩ | ⟨y,k,l',rfl,hy,rfl⟩
          ·exact .inl rfl
          ·simp at q1;subst q1;exact .inr ⟨k,by simp [hy]⟩) (by
          rcases hhi with ⟨rfl,rfl⟩ | ⟨y,k,h',rfl,hy,rfl⟩
          ·exact .inl rfl
          ·simp at q2;subst q2;exact .inr ⟨k,by simp [hy]⟩),.rv _ _ .cv⟩
      ·cases hm
     cases lo with
     | none=>
       cases hi with
       | none=>
         obtain ⟨s1,rfl,h1⟩:=A.one
         simp only [bY,rL,tP,AS,Option.isSome_none,Bool.false_eq_true,if_false] at hE
         exact core s1 none none h1 (.inl ⟨rfl,rfl⟩) (.inl ⟨rfl,rfl⟩) hE
       | some y=>
         obtain ⟨s1,s2,rfl,h1,h2⟩:=A.two
         simp only [bY,rL,tP,Option.isSome_none,Option.isSome_some,Bool.false_eq_true,if_false,if_true] at hE
         cases hb:yc [s2] with
         | none=>simp [hb] at hE
         | some q=>
           simp only [hb] at hE
           unfold yc at hb
           split at hb
           ·rename_i k hh he
            cases hb;cases he
            exact core s1 none (some hh) h1 (.inl ⟨rfl,rfl⟩) (.inr ⟨y,k,hh,rfl,jN h2,rfl⟩) hE
           ·cases hb
     | some y'=>
       cases hi with
       | none=>
         obtain ⟨s1,s2,rfl,h1,h2⟩:=A.two
         simp only [bY,rL,tP,Option.isSome_none,Option.isSome_some,Bool.false_eq_true,if_false,if_true] at hE
         cases hb:yd [s2] with
         | none=>simp [hb] at hE
         | some q=>
           simp only [hb] at hE
           unfold yd at hb
           split at hb
           ·rename_i k hh he
            cases hb;cases he
            exact core s1 (some hh) none h1 (.inr ⟨y',k,hh,rfl,jN h2,rfl⟩) (.inl ⟨rfl,rfl⟩) hE
           ·cases hb
       | some y=>
         obtain ⟨s1,s2,s3,rfl,h1,h2,h3⟩:=A.three
         simp only [bY,rL,tP,Option.isSome_some,if_true] at hE
         cases hb:yb [s2,s3] with
         | none=>simp [hb] at hE
         | some q=>
           simp only [hb] at hE
           unfold yb at hb
           split at hb
           ·rename_i k ll k' hh he
            cases hb;cases he
            exact core s1 (some ll) (some hh) h1 (.inr ⟨y',k,ll,rfl,jN h2,rfl⟩) (.inr ⟨y,k',hh,rfl,jN h3,rfl⟩) hE
           ·cases hb
    ·split at hc
     ·rename_i n et hu
      split at hc
      ·rename_i e hs
       cases hc;obtain ⟨s1,rfl,h1⟩:=A.one
       simp only [bY,o1,rM] at hE
       split at hE
       ·split at hE
        ·rename_i cs hq
         cases hE
         obtain ⟨u,k1,k2⟩:=Lh (P:=P) hu hs h1 hq aE.2
         exact nk R (m:=Instr.sliceAt t (a.eval x) none none none) (fun w=>by simp [execOp,hop]) ⟨u,k1,k2⟩
        ·cases hE
       ·cases hE
      ·cases hc
     ·cases hc
 case panic x=>
  cases hc;simp only [bY] at hE;cases hE
 case call c=>
  obtain ⟨callee,args,argTypes⟩:=c
  cases callee with
  | value f=>
    cases f with
    | func f=>cases hc;simp only [bY,reduceCtorEq] at hE
    | _=>cases hc;simp only [bY,reduceCtorEq] at hE
  | invoke r n=>cases hc;simp only [bY] at hE;cases hE
  | builtin b=>
    cases b with
    | len=>
      dsimp only at hc
      split at hc
      ·rename_i x t hx ht
       have hargs:args = #[x]:=by apply Array.ext';simpa using hx
       have qd:argTypes = #[t]:=by apply Array.ext';simpa using ht
       split at hc
       ·rename_i et hu
        cases hc;obtain ⟨s,rfl,h⟩:=A.one
        simp only [bY,o1] at hE
        obtain ⟨rfl,hx⟩:=Ss hu o.type h hE aE
        exact nk R (m:=Builtin.len_ #[t] o.type #[a.eval x]) (fun w=>by simp [execOp,hop,hargs,qd,resolve,invoke,builtin]) hx
       ·rename_i hu
        cases hc;obtain ⟨s,rfl,h⟩:=A.one
        simp only [bY,o1] at hE
        obtain ⟨rfl,hx⟩:=Sw hu o.type h hE aE
        exact nk R (m:=Builtin.len_ #[t] o.type #[a.eval x]) (fun w=>by simp [execOp,hop,hargs,qd,resolve,invoke,builtin]) hx
       ·cases hc
      ·cases hc
    | append=>
      dsimp only at hc
      split at hc
      ·rename_i s0 x t t' hx ht
       split at hc
       ·rename_i OH
        split at hc
        ·rename_i et e bytes z hel
         cases hc;obtain ⟨s1,s2,rfl,h1,h2⟩:=A.two
         simp only [bY,o2] at hE
         subst OH
         have hargs:args = #[s0,x]:=by apply Array.ext';simpa using hx
         have qd:argTypes = #[t,t]:=by apply Array.ext';simpa using ht
         obtain ⟨T,hz,hzl,hs⟩:=uc hel
         obtain ⟨id,hb,rfl,hx⟩:=Lb R T o.type h1 h2 hf hE aE
         refine uk (m:=Builtin.append_ #[t,t] o.type #[a.eval s0,a.eval x]) (fun w=>by simp [execOp,hop,hargs,qd,resolve,invoke,builtin]) hx
        ·cases hc
       ·split at hc
        ·rename_i et e bytes z hu hel
         cases hc;obtain ⟨s1,s2,rfl,h1,h2⟩:=A.two
         simp only [bY,o2,xV] at hE
         split at hE
         ·cases hE
          have hargs:args = #[s0,x]:=by apply Array.ext';simpa using hx
          have qd:argTypes = #[t,t']:=by apply Array.ext';simpa using ht
          obtain ⟨T,hz,hzl,hs⟩:=uc hel
          have e2:=jN h2
          obtain ⟨g1,g2,g3⟩:=aE
          refine uk (m:=Builtin.append_ #[t,t'] o.type #[a.eval s0,a.eval x]) (fun w=>by simp [execOp,hop,hargs,qd,resolve,invoke,builtin]) ?_
          rw [e2]
          have hnil:a.eval s0 = .slice none 0 0:=by
           generalize a.eval s0=vx at *
           cases h1 with
           | rv _ _ hr=>cases hr;rfl
          rw [hnil]
          exact Le R T o.type hu (hf _ rfl).1 (hf _ rfl).2 _ _ g1 g2 g3
         ·cases hE
        ·cases hc
      ·cases hc
    | cap=>
      dsimp only at hc
      split at hc
      ·rename_i x t hx ht
       have hargs:args = #[x]:=by apply Array.ext';simpa using hx
       have qd:argTypes = #[t]:=by apply Array.ext';simpa using ht
       split at hc
       ·rename_i et hu
        cases hc;obtain ⟨s,rfl,h⟩:=A.one
        simp only [bY,o1,yq] at hE
        split at hE
        ·cases hE
         cases h with
         | rv _ _ hr=>
           generalize Fy:a.eval x=vx at *
           cases hr
           exact nk R (m:=Builtin.cap_ #[t] o.type #[a.eval x]) (fun w=>by simp [execOp,hop,hargs,qd,resolve,invoke,builtin]) (by rw [Fy];exact ⟨_,by simp [Builtin.cap_,run_underlying hu];rfl,.rv _ _ (.int _ _)⟩)
        ·cases hE
       ·cases hc
      ·cases hc
    | clear=>
      dsimp only at hc
      split at hc
      ·rename_i x t hx ht
       have hargs:args = #[x]:=by apply Array.ext';simpa using hx
       have qd:argTypes = #[t]:=by apply Array.ext';simpa using ht
       split at hc
       ·rename_i et e AU z hel
        cases hc;obtain ⟨s1,rfl,h1⟩:=A.one
        obtain ⟨T,hz,hzl,hs⟩:=uc hel
        simp only [bY,o1,qU] at hE
        split at hE
        ·split at hE
         ·rename_i e' bL xs hq
          cases hE
          obtain ⟨rfl,rfl,q1⟩:=aE
          obtain ⟨w',aK,k1,S⟩:=LY (P:=P) R T.ht hz hzl o.type h1 hq q1
          exact ⟨.value (.tuple #[]),.tuple #[],w',aK,by simp [execOp,hop,hargs,qd,resolve,invoke,builtin,k1],.inl rfl,S,.dead _⟩
         ·cases hE
        ·cases hE
       ·cases hc
      ·cases hc
    | max=>
      dsimp only at hc
      split at hc
      ·rename_i hsz
       obtain ⟨x,y,rfl⟩:∃ x y,args = #[x,y]:=by
        obtain ⟨l⟩:=args
        match l,hsz with
        | [x,y],_=>exact ⟨x,y,rfl⟩
       cases hc;obtain ⟨s1,s2,rfl,h1,h2⟩:=A.two
       simp only [bY,o2,zJ] at hE
       split at hE
       ·cases hE
        refine jy R (v:=.int _ _) ?_ (.rv _ _ (.int _ _))
        simp [execOp,hop,resolve,invoke,builtin,Builtin.max_,Builtin.max2,jN h1,jN h2]
       ·cases hE
      ·cases hc
    | min=>
      dsimp only at hc
      split at hc
      ·rename_i hsz
       obtain ⟨x,y,rfl⟩:∃ x y,args = #[x,y]:=by
        obtain ⟨l⟩:=args
        match l,hsz with
        | [x,y],_=>exact ⟨x,y,rfl⟩
       cases hc;obtain ⟨s1,s2,rfl,h1,h2⟩:=A.two
       simp only [bY,o2,zI] at hE
       split at hE
       ·cases hE
        refine jy R (v:=.int _ _) ?_ (.rv _ _ (.int _ _))
        simp [execOp,hop,resolve,invoke,builtin,Builtin.min_,Builtin.min2,jN h1,jN h2]
       ·cases hE
      ·cases hc
    | _=>cases hc
end
end Go.aJ

namespace Go.aJ
open Go
inductive XO where
 | t (n:Nat)
 | c (s:SV)
 deriving Inhabited
def Bh:Operand→Option XO
 | .tmp n=>some (.t n)
 | .const v=>match vu v with
   | some r=>some (.c (.rv r))
   | none=>none
 | .func f=>some (.c (.fn f []))
 | .global _=>none
def tZ:List Operand→Option (List XO)
 | []=>some []
 | x::r=>match Bh x,tZ r with
   | some y,some s=>some (y::s)
   | _,_=>none
def jq (en:Nat→SV):XO→SV
 | .t n=>en n
 | .c s=>s
def bP (hp:Hp):List (Nat×HB)→Hp
 | []=>hp
 | (id,hb)::r=>bP (up hp id (some hb)) r
theorem tJ {hp:Hp}:∀ {us:List (Nat×HB)} {id:Nat},(∀ q∈us,q.1≠id)→bP hp us id=hp id
 | [],id,_=>rfl
 | (i,hb)::r,id,h=>by
   rw [bP,tJ (fun q hq=>h q (by simp [hq])),gA _ _ (Ne.symm (h (i,hb) (by simp)))]
def aR (hp:Hp) (pre:List (Nat×HB)):Prop:=∀ q∈pre,hp q.1=some q.2
def so (C:Ctx) (hp:Hp) (pre us:List (Nat×HB)):Prop:=∀ q∈us,(∃ hb,(q.1,hb)∈pre)∨(hp q.1=none∧C.h0 q.1=none)
section
variable {P:Program} {C:Ctx} {hp:Hp} {w:World} {aa:Nat→Option Nat}
theorem xX {en:Nat→SV} {a:Act} (R:kg C en hp a w aa):∀ {xs:List Operand} {ys:List XO},tZ xs=some ys→kF w (aI C aa hp) aa hp a (ys.map (jq en)) xs
 | [],ys,h=>by cases h;exact .nil
 | x::r,ys,h=>by
   unfold tZ at h
   split at h
   ·rename_i y s hy hs
    cases h
    refine .cons ?_ (xX R hs)
    cases x with
    | tmp n=>cases hy;exact R.env n
    | const v=>
      simp only [Bh] at hy
      split at hy
      ·rename_i r' hr;cases hy;exact .rv _ _ (EI hr _ _).1
      ·cases hy
    | func f=>
      cases hy
      exact Rp.fn f [] [] rfl (fun j y hy=>by simp at hy)
    | global g=>cases hy
   ·cases h
end
structure bH where
 dst:Option Nat
 ao:AO
 xs:List XO
 guard:Option (Nat×Bool)
 deriving Inhabited
def nM (P:Program) (ops:Array Oper) (N:Nat) (o:Oper):Option bH:=
 match kY P o.op with
 | none=>none
 | some (ao,xs)=>match tZ xs with
   | none=>none
   | some ys=>if o.dst.all (·< N) then match o.guard with
     | none=>some ⟨o.dst,ao,ys,none⟩
     | some (j,b)=>match (ops[j]?).bind (·.dst) with
       | some d=>some ⟨o.dst,ao,ys,some (d,b)⟩
       | none=>none
     else none
def pI (P:Program) (o:Oper) (args:List SV) (pre us:List (Nat×HB)) (sv:SV):Prop:=
 ∀ (C:Ctx) (hp:Hp) (w:World) (aa:Nat→Option Nat) (a:Act) (next:Act→World→Prop) (Q:Exit→Act→World→Prop) (ao:AO) (xs:List Operand),kY P o.op=some (ao,xs)→aR hp pre→so C hp pre us→cn C hp w aa→kF w (aI C aa hp) aa hp a args xs→
  (∀ v w' aK,Step C hp (bP hp us) w w' aa aK→Rp w' (aI C aK (bP hp us)) aK (bP hp us) sv v→next (a.put o.dst v) w')→o.wp P a w next Q
def xA:Option (Nat×HB)→List (Nat×HB)
 | none=>[]
 | some q=>[q]
theorem Ws (hp:Hp) (u:Option (Nat×HB)):bP hp (xA u)=xD hp u:=by
 cases u with
 | none=>rfl
 | some q=>rfl
def tV (P:Program) (f:FuncId):Bool:=match P.funcs[f]? with
 | some fn => !(fn.name == "runtime.NumGoroutine") && fn.body.isSome
 | none=>false
def aL (P:Program) (f:FuncId) (args:List SV) (pre us:List (Nat×HB)) (sv:SV):Prop:=
 tV P f=true∧∀ (C:Ctx) (hp:Hp) (w:World) (aa:Nat→Option Nat) (vs:List Value),aR hp pre→so C hp pre us→cn C hp w aa→vs.length=args.length→(∀ (j:Nat) (s:SV),args[j]?=some s→Rp w (aI C aa hp) aa hp s (vs.getD j undef))→
  Calls P f vs.toArray w fun e w'=>∃ v aK,e = .returned v∧Step C hp (bP hp us) w w' aa aK∧Rp w' (aI C aK (bP hp us)) aK (bP hp us) sv v
theorem Ma {P:Program} {op:Op} {f:FuncId} {xs:List Operand} (hc:kY P op=some (.call f,xs)):∃ c:Call,op = .call c∧c.callee = .value (.func f)∧c.args.toList=xs:=by
 have hc:=yz hc (by simp)
 cases op with
 | call c=>
   obtain ⟨callee,args,argTypes⟩:=c
   cases callee with
   | value g=>
     cases g with
     | func g=>cases hc;exact ⟨_,rfl,rfl,rfl⟩
     | _=>cases hc
   | invoke r n=>cases hc
   | builtin b=>cases b <;> unfold qp at hc <;>(try dsimp only at hc) <;>(try (repeat' split at hc)) <;> first | (cases hc;done) | contradiction
 | _=>unfold qp at hc;(try dsimp only at hc);(try unfold vr at hc);(try (repeat' split at hc)) <;> first | (cases hc;done) | contradiction
theorem EE {P:Program} {op:Op} {xs:List Operand} (hc:kY P op=some (.oB,xs)):∃ (c:Call) (x:Operand),op = .call c∧c.callee = .value x∧xs=x::c.args.toList:=by
 have hc:=yz hc (by simp)
 cases op with
 | call c=>
   obtain ⟨callee,args,argTypes⟩:=c
   cases callee with
   | value g=>cases g <;> cases hc <;> exact ⟨_,_,rfl,rfl,rfl⟩
   | invoke r n=>cases hc
   | builtin b=>cases b <;> unfold qp at hc <;>(try dsimp only at hc) <;>(try (repeat' split at hc)) <;> first | (cases hc;done) | contradiction
 | _=>unfold qp at hc;(try dsimp only at hc);(try unfold vr at hc);(try (repeat' split at hc)) <;> first | (cases hc;done) | contradiction
theorem Ac {P:Program} {f:FuncId} (h:tV P f=true) (args:Array Value) (w:World):(callFunc f args).run P w = .ok (.enter f args) w:=by
 unfold tV at h
 split at h
 ·rename_i fn hf
  simp only [Bool.and_eq_true,Bool.not_eq_true'] at h
  have hb:¬ fn.body=none:=by cases FI:fn.body <;> simp [FI] at h ⊢
  have hn : ¬ fn.name = "runtime.NumGoroutine" := by simpa using h.1
  simp [callFunc,hf,hn,hb]
 ·cases h
theorem HL {P:Program} {o:Oper} {f:FuncId} {args:List SV} {pre us:List (Nat×HB)} {sv:SV} {gT:List Operand} (hc:kY P o.op=some (.call f,gT)) (h:aL P f args pre us sv):pI P o args pre us sv:=by
 intro C hp w aa a next Q ao xs jU hpre hnew R A hk
 rw [hc] at jU;cases jU
 obtain ⟨c,hop,sM,hargs⟩:=Ma hc
 have hrun:(execOp a.eval o).run P w = .ok (.enter f (gT.map a.eval).toArray) w:=by
  have he:(c.args.map a.eval)=(gT.map a.eval).toArray:=by rw [← hargs];apply Array.ext';simp
  simp [execOp,hop,resolve,sM,Act.eval,Deferred.ofValue,invoke,Ac h.1,he]
 unfold Oper.wp
 rw [hrun,Oper.upon_enter]
 refine (h.2 C hp w aa (gT.map a.eval) hpre hnew R (by simp [A.length]) A.get).mono ?_
 rintro e w' ⟨v,aK,rfl,h1,h2⟩
 exact hk v w' aK h1 h2
theorem HN {P:Program} {o:Oper} {f:FuncId} {caps args:List SV} {pre us:List (Nat×HB)} {sv:SV} {gT:List Operand} (hc:kY P o.op=some (.oB,gT)) (h:aL P f (args++caps) pre us sv):pI P o (.fn f caps::args) pre us sv:=by
 intro C hp w aa a next Q ao xs jU hpre hnew R A hk
 rw [hc] at jU;cases jU
 obtain ⟨c,x,hop,sM,rfl⟩:=EE hc
 cases A with
 | cons hf A=>
   generalize Ca:a.eval x=fv at hf
   cases hf with
   | fn _ _ qq hcl BQ=>
     have hrun:(execOp a.eval o).run P w = .ok (.enter f (c.args.toList.map a.eval++qq).toArray) w:=by
      have he:(c.args.map a.eval)++qq.toArray=(c.args.toList.map a.eval++qq).toArray:=by apply Array.ext';simp
      simp [execOp,hop,resolve,sM,Ca,Deferred.ofValue,invoke,Ac h.1,he]
     unfold Oper.wp
     rw [hrun,Oper.upon_enter]
     refine (h.2 C hp w aa (c.args.toList.map a.eval++qq) hpre hnew R (by simp [A.length,hcl]) (fun j s hj=>?_)).mono ?_
     ·have oG:=A.length
      by_cases hlt:j<args.length
      ·rw [List.getElem?_append_left hlt] at hj
       have:=A.get j s hj
       rw [List.getD_eq_getElem?_getD] at this ⊢
       rw [List.getElem?_append_left (by simp;simp at oG;omega)];exact this
      ·rw [List.getElem?_append_right (by omega)] at hj
       have:=BQ _ s hj
       rw [List.getD_eq_getElem?_getD] at this ⊢
       rw [List.getElem?_append_right (by simp;simp at oG;omega)]
       simp at oG
       simpa [oG] using this
     ·rintro e w' ⟨v,aK,rfl,h1,h2⟩
      exact hk v w' aK h1 h2
theorem HM {P:Program} {o:Oper} {f:FuncId} {caps args:List SV} {pre us:List (Nat×HB)} {sv:SV} {gT:List Operand} (hc:kY P o.op=some (.oB,gT)) (h:aL P f (caps++args) pre us sv):pI P o (.fK f caps::args) pre us sv:=by
 intro C hp w aa a next Q ao xs jU hpre hnew R A hk
 rw [hc] at jU;cases jU
 obtain ⟨c,x,hop,sM,rfl⟩:=EE hc
 cases A with
 | cons hf A=>
   generalize Ca:a.eval x=fv at hf
   cases hf with
   | fK _ _ qq hcl BQ=>
     have hrun:(execOp a.eval o).run P w = .ok (.enter f (qq++c.args.toList.map a.eval).toArray) w:=by
      have he:qq.toArray++(c.args.map a.eval)=(qq++c.args.toList.map a.eval).toArray:=by apply Array.ext';simp
      simp [execOp,hop,resolve,sM,Ca,Deferred.ofValue,invoke,Ac h.1,he]
     unfold Oper.wp
     rw [hrun,Oper.upon_enter]
     refine (h.2 C hp w aa (qq++c.args.toList.map a.eval) hpre hnew R (by simp [A.length,hcl]) (fun j s hj=>?_)).mono ?_
     ·have oG:=A.length
      by_cases hlt:j<caps.length
      ·rw [List.getElem?_append_left hlt] at hj
       have:=BQ j s hj
       rw [List.getD_eq_getElem?_getD] at this ⊢
       rw [List.getElem?_append_left (by omega)];exact this
      ·rw [List.getElem?_append_right (by omega)] at hj
       have:=A.get _ s hj
       rw [List.getD_eq_getElem?_getD] at this ⊢
       rw [List.getElem?_append_right (by omega),hcl]
       exact this
     ·rintro e w' ⟨v,aK,rfl,h1,h2⟩
      exact hk v w' aK h1 h2
section
variable {hp aE:Hp} {p:Prop} {sv:SV} {u:Option (Nat×HB)} {rd:List Nat}
theorem Hh {n:Nat} {agg:Bool} {s:SV} (h:gE n agg hp s=some (p,sv,u,rd)) (hl:∀ id∈rd,aE id=hp id):gE n agg aE s=some (p,sv,u,rd):=by
 cases s with
 | ptr id off=>
   have:aE id=hp id:=by
    simp only [gE] at h
    split at h
    ·cases agg <;>(simp at h;exact hl id (by simp [← h.2.2.2]))
    ·cases h
   simpa only [gE,this] using h
 | bX id az i off=>
   have:aE id=hp id:=by
    simp only [gE] at h
    split at h
    ·cases agg <;>(simp at h;exact hl id (by simp [← h.2.2.2]))
    ·cases h
   simpa only [gE,this] using h
 | rv r=>cases r <;> exact h
 | _=>exact h
theorem VZ {n:Nat} {s x:SV} (h:rQ n hp s x=some (p,sv,u,rd)) (hl:∀ id∈rd,aE id=hp id):rQ n aE s x=some (p,sv,u,rd):=by
 unfold rQ at h ⊢
 cases hc:mG x with
 | none=>simp [hc] at h
 | some cx=>
   simp only [hc] at h ⊢
   cases s with
   | ptr id off=>
     have:aE id=hp id:=by
      simp only at h
      split at h
      ·simp at h;exact hl id (by simp [← h.2.2.2])
      ·cases h
     simpa only [this] using h
   | bX id az i off=>
     have:aE id=hp id:=by
      simp only at h
      split at h
      ·simp at h;exact hl id (by simp [← h.2.2.2])
      ·cases h
     simpa only [this] using h
   | _=>exact h
theorem Gs {s:SV} {b:Bool} (h:lu hp s=some (p,b,rd)) (hl:∀ id∈rd,aE id=hp id):lu aE s=some (p,b,rd):=by
 cases s with
 | ptr id off=>
   have:aE id=hp id:=by
    simp only [lu] at h
    split at h
    ·simp at h;exact hl id (by simp [← h.2.2])
    ·cases h
   simpa only [lu,this] using h
 | bX id az i off=>
   have:aE id=hp id:=by
    simp only [lu] at h
    split at h
    ·simp at h;exact hl id (by simp [← h.2.2])
    ·cases h
   simpa only [lu,this] using h
 | rv r=>cases r <;> exact h
 | _=>exact h
theorem Mz {off:Nat} {s:SV} (h:oE off hp s=some (p,sv,u,rd)) (hl:∀ id∈rd,aE id=hp id):oE off aE s=some (p,sv,u,rd):=by
 cases s with
 | ptr id o=>
   have:aE id=hp id:=by
    simp only [oE] at h
    split at h
    ·simp at h;exact hl id (by simp [← h.2.2.2])
    ·cases h
   simpa only [oE,this] using h
 | bX id az i o=>
   have:aE id=hp id:=by
    simp only [oE] at h
    split at h
    ·simp at h;exact hl id (by simp [← h.2.2.2])
    ·cases h
   simpa only [oE,this] using h
 | rv r=>cases r <;> exact h
 | _=>exact h
theorem Py {e:Nat} {s:SV} {i:Int} (h:oV e hp s i=some (p,sv,u,rd)) (hl:∀ id∈rd,aE id=hp id):oV e aE s i=some (p,sv,u,rd):=by
 cases s with
 | row id az len=>
   have:aE id=hp id:=by
    simp only [oV] at h
    split at h
    ·simp at h;exact hl id (by simp [← h.2.2.2])
    ·cases h
   simpa only [oV,this] using h
 | win id az off len=>
   have:aE id=hp id:=by
    simp only [oV] at h
    split at h
    ·simp at h;exact hl id (by simp [← h.2.2.2])
    ·simp at h;exact hl id (by simp [← h.2.2.2])
    ·cases h
   simpa only [oV,this] using h
 | rv r=>cases r <;> exact h
 | _=>exact h
theorem Pw {len e:Nat} {s:SV} {i:Int} (h:oU len e hp s i=some (p,sv,u,rd)) (hl:∀ id∈rd,aE id=hp id):oU len e aE s i=some (p,sv,u,rd):=by
 cases s with
 | ptr id o=>
   have:aE id=hp id:=by
    simp only [oU] at h
    split at h
    ·simp at h;exact hl id (by simp [← h.2.2.2])
    ·cases h
   simpa only [oU,this] using h
 | bX id az i0 o=>
   have:aE id=hp id:=by
    simp only [oU] at h
    split at h
    ·simp at h;exact hl id (by simp [← h.2.2.2])
    ·cases h
   simpa only [oU,this] using h
 | rv r=>cases r <;> exact h
 | _=>exact h
theorem Sq {s:SV} (h:oW hp s=some (p,sv,u,rd)) (hl:∀ id∈rd,aE id=hp id):oW aE s=some (p,sv,u,rd):=by
 cases s with
 | row id az len=>
   have:aE id=hp id:=by
    simp only [oW] at h
    split at h
    ·simp at h;exact hl id (by simp [← h.2.2.2])
    ·cases h
   simpa only [oW,this] using h
 | win id az off len=>
   have:aE id=hp id:=by
    simp only [oW] at h
    split at h
    ·simp at h;exact hl id (by simp [← h.2.2.2])
    ·simp at h;exact hl id (by simp [← h.2.2.2])
    ·cases h
   simpa only [oW,this] using h
 | rv r=>cases r <;> exact h
 | _=>exact h
theorem Jl {e:Nat} {s:SV} {ys:List (List SV)} (h:nD e hp s=some (p,ys,rd)) (hl:∀ id∈rd,aE id=hp id):nD e aE s=some (p,ys,rd):=by
 cases s with
 | row id az len=>
   have:aE id=hp id:=by
    simp only [nD] at h
    split at h
    ·simp at h;exact hl id (by simp [← h.2.2])
    ·cases h
   simpa only [nD,this] using h
 | win id az off len=>
   have:aE id=hp id:=by
    simp only [nD] at h
    split at h
    ·simp at h;exact hl id (by simp [← h.2.2])
    ·simp at h;exact hl id (by simp [← h.2.2])
    ·cases h
   simpa only [nD,this] using h
 | rv r=>cases r <;> exact h
 | _=>exact h
theorem KZ {e bytes nx:Nat} {s x:SV} (h:qR e bytes hp nx s x=some (p,sv,u,rd)) (hl:∀ id∈rd,aE id=hp id):qR e bytes aE nx s x=some (p,sv,u,rd):=by
 unfold qR at h ⊢
 cases hs:nD e hp x with
 | none=>simp [hs] at h
 | some q=>
   obtain ⟨p0,ys,rI⟩:=q
   simp only [hs] at h
   cases s with
   | row id az len=>
     simp only at h
     cases hq:hp id with
     | none=>simp [hq] at h
     | some hb=>
       cases hb with
       | var cs=>simp [hq] at h
       | row e' bL xs=>
         simp only [hq,Option.some.injEq,Prod.mk.injEq] at h
         obtain ⟨rfl,rfl,rfl,rfl⟩:=h
         have h1:aE id=hp id:=hl id (by simp)
         rw [Jl hs (fun i hi=>hl i (by simp [hi]))]
         simp [h1,hq]
   | rv r=>
     cases r with
     | cv=>
       simp only [Option.some.injEq,Prod.mk.injEq] at h
       obtain ⟨rfl,rfl,rfl,rfl⟩:=h
       rw [Jl hs hl]
     | _=>cases h
   | _=>cases h
theorem Un {e:Nat} {s:SV} {l k:Option Int} (h:qM e hp s l k=some (p,sv,u,rd)) (hl:∀ id∈rd,aE id=hp id):qM e aE s l k=some (p,sv,u,rd):=by
 cases s with
 | row id az len=>
   have:aE id=hp id:=by
    simp only [qM] at h
    split at h
    ·split at h
     ·simp at h;exact hl id (by simp [← h.2.2.2])
     ·simp at h;exact hl id (by simp [← h.2.2.2])
    ·split at h
     ·simp at h;exact hl id (by simp [← h.2.2.2])
     ·cases h
    ·cases h
   simpa only [qM,this] using h
 | rv r=>cases r <;> exact h
 | _=>exact h
theorem Ur {n e:Nat} {s:SV} (h:rM n e hp s=some (p,sv,u,rd)) (hl:∀ id∈rd,aE id=hp id):rM n e aE s=some (p,sv,u,rd):=by
 cases s with
 | ptr id off=>
   have:aE id=hp id:=by
    simp only [rM] at h
    split at h
    ·simp at h;exact hl id (by simp [← h.2.2.2])
    ·cases h
   simpa only [rM,this] using h
 | _=>exact h
theorem LX {e:Nat} {z:List RV} {s:SV} (h:qU e z hp s=some (p,sv,u,rd)) (hl:∀ id∈rd,aE id=hp id):qU e z aE s=some (p,sv,u,rd):=by
 cases s with
 | win id az off len=>
   have:aE id=hp id:=by
    simp only [qU] at h
    split at h
    ·simp at h;exact hl id (by simp [← h.2.2.2])
    ·cases h
   simpa only [qU,this] using h
 | _=>exact h
theorem Mn {neg:Bool} {k:Nat} {s:SV} (h:sF neg k hp s=some (p,sv,u,rd)) (hl:∀ id∈rd,aE id=hp id):sF neg k aE s=some (p,sv,u,rd):=by
 have key:∀ {p b rd},uA k hp s=some (p,b,rd)→(∀ id∈rd,aE id=hp id)→uA k aE s=some (p,b,rd):=fun {p b rd} h hl=>by
  unfold uA at h ⊢
  split at h
  ·cases s with
   | row id az len=>
     have:aE id=hp id:=by
      simp only [rC] at h
      split at h
      ·simp at h;exact hl id (by simp [← h.2.2])
      ·cases h
     simpa only [rC,this] using h
   | rv r=>cases r <;> exact h
   | _=>exact h
  ·exact h
  ·exact h
 unfold sF at h ⊢
 split at h
 ·rename_i hn
  cases h
  rw [key hn hl]
 ·cases h
theorem Tg {ao:AO} {ss:List SV} {nx:Nat} (h:bY ao ss hp nx=some (p,sv,u,rd)) (hl:∀ id∈rd,aE id=hp id):bY ao ss aE nx=some (p,sv,u,rd):=by
 have l1:∀ (f g:SV→XR),(∀ s,f s=some (p,sv,u,rd)→g s=some (p,sv,u,rd))→o1 f ss=some (p,sv,u,rd)→o1 g ss=some (p,sv,u,rd):=fun f g hfg ho=>by
  unfold o1 at ho ⊢
  split at ho
  ·exact hfg _ ho
  ·cases ho
 have l2:∀ (f g:SV→SV→XR),(∀ s t,f s t=some (p,sv,u,rd)→g s t=some (p,sv,u,rd))→o2 f ss=some (p,sv,u,rd)→o2 g ss=some (p,sv,u,rd):=fun f g hfg ho=>by
  unfold o2 at ho ⊢
  split at ho
  ·exact hfg _ _ ho
  ·cases ho
 have li:∀ (f g:SV→Int→XR),(∀ s t,f s t=some (p,sv,u,rd)→g s t=some (p,sv,u,rd))→∀ s t,nw f s t=some (p,sv,u,rd)→nw g s t=some (p,sv,u,rd):=fun f g hfg s t ho=>by
  unfold nw at ho ⊢
  split at ho
  ·exact hfg _ _ ho
  ·cases ho
 cases ao <;> simp only [bY] at h ⊢ <;> first
  | exact h
  | exact l1 _ _ (fun s=>fun h=>Hh h hl) h
  | exact l2 _ _ (fun s t=>fun h=>VZ h hl) h
  | exact l1 _ _ (fun s=>fun h=>Mz h hl) h
  | exact l2 _ _ (li _ _ (fun s t=>fun h=>Py h hl)) h
  | exact l2 _ _ (li _ _ (fun s t=>fun h=>Pw h hl)) h
  | exact l1 _ _ (fun s=>fun h=>Sq h hl) h
  | exact l1 _ _ (fun s=>fun h=>Mn h hl) h
  | exact l2 _ _ (fun s t=>fun h=>KZ h hl) h
  | exact l1 _ _ (fun s=>fun h=>Ur h hl) h
  | exact l1 _ _ (fun s=>fun h=>LX h hl) h
  | skip
 ·refine l1 _ _ (fun s h=>?_) h
  unfold wX at h ⊢
  split at h
  ·rename_i hn
   cases h
   rw [Gs hn hl]
  ·cases h
 ·refine l1 _ _ (fun s h=>?_) h
  unfold vA at h ⊢
  split at h
  ·rename_i hn
   cases h
   rw [Gs hn hl]
  ·cases h
 ·unfold rL at h ⊢
  split at h
  ·split at h
   ·exact Un h hl
   ·cases h
  ·cases h
end
def UR (hp:Hp) (nx:Nat) (u:Option (Nat×HB)) (rd:List Nat):Prop:=(∀ q,u=some q→q.1=nx∨q.1∈rd)∧∀ id∈rd,(hp id).isSome=true
theorem Gt {hp:Hp} {nx:Nat} {s:SV} {p:Prop} {b:Bool} {rd:List Nat} (h:lu hp s=some (p,b,rd)):UR hp nx none rd:=by
 unfold lu at h
 repeat' split at h
 all_goals first | (cases h;done) | (cases h;simp [UR, *])
theorem VX {hp:Hp} {nx e:Nat} {s:SV} {p:Prop} {ys:List (List SV)} {rd:List Nat} (h:nD e hp s=some (p,ys,rd)):UR hp nx none rd:=by
 unfold nD at h
 repeat' split at h
 all_goals first | (cases h;done) | (cases h;simp [UR, *])
theorem CT {ao:AO} {ss:List SV} {hp:Hp} {nx:Nat} {p:Prop} {sv:SV} {u:Option (Nat×HB)} {rd:List Nat} (h:bY ao ss hp nx=some (p,sv,u,rd)):UR hp nx u rd:=by
 cases ao <;> simp only [bY] at h <;>(try unfold o1 at h) <;>(try unfold o2 at h)
 case CQ=>
  split at h
  ·unfold wX at h
   split at h
   ·rename_i hn;cases h;exact Gt hn
   ·cases h
  ·cases h
 case vz=>
  split at h
  ·unfold vA at h
   split at h
   ·rename_i hn;cases h;exact Gt hn
   ·cases h
  ·cases h
 case qv=>
  split at h
  ·unfold sF at h
   split at h
   ·rename_i hn
    cases h
    unfold uA rC wL wM at hn
    repeat' split at hn
    all_goals first | (cases hn;done) | (cases hn;simp [UR, *])
   ·cases h
  ·cases h
 case app=>
  split at h
  ·unfold qR at h
   split at h
   ·cases h
   ·rename_i hs
    have h1:=VX (nx:=nx) hs
    repeat' split at h
    all_goals first | (cases h;done) | skip
    ·cases h;exact ⟨fun q hq=>by cases hq;exact .inl rfl,h1.2⟩
    ·rename_i hq
     cases h
     refine ⟨fun q hq=>by cases hq;exact .inr (by simp),fun id hid=>?_⟩
     rcases List.mem_cons.1 hid with rfl | hid
     ·simp [hq]
     ·exact h1.2 id hid
  ·cases h
 case slc=>
  unfold rL at h
  repeat' split at h
  all_goals first | (cases h;done) | skip
  unfold qM at h
  repeat' split at h
  all_goals first | (cases h;done) | (cases h;simp [UR, *])
 all_goals
  first
  | (cases h;done)
  | (simp only [xg,xU,yf,yh,yg,gE,rQ,zw,zB,yL,zO,zM,yF,zH,oE,yQ,oV,oU,zD,zC,nw,oW,wT,rM,qU,yq,xV,zJ,zI,yO,yM,yN,Ah,xw,uW] at h
     repeat' split at h
     all_goals first | (cases h;done) | (cases h;simp [UR, *]))
  | (repeat' split at h
     all_goals first | (cases h;done) | (cases h;simp [UR, *]))
theorem HO {P:Program} {o:Oper} {ao:AO} {gT:List Operand} (hc:kY P o.op=some (ao,gT)) {args:List SV} {kk:Hp} {nx:Nat} {p:Prop} {sv:SV} {u:Option (Nat×HB)} {rd:List Nat}
 (hE:bY ao args kk nx=some (p,sv,u,rd)) (aE:p) (hfr:kk nx=none):pI P o args (rd.filterMap fun id=>(kk id).map fun hb=>(id,hb)) (xA u) sv:=by
 intro C hp w aa a next Q WD xs jU hpre hnew R A hk
 rw [hc] at jU;cases jU
 have ur:=CT hE
 have yX:∀ id∈rd,hp id=kk id:=fun id hid=>by
  have h1:=ur.2 id hid
  cases hq:kk id with
  | none=>simp [hq] at h1
  | some hb=>exact hpre (id,hb) (List.mem_filterMap.2 ⟨id,hid,by simp [hq]⟩)
 have NI:=Tg hE yX
 obtain ⟨n,v,w',aK,h1,h2,h3,h4⟩:=Tj hc R a A (fun hb hu=>by
  subst hu
  rcases hnew (nx,hb) (by simp [xA]) with ⟨hb',hm⟩ | h
  ·obtain ⟨id,_,hid⟩:=List.mem_filterMap.1 hm
   cases hq:kk id with
   | none=>simp [hq] at hid
   | some hb2=>simp [hq] at hid;rw [hid.1] at hq;rw [hfr] at hq;cases hq
  ·exact h) NI aE
 unfold Oper.wp
 rw [h1]
 rw [← Ws] at h3 h4
 have:=hk v w' aK h3 h4
 rcases h2 with rfl | ⟨rfl,rfl⟩
 ·exact this
 ·exact this
def oT (P:Program) (t:TypeId) (name:String):Option (FuncId×Option (Nat×Bool)):=match P.info? t with
 | some i=>match i.methods.find? (·.name == name) with
   | some m=>if m.path.isEmpty then match m.func,P.underlying t with
     | some (f,true),some (.pointer _)=>some (f,none)
     | some (f,false),some (.pointer el)=>match cj P el,fD P el with
       | some n,some agg=>some (f,some (n,agg))
       | _,_=>none
     | some (f,false),some _=>some (f,none)
     | _,_=>none
     else none
   | none=>none
 | none=>none
theorem Mb {P:Program} {op:Op} {name:String} {xs:List Operand} (hc:kY P op=some (.inv name,xs)):∃ (c:Call) (x:Operand),op = .call c∧c.callee = .invoke x name∧xs=x::c.args.toList:=by
 have hc:=yz hc (by simp)
 cases op with
 | call c=>
   obtain ⟨callee,args,argTypes⟩:=c
   cases callee with
   | value g=>cases g <;> cases hc
   | invoke r n=>cases hc;exact ⟨_,_,rfl,rfl,rfl⟩
   | builtin b=>cases b <;> unfold qp at hc <;>(try dsimp only at hc) <;>(try (repeat' split at hc)) <;> first | (cases hc;done) | contradiction
 | _=>unfold qp at hc;(try dsimp only at hc);(try unfold vr at hc);(try (repeat' split at hc)) <;> first | (cases hc;done) | contradiction
theorem OR {w:World} {ok:Nat→Prop} {aa:Nat→Option Nat} {hp:Hp} {s:SV} {v:Value} (hv:Rp w ok aa hp s v) {t:TypeId} {x:SV} (h:oR s=some (t,x)):∃ y,v = .iface t y∧Rp w ok aa hp x y:=by
 unfold oR at h
 split at h
 ·cases h;cases hv with | bW _ _ y h=>exact ⟨y,rfl,h⟩
 ·cases h;cases hv with | rv _ _ hr=>cases hr with | bW _ _ y h=>exact ⟨y,rfl,.rv _ _ h⟩
 ·cases h
theorem Uh {P:Program} (ats:Array TypeId) (ty:TypeId) (a:Addr) (s m:ByteArray) (w:World):(Builtin.ssaWrapNilChk_ ats ty #[.pointer (some a),.string s,.string m]).run P w = .ok (.pointer (some a)) w:=rfl
def So (hp:Hp) (x y:SV):Option (Nat×Bool)→Prop
 | none=>y=x
 | some (n,agg)=>∃ p u rd,gE n agg hp x=some (p,y,u,rd)∧p
theorem Ix {P:Program} {t:TypeId} {name:String} {f:FuncId} {ld:Option (Nat×Bool)} (h:oT P t name=some (f,ld)) {v y:Value} {w:World} (hl:match ld with
 | none=>y=v
 | some (n,agg)=>∃ el a,P.underlying t=some (.pointer el)∧v = .pointer (some a)∧(loadVar el a).run P w = .ok y w):∀ fuel,(method (fuel+1) t v name).run P w = .ok (f,y) w:=by
 intro fuel
 unfold oT at h
 split at h
 ·rename_i i hi
  split at h
  ·rename_i m hm
   split at h
   ·rename_i hp
    have Cf:m.path.toList=[]:=by
     have:m.path = #[]:=by simpa using hp
     rw [this]
    have OF:(typeInfo t).run P w = .ok i w:=run_typeInfo w hi
    unfold method
    simp only [Sem.run_bind,OF,Result.andThen_ok,hm]
    split at h
    ·rename_i f0 el hf hu
     cases h
     subst hl
     simp [hf,Cf,follow,receiverAt,run_underlying hu,Place.get]
    ·rename_i f0 el hf hu
     split at h
     ·rename_i n agg hn ha
      cases h
      obtain ⟨WR,a,Gf,rfl,Ot⟩:=hl
      rw [hu] at Gf;cases Gf
      simp only [hf,Cf,follow,Sem.run_pure,Result.andThen_ok,hp,if_true,receiverAt,Sem.run_bind,run_underlying hu,Place.get,strVal,Uh,asAddr,Ot]
     ·cases h
    ·rename_i f0 d hnp hf hu
     cases h
     subst hl
     cases d <;> first | (exact absurd rfl (hnp _)) | simp [hf,Cf,follow,receiverAt,run_underlying hu,Place.get]
    ·cases h
   ·cases h
  ·cases h
 ·cases h
theorem CU {P:Program} {o:Oper} {name:String} {s y:SV} {t:TypeId} {x:SV} {args:List SV} {f:FuncId} {ld:Option (Nat×Bool)} {pre us:List (Nat×HB)} {sv:SV} {gT:List Operand} (hc:kY P o.op=some (.inv name,gT)) (hi:oR s=some (t,x)) (hf:oT P t name=some (f,ld))
 (hl:∀ hp,aR hp pre→So hp x y ld) {zW:List (Nat×HB)} (hsub:∀ q∈zW,q∈pre) (h:aL P f (y::args) zW us sv) (ko:∀ (C:Ctx) hp,so C hp pre us→aR hp pre→so C hp zW us):pI P o (s::args) pre us sv:=by
 intro C hp w aa a next Q ao xs jU hpre hnew R A hk
 rw [hc] at jU;cases jU
 obtain ⟨c,r,hop,sM,rfl⟩:=Mb hc
 cases A with
 | cons hs A=>
   obtain ⟨v,hv,hx⟩:=OR hs hi
   have hy:∃ yv,(∀ fuel,(method (fuel+1) t v name).run P w = .ok (f,yv) w)∧Rp w (aI C aa hp) aa hp y yv:=by
    have FV:=hl hp hpre
    cases ld with
    | none=>have Ou:y=x:=FV
            subst Ou;exact ⟨v,Ix hf rfl,hx⟩
    | some q=>
      obtain ⟨n,agg⟩:=q
      obtain ⟨p,u,rd,hE,aE⟩:=FV
      have hsz:∃ el,P.underlying t=some (.pointer el)∧cj P el=some n∧fD P el=some agg:=by
       unfold oT at hf
       split at hf
       ·split at hf
        ·split at hf
         ·split at hf
          ·cases hf
          ·rename_i hu
           split at hf
           ·rename_i hn ha;cases hf;exact ⟨_,hu,hn,ha⟩
           ·cases hf
          ·cases hf
          ·cases hf
         ·cases hf
        ·cases hf
       ·cases hf
      obtain ⟨el,hu,hn,ha⟩:=hsz
      obtain ⟨_,yv,hr,Ck⟩:=CL R hn ha hx hE aE
      have Co:∃ ad,v = .pointer (some ad):=by
       cases v with
       | pointer a0=>
         cases a0 with
         | some a0=>exact ⟨a0,rfl⟩
         | none=>simp [Instr.loadAt,Instr.sureAddr,stuck,Result.andThen] at hr
       | _=>simp [Instr.loadAt,Instr.sureAddr,stuck,Result.andThen] at hr
      obtain ⟨ad,rfl⟩:=Co
      exact ⟨yv,Ix hf ⟨el,ad,hu,rfl,hr⟩,Ck⟩
   obtain ⟨yv,hm,Ck⟩:=hy
   have hrun:(execOp a.eval o).run P w = .ok (.enter f (yv::c.args.toList.map a.eval).toArray) w:=by
    have he : #[yv]++(c.args.map a.eval)=(yv::c.args.toList.map a.eval).toArray:=by apply Array.ext';simp
    have hm':(method (P.types.size+Made.depth) t v name).run P w = .ok (f,yv) w:=hm (P.types.size+99)
    have hex:(#[a.eval r]++c.args.map a.eval).extract 1 (#[a.eval r]++c.args.map a.eval).size=c.args.map a.eval:=by
     apply Array.ext'
     rw [Array.toList_extract]
     simp [List.extract,List.take_of_length_le]
    simp only [execOp,hop,resolve,sM,Sem.run_bind,Sem.run_pure,Result.andThen_ok,invoke]
    have h0:(#[a.eval r]++c.args.map a.eval)[0]?=some (a.eval r):=by rw [Array.getElem?_append_left (by simp)];rfl
    rw [hv] at h0 hex
    simp only [hv,h0,hex,callMethod,Sem.run_bind,run_program,Result.andThen_ok,hm',Ac h.1,he]
   unfold Oper.wp
   rw [hrun,Oper.upon_enter]
   refine (h.2 C hp w aa (yv::c.args.toList.map a.eval) (fun q hq=>hpre q (hsub q hq)) (ko C hp hnew hpre) R (by simp [A.length]) (fun j s hj=>?_)).mono ?_
   ·cases j with
    | zero=>simp at hj;subst hj;exact Ck
    | succ j=>simpa using A.get j s (by simpa using hj)
   ·rintro e w' ⟨v,aK,rfl,h1,h2⟩
    exact hk v w' aK h1 h2
end Go.aJ
