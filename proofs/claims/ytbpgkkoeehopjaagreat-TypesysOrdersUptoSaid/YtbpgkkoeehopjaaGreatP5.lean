/- Part 5 of a proof: see the text that holds the statement. -/
import Derived.Test.YtbpgkkoeehopjaaGreatP1
import Derived.Test.YtbpgkkoeehopjaaGreatP4
import Derived.Deep.RegionHeld
import Derived.Deep.AppendLies
import Derived.Deep.MidRow
import Derived.StillTailTactics
import Derived.Great.Walk
import Derived.KernelRfl
set_option linter.unusedVariables false
set_option linter.unusedSimpArgs false
namespace Go.Proofs.YtbpgkkoeehopjaaGreat.held
open Go.RowKit
section
variable {P : Program} {ops : Array Oper} {Q : Exit → Act → World → Prop} {md : Region.Mode} {S : World → Prop}
def AnyL (P:Program) (md:Region.Mode) (ops:Array Oper) (Q:Exit→Act→World→Prop) (S:World→Prop) (F:List Nat):Nat→Array Bool→Act→World→Prop
 |0,listed,a,w=>Region.ready md ops listed=[]∧Q .normal a w
 |fuel+1,listed,a,w=>
  (Region.ready md ops listed=[]→Q .normal a w)∧
  ∀i∈Region.ready md ops listed,wpOp P ops Q i (fun a' w'=>(i∉F→S w')∧AnyL P md ops Q S F fuel (listed.setIfInBounds i true) a' w') a w
def dep (md:Region.Mode) (ops:Array Oper):Nat→Nat→Nat→Bool
 |0,_,_=>false
 |f+1,j,i=>match ops[j]? with
  |some o=>o.after.toList.any fun e=>Region.binds md e&&(e.on==i||dep md ops f e.on i)
  |none=>false
def waits (md:Region.Mode) (ops:Array Oper) (F:List Nat) (i:Nat):Bool:=F.all fun j=>dep md ops ops.size j i
def z86 (md:Region.Mode) (ops:Array Oper) (listed:Array Bool):Prop:=∀k ok,ops[k]?=some ok→listed.getD k false=true→ ∀e∈ok.after,Region.binds md e=true→listed.getD e.on false=true
def closed (md:Region.Mode) (ops:Array Oper) (listed:Array Bool):Bool:=(List.range ops.size).all fun k=>match ops[k]? with
 |some o=> !listed.getD k false||o.after.toList.all fun e=> !Region.binds md e||listed.getD e.on false
 |none=>true
theorem x1r {listed:Array Bool} (h:closed md ops listed=true):z86 md ops listed:=fun k ok hk hl e he hb=>by
 have hlt:k<ops.size:=by
  rcases Qbm k ops.size with h'|h'
  ·exact h'
  ·rw [Array.getElem?_eq_none h'] at hk;cases hk
 have h1:=Qbi.1 h k (List.mem_range.2 hlt);rw [hk] at h1;simp only [hl,Bool.not_true,Bool.false_or,Qbi,Bool.or_eq_true,Bool.not_eq_true'] at h1;rcases h1 e (by simpa using he) with h2|h2
 ·rw [hb] at h2;cases h2
 ·exact h2
theorem x9q {listed:Array Bool} {i:Nat} (hc:z86 md ops listed) (hi:listed.getD i false=false): ∀(f j:Nat),dep md ops f j i=true→listed.getD j false=false∧j∉Region.ready md ops listed
 |0,_,h=>by cases h
 |f+1,j,h=>by
  unfold dep at h
  cases ho:ops[j]? with
  |none=>rw [ho] at h;cases h
  |some o=>
   rw [ho] at h;obtain ⟨e,he,hb⟩:=Qbh.1 h;simp only [Qao,Bool.or_eq_true,Qa7] at hb
   have hno:listed.getD e.on false=false:=by
    rcases hb.2 with h1|h1
    ·rw [h1];exact hi
    ·exact (x9q hc hi f e.on h1).1
   have he':e∈o.after:=by simpa using he
   refine ⟨?_,fun hm=>?_⟩
   ·cases hj:listed.getD j false with
    |false=>rfl
    |true=>have:=hc j o ho hj e he' hb.1;rw [hno] at this;cases this
   ·obtain ⟨_,oj,hoj,hall⟩:=mem_ready.1 hm;rw [ho] at hoj;injection hoj with hoj;subst hoj;have:=hall e he' hb.1;rw [hno] at this;cases this
theorem x6c {listed:Array Bool} {j:Nat} (hc:z86 md ops listed) (hj:j∈Region.ready md ops listed):z86 md ops (listed.setIfInBounds j true):=fun k ok hk hl e he hb=>by
 have up: ∀x,listed.getD x false=true→(listed.setIfInBounds j true).getD x false=true:=fun x hx=>by
  by_cases h:j=x
  ·subst h;rw [Qar] at hx ⊢;rw [Array.getElem?_setIfInBounds]
   have hlt:j<listed.size:=by
    rcases Qbm j listed.size with h'|h'
    ·exact h'
    ·rw [Array.getElem?_eq_none h'] at hx;cases hx
   simp [hlt]
  ·rw [getD_set_ne false h];exact hx
 by_cases h:j=k
 ·subst h;obtain ⟨_,oj,hoj,hall⟩:=mem_ready.1 hj;rw [hk] at hoj;injection hoj with hoj;subst hoj;exact up _ (hall e he hb)
 ·rw [getD_set_ne false h] at hl;exact up _ (hc k ok hk hl e he hb)
variable {F : List Nat}
theorem q66: ∀(fuel:Nat) (listed:Array Bool) (a:Act) (w:World),AnyL P md ops Q S F fuel listed a w→wpAny P md ops Q fuel listed a w
 |0,_,_,_,h=>h
 |fuel+1,_,_,_,h=>⟨h.1,fun i hi=>wpOp_mono (fun a' w' h'=>q66 fuel _ a' w' h'.2) (h.2 i hi)⟩
theorem first {i:Nat} {oi:Oper} {v:Value} (hi:ops[i]?=some oi) (hsel: ∀(j:Nat) (o:Oper) cs b,ops[j]?=some o→o.op≠ .select cs b) (hF:waits md ops F i=true)
  (hQ: ∀c a w,Q (.panic c) (a.put oi.dst v) w→Q (.panic c) a w):
  ∀(fuel:Nat) (listed:Array Bool) (a:Act) (w:World),
   (∀j oj,ops[j]?=some oj→j≠i→listed.getD j true=false→(∀e∈oj.after,Region.binds md e=true→e.on≠i)→oi.apart ops oj=true)→
   z86 md ops listed→i∈Region.ready md ops listed→YieldsIf P ops S oi v a→S w→
   AnyL P md ops Q S F fuel (listed.setIfInBounds i true) (a.put oi.dst v) w→AnyL P md ops Q S F (fuel+1) listed a w:=by
 intro fuel
 induction fuel with
 |zero=>
  intro listed a w _ hcl hr hy hS H;refine ⟨fun h=>(by rw [h] at hr;cases hr),fun j hj=>?_⟩;by_cases hji:j=i
  ·subst hji;exact hy.wpOp hi hS ⟨fun _=>hS,H⟩
  ·have:=ready_mono hj hji;rw [H.1] at this;cases this
 |succ fuel ih=>
  intro listed a w hfree hcl hr hy hS H;refine ⟨fun h=>(by rw [h] at hr;cases hr),fun j hj=>?_⟩;by_cases hji:j=i
  ·subst hji;exact hy.wpOp hi hS ⟨fun _=>hS,H⟩
  ·have h1:=H.2 j (ready_mono hj hji);obtain ⟨hjun,oj,hoj,hall⟩:=mem_ready.1 hj
   have hnot: ∀e∈oj.after,Region.binds md e=true→e.on≠i:=fun e he hb heq=>by
    have h1:=hall e he hb;have h0:=(mem_ready.1 hr).1;rw [heq] at h1;rcases Qbm i listed.size with h'|h'
    ·simp [h'] at h0 h1;rw [h0] at h1;cases h1
    ·simp [Array.getElem?_eq_none h'] at h1
   have hiun:listed.getD i false=false:=by
    have h0:=(mem_ready.1 hr).1;rw [Qar] at h0 ⊢
    cases hx:listed[i]? with
    |none=>rfl
    |some b=>rw [hx] at h0;exact h0
   have hjF:j∉F:=fun hm=>(x9q hcl hiun ops.size j (Qbi.1 hF j hm)).2 hj;have h2:=wpOp_putIf hoj (hfree j oj hoj hji hjun hnot) (fun cs b=>hsel i oi cs b hi) (fun cs b=>hsel j oj cs b hoj) hQ hy h1
   have hfree': ∀k ok,ops[k]?=some ok→k≠i→(listed.setIfInBounds j true).getD k true=false→
     (∀e∈ok.after,Region.binds md e=true→e.on≠i)→oi.apart ops ok=true:=fun k ok hk hki hun hno=>by
    refine hfree k ok hk hki ?_ hno;by_cases hjk:j=k
    ·subst hjk;exact hjun
    ·rw [getD_set_ne true hjk] at hun;exact hun
   refine wpOp_mono (fun a' w' h3=>⟨h3.2.1,ih (listed.setIfInBounds j true) a' w' hfree' (x6c hcl hj) (ready_mono hr (Ne.symm hji)) h3.1 (h3.2.1 hjF) ?_⟩) h2;rw [Array.setIfInBounds_comm _ _ hji];exact h3.2.2
theorem take {i:Nat} {oi:Oper} {v:Value} {fuel:Nat} {listed:Array Bool} {a:Act} {w:World} (hi:ops[i]?=some oi)
  (hs:Region.noSelect ops=true) (hf:Region.free md ops listed i=true) (hr:(Region.ready md ops listed).contains i=true) (hF:waits md ops F i=true) (hc:closed md ops listed=true)
  (hQ: ∀c a w,Q (.panic c) (a.put oi.dst v) w→Q (.panic c) a w) (hy:YieldsIf P ops S oi v a) (hS:S w)
  (h:AnyL P md ops Q S F fuel (listed.setIfInBounds i true) (a.put oi.dst v) w):AnyL P md ops Q S F (fuel+1) listed a w:=
 first hi (Region.noSelect_spec hs) hF hQ fuel listed a w (Region.free_spec hi hf) (x1r hc) (by simpa using hr) hy hS h
theorem step {i:Nat} {o:Oper} {fuel:Nat} {listed:Array Bool} {a:Act} {w:World} (hr:Region.ready md ops listed=[i]) (ho:ops[i]?=some o)
  (h: ∀K':Act→World→Prop,Shut (∀a w,(i∉F→S w)→((i∉F→S w)→AnyL P md ops Q S F fuel (listed.setIfInBounds i true) a w)→K' a w)→if Region.wanted o (yielded ops a.tmps)=true then Oper.wp P o a w K' Q else K' (a.put o.dst undef) w):
  AnyL P md ops Q S F (fuel+1) listed a w:=
 ⟨fun h0=>(by rw [hr] at h0;cases h0),fun j hj=>by
   rw [hr] at hj;obtain rfl:=Qax.1 hj
   exact wpOp_step ho (fun K' hK=>h K' (fun a w hS hW=>hK a w ⟨hS,hW hS⟩))⟩
theorem done {listed:Array Bool} {a:Act} {w:World} (hr:Region.ready md ops listed=[]) (h:Q .normal a w): ∀fuel,AnyL P md ops Q S F fuel listed a w
 |0=>⟨hr,h⟩
 |_+1=>⟨fun _=>h,by rw [hr];simp⟩
theorem begin_ {id:Nat} {a:Act} {w:World} (S:World→Prop) (F:List Nat) (hm:P.follows .mixedOrders=true)
  (h:AnyL P .any ops Q S F ops.size (Array.replicate ops.size false) a w.drew):(Code.region id ops true).wp P Q a w:=
 wp_region_any hm (q66 _ _ _ _ h)
end
end Go.Proofs.YtbpgkkoeehopjaaGreat.held
namespace Go.Proofs.YtbpgkkoeehopjaaGreat.held
open Go
variable {P : Program}
def At (w:World) (p:Addr) (cs:List Value):Prop:=(∀u,cs[0]?=some u→w.cell? p=some u)∧ ∀j u,cs[j+1]?=some u→w.cell? ⟨p.block,p.off+(j+1),none⟩=some u
theorem y4d (w:World) (p:Addr) (ty:TypeId) (cs:List Value) (d:TypeDesc) (hc:At w p cs)
  (hu:P.underlying ty=some d) (hd:d.isRow=true) (hi:(P.info? ty).map (·.size)=some cs.length):
  (loadVar ty p).run P w= .ok (.agg cs.toArray) w:=by
 have hl:(loadCells p cs.length).run P w= .ok cs.toArray w:=
  run_loadCells_list (P:=P) w p cs (fun j v hv=>by
   cases j with
   |zero=>exact hc.1 v hv
   |succ j=>exact hc.2 j v hv)
 cases hq:P.info? ty with
 |none=>simp [hq] at hi
 |some i=>
  have hs:i.size=cs.length:=by simpa [hq] using hi
  have hagg:(isAgg ty).run P w= .ok true w:=by
   unfold isAgg;rw [Sem.run_bind,run_underlying hu w]
   cases d<;>simp_all
  simp [loadVar,Sem.run_bind,hagg,sizeOf,typeInfo,hq,hs,hl]
theorem x6d {op:Oper} {a:Act} {w:World} {K:Act→World→Prop} {Q:Exit→Act→World→Prop} (ty:TypeId) (x:Operand) (ho:op.op= .load ty x)
  (p:Addr) (hx:a.eval x= .pointer (some p)) (cs:List Value) (d:TypeDesc) (hc:At w p cs)
  (hu:P.underlying ty=some d) (hd:d.isRow=true) (hi:(P.info? ty).map (·.size)=some cs.length)
  (h:K (a.put op.dst (.agg cs.toArray)) w):op.wp P a w K Q:=by
 unfold Oper.wp execOp;simp only [ho,hx,Instr.loadAt,Instr.sureAddr,Sem.run_bind,Sem.run_pure,Result.andThen_ok,y4d w p ty cs d hc hu hd hi];exact h
theorem y0c {ops:Array Oper} {rest:List Oper} {op:Oper} {a:Act} {w:World} {Q:Exit→Act→World→Prop} (hgd:op.guard=none) (ty:TypeId) (x:Operand) (ho:op.op= .load ty x)
  (p:Addr) (hx:a.eval x= .pointer (some p)) (cs:List Value) (d:TypeDesc) (hc:At w p cs)
  (hu:P.underlying ty=some d) (hd:d.isRow=true) (hi:(P.info? ty).map (·.size)=some cs.length)
  (h:wpList P ops Q rest (a.put op.dst (.agg cs.toArray)) w):wpList P ops Q (op::rest) a w:=
 wpList_plain hgd fun _ hK=>x6d ty x ho p hx cs d hc hu hd hi (hK _ _ h)
end Go.Proofs.YtbpgkkoeehopjaaGreat.held
namespace Go.Proofs.YtbpgkkoeehopjaaGreat.hp
open Go.RowKit words enc tree gram lex rd dec dat held
theorem y64 (a b:List NamedD):y0v (a++b)=y0v a++y0v b:=by simp [y0v]
theorem z3r (l:List FieldD):(y0u l).length=l.length*10:=y93 y3z (fun _=>rfl) l
theorem z3s (l:List DirD):(y24 l).length=l.length*4:=y93 dirL (fun _=>rfl) l
theorem z3t (l:List InputD):(y0o l).length=l.length*17:=y93 y4m y8i l
theorem z3u (l:List ValueD):(y12 l).length=l.length*7:=y93 y7z (fun _=>rfl) l
def y1h (d more:DefD):DefD:={d with ifaces:=d.ifaces++more.ifaces,dirs:=d.dirs++more.dirs,fields:=d.fields++more.fields,inputs:=d.inputs++more.inputs,members:=d.members++more.members,values:=d.values++more.values,roots:=d.roots++more.roots}
def junk:Obj:=.coro none
structure Sat (w K:World):Prop where
 size:K.heap.size≤w.heap.size
 blk: ∀(b:Nat) (o:Obj),K.heap[b]?=some o→o≠junk→w.heap[b]?=some o
def Free (K:World) (g:Nat):Prop:=∀o:Obj,K.heap[g]?=some o→o=junk
section
variable {w w' K K' : World}
theorem Sat.refl (w:World):Sat w w:=⟨Qab _,fun _ _ h _=>h⟩
theorem Sat.trans {a b c:World} (h:Sat a b) (h':Sat b c):Sat a c:=⟨Qah h'.size h.size,fun b o ho hn=>h.blk b o (h'.blk b o ho hn) hn⟩
theorem x3u {c:Array Value} {t:TypeId} {f:Nat×Nat}:Obj.cells c t f≠junk:=by intro h;cases h
theorem Sat.cell (h:Sat w K) {p:Addr} {v:Value} (hp:K.cell? p=some v):w.cell? p=some v:=by
 unfold World.cell? at hp ⊢;split at hp
 ·rename_i c e f hb;rw [h.blk _ _ hb x3u];exact hp
 ·cases hp
theorem RdS.sat {S S':Nat→Prop} {A:Option Addr} {xs:List Value} (h:RdS K S A xs) (hS: ∀b,S b→S' b) (hs:Sat w K):RdS w S' A xs:=fun hn=>by
 obtain ⟨ad,e,hb,hc⟩:=h hn;exact ⟨ad,e,hS _ hb,fun j u hu=>hs.cell (hc j u hu)⟩
mutual
theorem Reads.sat {S S':Nat→Prop} (hS: ∀b,S b→S' b) (hs:Sat w K): ∀(t:Leaf) (v:Value),Reads K S t v→Reads w S' t v
 | .lit u,v,h=>by simp only [Reads] at h ⊢;exact h
 | .list n cs,v,h=>by
  simp only [Reads] at h ⊢;obtain ⟨A,c,vs,h1,h2,h3,h4,h5⟩:=h;exact ⟨A,c,vs,h1,h2,h3,ReadsL.sat hS hs cs vs h4,RdS.sat h5 hS hs⟩
theorem ReadsL.sat {S S':Nat→Prop} (hS: ∀b,S b→S' b) (hs:Sat w K): ∀(ts:List Leaf) (vs:List Value),ReadsL K S ts vs→ReadsL w S' ts vs
 |[],vs,h=>by simp only [ReadsL] at h ⊢;exact h
 |t::ts,vs,h=>by
  simp only [ReadsL] at h ⊢;obtain ⟨v,r,h1,h2,h3⟩:=h;exact ⟨v,r,h1,Reads.sat hS hs t v h2,ReadsL.sat hS hs ts r h3⟩
end
end
abbrev RD (K:World) (t:Leaf) (v:Value):Prop:=Dat K 0 K.heap.size t v
abbrev RL (K:World) (ts:List Leaf) (vs:List Value):Prop:=DatL K 0 K.heap.size ts vs
section
variable {w w' K K' : World}
theorem _root_.Go.Proofs.YtbpgkkoeehopjaaGreat.dat.Dat.sat {a T:Nat} {t:Leaf} {v:Value} (h:Dat K a T t v) (hs:Sat w K):RD w t v:=
 ⟨Reads.sat (fun b hb=>⟨Qak _,Qap hb.2 (Qah h.le hs.size)⟩) hs _ _ h.reads,Qab _⟩
theorem _root_.Go.Proofs.YtbpgkkoeehopjaaGreat.dat.DatL.sat {a T:Nat} {ts:List Leaf} {vs:List Value} (h:DatL K a T ts vs) (hs:Sat w K):RL w ts vs:=
 ⟨ReadsL.sat (fun b hb=>⟨Qak _,Qap hb.2 (Qah h.le hs.size)⟩) hs _ _ h.reads,Qab _⟩
def kx (K w:World) (P:Nat→Bool):World:={w with heap:=Array.ofFn (n:=w.heap.size) fun b=>if P b.1 then w.heap[b.1] else K.heap.getD b.1 junk}
theorem kx_size {P:Nat→Bool}:(kx K w P).heap.size=w.heap.size:=by simp [kx]
theorem z87 {P:Nat→Bool} {b:Nat} (hP:P b=true):(kx K w P).heap[b]?=w.heap[b]?:=by
 rcases Qbm b w.heap.size with h|h
 ·simp [kx,h,hP]
 ·simp [kx,h]
theorem q8d {P:Nat→Bool} {b:Nat} (hb:b<w.heap.size) (hP:P b=false):(kx K w P).heap[b]?=some (K.heap.getD b junk):=by
 simp [kx,hb,hP]
theorem kx_sat {P:Nat→Bool} (hs:Sat w K):Sat w (kx K w P):=⟨by rw [kx_size];exact Qab _,fun b o ho hn=>by
 have hb:b<w.heap.size:=by have:=(Qan.1 ho).1;rwa [kx_size] at this
 cases hP:P b with
 |true=>rw [z87 hP] at ho;exact ho
 |false=>
  rw [q8d hb hP] at ho;injection ho with ho
  cases hk:K.heap[b]? with
  |none=>rw [Qar,hk] at ho;exact absurd ho.symm hn
  |some x=>
   rw [Qar,hk] at ho;have ho:x=o:=ho;subst ho
   exact hs.blk b x hk hn⟩
theorem kx_le {P:Nat→Bool} (hs:Sat w K):Sat (kx K w P) K:=⟨by rw [kx_size];exact hs.size,fun b o ho hn=>by
 have hb:b<w.heap.size:=Qap (Qan.1 ho).1 hs.size
 cases hP:P b with
 |true=>rw [z87 hP];exact hs.blk b o ho hn
 |false=>rw [q8d hb hP,Qar,ho];rfl⟩
theorem q8e {P:Nat→Bool} {g:Nat} (h:Free K g) (hP:P g=false):Free (kx K w P) g:=fun o ho=>by
 have hb:g<w.heap.size:=by have:=(Qan.1 ho).1;rwa [kx_size] at this
 rw [q8d hb hP] at ho;injection ho with ho
 cases hk:K.heap[g]? with
 |none=>rw [Qar,hk] at ho;exact ho.symm
 |some x=>rw [Qar,hk] at ho;exact (show x=o from ho)▸h x hk
theorem kx_dat {P:Nat→Bool} {a T:Nat} {ts:List Leaf} {vs:List Value} (h:DatL w a T ts vs) (hP: ∀b,a≤b→b<T→P b=true):RL (kx K w P) ts vs:=
 ⟨ReadsL.keep (fun b hb=>⟨Qak _,by rw [kx_size];exact Qap hb.2 h.le⟩) (fun p hp=>World.cell?_of_block (z87 (hP _ hp.1 hp.2))) _ _ h.reads,Qab _⟩
theorem x3v {g:Nat} (h:K.heap.size≤g):Free K g:=fun o ho=>by have:=(Qan.1 ho).1;omega
end
inductive Ent where
 |box (g:Nat) (cs:List Value) (t:TypeId)
 |row (e:TypeId) (m:Nat) (v:Value) (n:Nat) (vs:List Value)
 |map (g:Nat) (l:List (Value×Value))
 |obj (g:Nat) (o:Obj)
def y20 (l:List (Value×Value)):List MapEntry:=l.zipIdx.map fun p=>{key:=p.1.1,val:=p.1.2,born:=p.2}
def mobj (l:List (Value×Value)):Obj:=.map (y20 l).toArray l.length
def Ent.blk:Ent→Option Nat
 | .box g _ _=>some g
 | .row _ _ v _ _=>v.ownBlock
 | .map g _=>some g
 | .obj g _=>some g
def Ent.ok (w:World):Ent→Prop
 | .box g cs t=>w.heap[g]?=some (.cells cs.toArray t (0,0))
 | .row e m v n vs=>w.ownsRow 0 e m v n vs
 | .map g l=>w.heap[g]?=some (mobj l)
 | .obj g o=>w.heap[g]?=some o
def Apart (e f:Ent):Prop:=∀g,e.blk=some g→f.blk≠some g
theorem Apart.symm {e f:Ent} (h:Apart e f):Apart f e:=fun g hg he=>h g he hg
theorem Ent.lt {w:World} {e:Ent} (h:e.ok w) {g:Nat} (hg:e.blk=some g):g<w.heap.size:=by
 cases e with
 |box b cs t=>simp only [Ent.blk,Option.some.injEq] at hg;subst hg;exact (Qan.1 h).1
 |row e m v n vs=>exact (World.ownsRow.lt (show w.ownsRow 0 e m v n vs from h) g hg).2
 |map b l=>simp only [Ent.blk,Option.some.injEq] at hg;subst hg;exact (Qan.1 h).1
 |obj b o=>simp only [Ent.blk,Option.some.injEq] at hg;subst hg;exact (Qan.1 h).1
theorem Ent.keep {w w':World} {e:Ent} (h:e.ok w) (hk: ∀g,e.blk=some g→w'.heap[g]?=w.heap[g]?):e.ok w':=by
 cases e with
 |box b cs t=>exact (hk b rfl).trans h
 |row e m v n vs=>exact z3q (show w.ownsRow 0 e m v n vs from h) hk
 |map b l=>exact (hk b rfl).trans h
 |obj b o=>exact (hk b rfl).trans h
structure Hp (w0 w K:World) (M:List Ent):Prop where
 bel:Below w0.heap.size w0 w
 sat:Sat w K
 ok: ∀e∈M,e.ok w
 fr: ∀e∈M,∀g,e.blk=some g→w0.heap.size≤g∧Free K g
 nd:M.Pairwise Apart
section
variable {w0 w w' K K' : World} {M M' : List Ent} {e e' : Ent} {i : Nat}
theorem Hp.start (w:World):Hp w w w []:=⟨Below.refl _ _,Sat.refl _,(fun _ h=>by cases h),(fun _ h=>by cases h),List.Pairwise.nil⟩
theorem Hp.setAt (H:Hp w0 w K M) (hi:M[i]?=some e) (hg:w.grownBy w' e.blk) (hok:e'.ok w') (hb:e'.blk=e.blk∨ ∃g,e'.blk=some g∧w.heap.size≤g):Hp w0 w' K (M.set i e'):=by
 have hlt:i<M.length:=(Qac.1 hi).1
 have hM:M=M.take i++e::M.drop (i+1):=by
  have:=Qac.1 hi;obtain ⟨h,rfl⟩:=this;simp
 have hS:M.set i e'=M.take i++e'::M.drop (i+1):=by rw [List.set_eq_take_append_cons_drop,if_pos hlt]
 have hmem:e∈M:=Qaf hi;rw [hS];generalize M.take i=A at hM hS ⊢;generalize M.drop (i+1)=B at hM hS ⊢;subst hM;have hnd:=H.nd;rw [List.pairwise_append,List.pairwise_cons] at hnd;obtain ⟨n1,⟨n2,n3⟩,n4⟩:=hnd
 have far: ∀x∈A++B,Apart e x:=fun x hx=>by
  rcases Qbf.1 hx with hx|hx
  ·exact (n4 x hx e (Qaz ..)).symm
  ·exact n2 x hx
 have hin: ∀x∈A++B,x∈A++e::B:=fun x hx=>by
  rcases Qbf.1 hx with hx|hx
  ·exact Qbw _ hx
  ·exact Qbx _ (Qa2 _ hx)
 have keep: ∀x∈A++B,x.ok w':=fun x hx=>Ent.keep (H.ok x (hin x hx)) fun g hxg=>hg.block g (Ent.lt (H.ok x (hin x hx)) hxg) (fun he=>far x hx g he.symm hxg)
 have far': ∀x∈A++B,Apart e' x:=fun x hx g he hxg=>by
  rcases hb with hb|⟨g',hb,hge⟩
  ·exact far x hx g (hb▸he) hxg
  ·rw [hb] at he;injection he with he;subst he
   have:=Ent.lt (H.ok x (hin x hx)) hxg;omega
 refine ⟨⟨hg.os.trans H.bel.os,hg.tape.trans H.bel.tape,hg.output.trans H.bel.output,Qah H.bel.size hg.size,fun k hk=>(hg.block k (Qap hk H.bel.size) (fun he=>?_)).trans (H.bel.block k hk)⟩,
  ⟨Qah H.sat.size hg.size,fun b o ho hn=>(hg.block b (Qap (Qan.1 ho).1 H.sat.size) (fun he=>?_)).trans (H.sat.blk b o ho hn)⟩,?_,?_,?_⟩
 ·have:=(H.fr e hmem k he.symm).1;omega
 ·exact hn ((H.fr e hmem b he.symm).2 o ho)
 ·intro x hx;rcases Qbf.1 hx with hx|hx
  ·exact keep x (Qbw _ hx)
  ·rcases Qbd.1 hx with rfl|hx
   ·exact hok
   ·exact keep x (Qbx _ hx)
 ·intro x hx g hxg;rcases Qbf.1 hx with hx|hx
  ·exact H.fr x (hin x (Qbw _ hx)) g hxg
  ·rcases Qbd.1 hx with rfl|hx
   ·rcases hb with hb|⟨g',hb,hge⟩
    ·exact H.fr e hmem g (hb▸hxg)
    ·rw [hb] at hxg;injection hxg with hxg;subst hxg
     exact ⟨Qah H.bel.size hge,x3v (Qah H.sat.size hge)⟩
   ·exact H.fr x (hin x (Qbx _ hx)) g hxg
 ·rw [List.pairwise_append,List.pairwise_cons];refine ⟨n1,⟨fun x hx=>far' x (Qbx _ hx),n3⟩,fun x hx y hy=>?_⟩;rcases Qbd.1 hy with rfl|hy
  ·exact (far' x (Qbw _ hx)).symm
  ·exact n4 x hx y (Qa2 _ hy)
theorem Hp.cons (H:Hp w0 w K M) (hg:w.grownBy w' none) (hok:e.ok w') (hb: ∀g,e.blk=some g→w.heap.size≤g):Hp w0 w' K (e::M):=by
 have keep: ∀x∈M,x.ok w':=fun x hx=>Ent.keep (H.ok x hx) fun g hxg=>hg.block g (Ent.lt (H.ok x hx) hxg) (by simp)
 refine ⟨⟨hg.os.trans H.bel.os,hg.tape.trans H.bel.tape,hg.output.trans H.bel.output,Qah H.bel.size hg.size,fun k hk=>(hg.block k (Qap hk H.bel.size) (by simp)).trans (H.bel.block k hk)⟩,
  ⟨Qah H.sat.size hg.size,fun b o ho hn=>(hg.block b (Qap (Qan.1 ho).1 H.sat.size) (by simp)).trans (H.sat.blk b o ho hn)⟩,?_,?_,?_⟩
 ·intro x hx;rcases Qbd.1 hx with rfl|hx
  ·exact hok
  ·exact keep x hx
 ·intro x hx g hxg;rcases Qbd.1 hx with rfl|hx
  ·exact ⟨Qah H.bel.size (hb g hxg),x3v (Qah H.sat.size (hb g hxg))⟩
  ·exact H.fr x hx g hxg
 ·rw [List.pairwise_cons];exact ⟨fun x hx g he hxg=>by have:=hb g he;have:=Ent.lt (H.ok x hx) hxg;omega,H.nd⟩
theorem Hp.tail (H:Hp w0 w K (e::M)):Hp w0 w K M:=⟨H.bel,H.sat,fun x hx=>H.ok x (Qa2 _ hx),fun x hx=>H.fr x (Qa2 _ hx),(List.pairwise_cons.1 H.nd).2⟩
theorem Hp.perm (H:Hp w0 w K M) (h:M.Perm M'):Hp w0 w K M':=
 ⟨H.bel,H.sat,fun x hx=>H.ok x (h.mem_iff.2 hx),fun x hx=>H.fr x (h.mem_iff.2 hx),(h.pairwise_iff (fun h=>h.symm)).1 H.nd⟩
theorem Hp.swap {e f:Ent} (H:Hp w0 w K (e::f::M)):Hp w0 w K (f::e::M):=H.perm (List.Perm.swap ..)
theorem Hp.below (H:Hp w0 w K M) (hb:Below w.heap.size w w'):Hp w0 w' K M:=by
 have H1:=(H.cons (e:=.row 0 0 (.slice none 0 0) 0 []) (y42 hb none) (World.ownsRow_nil _ _ _ _) (fun g h=>by simp [Ent.blk,Value.ownBlock] at h));exact H1.tail
theorem Hp.drew (H:Hp w0 w K M) (n:Nat):Hp w0 (w.drewN n) K M:=H.below (Go.below_drewN (Below.refl _ _) n)
theorem Hp.nilRow (H:Hp w0 w K M) (e:TypeId) (m:Nat):Hp w0 w K (.row e m (.slice none 0 0) 0 []::M):=
 H.cons (y42 (Below.refl _ _) none) (World.ownsRow_nil _ _ _ _) (fun g h=>by simp [Ent.blk,Value.ownBlock] at h)
theorem Hp.alloc (H:Hp w0 w K M) (cs:List Value) (t:TypeId):Hp w0 (w.alloc (.cells cs.toArray t)) K (.box w.heap.size cs t::M):=
 H.cons (y42 ((Below.refl _ _).alloc (Qab _) _) none) (heap_alloc_new w _) (fun g h=>by simp only [Ent.blk,Option.some.injEq] at h;omega)
theorem Hp.allocMap (H:Hp w0 w K M):Hp w0 (w.alloc (.map #[] 0)) K (.map w.heap.size []::M):=
 H.cons (y42 ((Below.refl _ _).alloc (Qab _) _) none) (heap_alloc_new w _) (fun g h=>by simp only [Ent.blk,Option.some.injEq] at h;omega)
theorem Hp.learn (H:Hp w0 w K M) (P:Nat→Bool) (hP: ∀e∈M,∀g,e.blk=some g→P g=false):Hp w0 w (kx K w P) M∧Sat (kx K w P) K:=
 ⟨⟨H.bel,kx_sat H.sat,H.ok,fun x hx g hg=>⟨(H.fr x hx g hg).1,q8e (H.fr x hx g hg).2 (hP x hx g hg)⟩,H.nd⟩,kx_le H.sat⟩
theorem Hp.fresh (H:Hp w0 w K M) (hb:Below w.heap.size w w'): ∃K',Sat K' K∧Hp w0 w' K' M∧(∀b,w.heap.size≤b→K'.heap[b]?=w'.heap[b]?)∧ ∀ts vs,DatL w' w.heap.size w'.heap.size ts vs→RL K' ts vs:=by
 have H1:=H.below hb;have h2:=H1.learn (fun b=>decide (w.heap.size≤b)) (fun x hx g hg=>Qa4 (by have:=Ent.lt (H.ok x hx) hg;omega));exact ⟨_,h2.2,h2.1,fun b hb=>z87 (Qa5 hb),fun ts vs h=>kx_dat h (fun b hb _=>Qa5 hb)⟩
theorem Hp.freeze (H:Hp w0 w K (e::M)): ∃K',Sat K' K∧Hp w0 w K' M∧(∀g,e.blk=some g→K'.heap[g]?=w.heap[g]?)∧w.heap.size=K'.heap.size:=by
 have h2:=H.tail.learn (fun b=>decide (e.blk=some b)) (fun x hx g hg=>Qa4 (fun he=>(List.pairwise_cons.1 H.nd).1 x hx g he hg));exact ⟨_,h2.2,h2.1,fun g hg=>z87 (Qa5 hg),kx_size.symm⟩
theorem Hp.freezeRow {ty:TypeId} {m n:Nat} {v:Value} {vs:List Value} {ls:List Leaf} (H:Hp w0 w K (.row ty m v n vs::M)) (hl:RL K ls vs): ∃K',Sat K' K∧Hp w0 w K' M∧RD K' (.list n ls) v:=by
 obtain ⟨K',h1,h2,h3,h4⟩:=H.freeze;refine ⟨K',h1,h2,?_⟩;have ho:w.ownsRow 0 ty m v n vs:=H.ok _ (Qaz ..);have ho':K'.ownsRow 0 ty m v n vs:=z3q ho (fun g hg=>h3 g hg);exact ⟨y2k ho' (hl.sat h1).reads (fun g hg=>⟨Qak _,(ho'.lt g hg).2⟩),Qab _⟩
theorem Hp.cell (H:Hp w0 w K M) {g j:Nat} {cs:List Value} {t:TypeId} {v:Value} (hi:M[i]?=some (.box g cs t)) (hj:cs[j]?=some v):w.cell? ⟨g,j,none⟩=some v:=by
 have h:w.heap[g]?=some (.cells cs.toArray t (0,0)):=H.ok _ (Qaf hi);unfold World.cell?;simp only [h,Option.isSome_none,Bool.false_eq_true,if_false];simpa using hj
theorem Hp.frozen (H:Hp w0 w K M) {g:Nat} {cs:List Value} {t:TypeId} (hi:M[i]?=some (.box g cs t)) (j:Nat):w.frozen? ⟨g,j,none⟩=false:=by
 have h:w.heap[g]?=some (.cells cs.toArray t (0,0)):=H.ok _ (Qaf hi);exact frozen_of_row w g j _ _ h
theorem Hp.blkAt (H:Hp w0 w K M) {g:Nat} {cs:List Value} {t:TypeId} (hi:M[i]?=some (.box g cs t)):w.heap[g]?=some (.cells cs.toArray t (0,0)):=H.ok _ (Qaf hi)
theorem Hp.lt (H:Hp w0 w K M) {g:Nat} (hi:M[i]?=some e) (hg:e.blk=some g):g<w.heap.size:=Ent.lt (H.ok _ (Qaf hi)) hg
theorem Hp.set (H:Hp w0 w K M) {g:Nat} {cs:List Value} {t:TypeId} (hi:M[i]?=some (.box g cs t)) (j:Nat) (v:Value):Hp w0 (w.setCell ⟨g,j,none⟩ v) K (M.set i (.box g (cs.set j v) t)):=by
 refine H.setAt hi (z5p w g j v) ?_ (.inl rfl);have h:=heap_setCell_same w g j cs.toArray t v (H.blkAt hi);simpa [Ent.ok] using h
end
section
variable {P : Program} {w0 w K : World} {M : List Ent} {ops : Array Oper} {rest : List Oper} {o : Oper} {a : Act} {Q : Exit → Act → World → Prop} {i : Nat}
theorem x3w (hgd:o.guard=none) (ty:TypeId) (ho:o.op= .alloc ty) (cs:List Value) (hz:((P.info? ty).bind (·.zero)).map (·.cells)=some cs.toArray) (dst:Option Tmp) (hdst:o.dst=dst) (H:Hp w0 w K M)
  (h: ∀w' g,Hp w0 w' K (.box g cs ty::M)→w.heap.size≤g→wpList P ops Q rest (a.put dst (.pointer (some ⟨g,0,none⟩))) w'):wpList P ops Q (o::rest) a w:=by
 subst hdst;refine wpList_plain hgd fun _ hK=>?_
 cases hq:P.info? ty with
 |none=>simp [hq] at hz
 |some ti=>
  cases hzz:ti.zero with
  |none=>simp [hq,hzz] at hz
  |some z=>
   have hzc:z.cells=cs.toArray:=by simpa [hq,hzz] using hz
   unfold Oper.wp execOp
   have hrun:(Instr.alloc ty true (.tuple #[])).run P w= .ok (.pointer (some ⟨w.heap.size,0,none⟩)) (w.alloc (.cells cs.toArray ty)):=by
    simp [Instr.alloc,zeroValue,typeInfo,hq,hzz,newVar,newRow,newObj,hzc];rfl
   simp only [ho,Sem.run_bind,hrun,Result.andThen_ok,Sem.run_pure];exact hK _ _ (h _ _ (H.alloc cs ty) (Qab _))
theorem z16 (hgd:o.guard=none) (ty:TypeId) (x:Operand) (ho:o.op= .box ty x) (cs:List Value) (v:Value) (hx:a.eval x=v) (hv:v.cells=cs.toArray) (dst:Option Tmp) (hdst:o.dst=dst) (H:Hp w0 w K M)
  (h: ∀w' g,Hp w0 w' K (.box g cs ty::M)→w.heap.size≤g→wpList P ops Q rest (a.put dst (.pointer (some ⟨g,0,none⟩))) w'):wpList P ops Q (o::rest) a w:=by
 subst hdst;refine wpList_plain hgd fun _ hK=>?_;unfold Oper.wp execOp
 have hrun:(Instr.box ty v).run P w= .ok (.pointer (some ⟨w.heap.size,0,none⟩)) (w.alloc (.cells cs.toArray ty)):=by
  simp [Instr.box,newVar,newRow,newObj,hv];rfl
 simp only [ho,hx,Sem.run_bind,hrun,Result.andThen_ok,Sem.run_pure];exact hK _ _ (h _ _ (H.alloc cs ty) (Qab _))
theorem Hp.setMid (H:Hp w0 w K M) {g:Nat} {cs cs' us:List Value} {t:TypeId} (hi:M[i]?=some (.box g cs t)) (j:Nat) (hj:j+us.length≤cs.length) (hn:cs.take j++us++cs.drop (j+us.length)=cs'):Hp w0 (w.setCells g j us) K (M.set i (.box g cs' t)):=by
 refine H.setAt hi y88 ?_ (.inl rfl);have hb:=H.blkAt hi
 have hcs:cs=cs.take j++(cs.drop j).take us.length++cs.drop (j+us.length):=by
  rw [Qat,←List.drop_drop,List.take_append_drop,List.take_append_drop]
 rw [hcs] at hb;have h2:=x1n (w:=w) (g:=g) (us:=us) (i:=j) (pre:=cs.take j) (old:=(cs.drop j).take us.length) (post:=cs.drop (j+us.length)) hb (by simp;omega) (by simp;omega);rw [y61];rw [←hn];exact h2
theorem z68 {Kc:Act→World→Prop} (ty:TypeId) (x y:Operand) (ho:o.op= .store ty x y) (g j:Nat) (hx:a.eval x= .pointer (some ⟨g,j,none⟩)) (v:Value) (hy:a.eval y=v) (us:List Value) (hv:v.cells=us.toArray)
  (hone: ∀u∈us,u.oneCell'=true) (hsz:(P.info? ty).map (·.size)=some us.length) (H:Hp w0 w K M) (i:Nat) (cs cs':List Value) (t:TypeId) (hi:M[i]?=some (.box g cs t)) (hj:j+us.length≤cs.length) (hn:cs.take j++us++cs.drop (j+us.length)=cs')
  (h: ∀w',Hp w0 w' K (M.set i (.box g cs' t))→Kc (a.put o.dst undef) w'):Oper.wp P o a w Kc Q:=by
 have hrun:(storeVar ty ⟨g,j,none⟩ v).run P w= .ok () (w.setCells g j us):=by
  have:=run_storeCells_cells (P:=P) g j us 0 w (fun k hk=>by
    have hk':j+k<cs.length:=by omega
    rw [Nat.add_zero,H.cell hi (Qad hk')];rfl) (fun k hk=>H.frozen hi _) hone
  cases hq:P.info? ty with
  |none=>simp [hq] at hsz
  |some ti=>
   have hs:us.length=ti.size:=by simp [hq] at hsz;omega
   simp only [Nat.add_zero] at this;simp [storeVar,sizeOf,typeInfo,hq,hv,hs,this]
 unfold Oper.wp execOp;simp only [ho,hx,hy,Instr.storeAt,Instr.sureAddr,Sem.run_bind,Sem.run_pure,Result.andThen_ok,hrun];exact h _ (H.setMid hi j hj hn)
theorem z69 (hgd:o.guard=none) (ty:TypeId) (x y:Operand) (ho:o.op= .store ty x y) (g j:Nat) (hx:a.eval x= .pointer (some ⟨g,j,none⟩)) (v:Value) (hy:a.eval y=v) (us:List Value) (hv:v.cells=us.toArray)
  (hone: ∀u∈us,u.oneCell'=true) (hsz:(P.info? ty).map (·.size)=some us.length) (H:Hp w0 w K M) (i:Nat) (cs cs':List Value) (t:TypeId) (hi:M[i]?=some (.box g cs t)) (hj:j+us.length≤cs.length) (hn:cs.take j++us++cs.drop (j+us.length)=cs')
  (h: ∀w',Hp w0 w' K (M.set i (.box g cs' t))→wpList P ops Q rest (a.put o.dst undef) w'):wpList P ops Q (o::rest) a w:=
 wpList_plain hgd fun _ hK=>z68 ty x y ho g j hx v hy us hv hone hsz H i cs cs' t hi hj hn fun w' H'=>hK _ _ (h w' H')
theorem z0j {E:Prop} {Kc:Act→World→Prop} (hgd:o.guard=none) (ty:TypeId) (x y:Operand) (ho:o.op= .store ty x y) (g j:Nat) (hx:a.eval x= .pointer (some ⟨g,j,none⟩)) (v:Value) (hy:a.eval y=v) (us:List Value) (hv:v.cells=us.toArray)
  (hone: ∀u∈us,u.oneCell'=true) (hsz:(P.info? ty).map (·.size)=some us.length) (H:Hp w0 w K M) (i:Nat) (cs cs':List Value) (t:TypeId) (hi:M[i]?=some (.box g cs t)) (hj:j+us.length≤cs.length) (hn:cs.take j++us++cs.drop (j+us.length)=cs')
  (h: ∀w',Hp w0 w' K (M.set i (.box g cs' t))→Kc (a.put o.dst undef) w'):if Region.wanted o (yielded ops a.tmps)=true then Oper.wp P o a w Kc Q else E:=by
 have hw:Region.wanted o (yielded ops a.tmps)=true:=by simp [Region.wanted,hgd]
 rw [if_pos hw];exact z68 ty x y ho g j hx v hy us hv hone hsz H i cs cs' t hi hj hn h
theorem q8f (hgd:o.guard=none) (ty:TypeId) (x:Operand) (ho:o.op= .load ty x) (g j:Nat) (hx:a.eval x= .pointer (some ⟨g,j,none⟩)) (us:List Value) (d:TypeDesc) (hu:P.underlying ty=some d) (hd:d.isRow=true) (hsz:(P.info? ty).map (·.size)=some us.length)
  (H:Hp w0 w K M) (i:Nat) (cs:List Value) (t:TypeId) (hi:M[i]?=some (.box g cs t)) (hn:(cs.drop j).take us.length=us) (h:wpList P ops Q rest (a.put o.dst (.agg us.toArray)) w):wpList P ops Q (o::rest) a w:=by
 refine wpList_load_mid hgd ty x ho g j hx us d (fun k u hk=>?_) hu hd hsz h;refine H.cell hi ?_;rw [←hn,Qbb,Qbc] at hk;split at hk
 ·exact hk
 ·cases hk
theorem y4p (hgd:o.guard=none) (s x:Operand) (t:TypeId) (ho:o.op= .call {callee:=.builtin .append,args:= #[s,x],argTypes:= #[t,t]})
  (e:TypeId) (ti:TypeInfo) (z:Value) (size bytes:Nat) (ht:P.underlying t=some (.slice e)) (hti:P.info? e=some ti) (hz:ti.zero=some z) (hsize:ti.size=size) (hby:ti.bytes=bytes) (hzs:z.cells.size=size) (hsz:0<size)
  (H:Hp w0 w K M) (i:Nat) (v:Value) (n:Nat) (vs:List Value) (hi:M[i]?=some (.row e size v n vs)) (hs:a.eval s=v) (A:Option Addr) (m c:Nat) (us:List Value) (hx:a.eval x= .slice A m c) (hl:us.length=m*size) (hr:Rd w w.heap.size A us) (h1: ∀u∈us,u.oneCell'=true)
  (h63:n+m≤maxLen) (hbytes:(n+m)*bytes≤140737488355328)
  (h: ∀v' w',Hp w0 w' K (M.set i (.row e size v' (n+m) (vs++us)))→wpList P ops Q rest (a.put o.dst v') w'):wpList P ops Q (o::rest) a w:=by
 have hown:w.ownsRow 0 e size v n vs:=H.ok _ (Qaf hi);refine y0b w hgd s x t ho 0 e ti z size bytes ht hti hz hsize hby hzs hsz v n vs hs hown w.heap.size A m c us hx hl hr h1 h63 hbytes (Qak _) ?_;intro v' w' h2 h3 h4;exact h v' w' (H.setAt hi h3 h2 (h4.imp id fun h=>⟨_,h,Qab _⟩))
theorem x6e (hgd:o.guard=none) (s x:Operand) (t:TypeId) (ho:o.op= .call {callee:=.builtin .append,args:= #[s,x],argTypes:= #[t,t]})
  (e:TypeId) (ti:TypeInfo) (z:Value) (size bytes:Nat) (ht:P.underlying t=some (.slice e)) (hti:P.info? e=some ti) (hz:ti.zero=some z) (hsize:ti.size=size) (hby:ti.bytes=bytes) (hzs:z.cells.size=size) (hsz:0<size)
  (H:Hp w0 w K M) (i:Nat) (v:Value) (n:Nat) (vs:List Value) (hi:M[i]?=some (.row e size v n vs)) (hs:a.eval s=v) (us:List Value) (hx:a.eval x= .slice (some ⟨w.heap.size,0,none⟩) 1 1) (hl:us.length=size) (h1: ∀u∈us,u.oneCell'=true)
  (h63:n+1≤maxLen) (hbytes:(n+1)*bytes≤140737488355328)
  (h: ∀v' w',Hp w0 w' K (M.set i (.row e size v' (n+1) (vs++us)))→wpList P ops Q rest (a.put o.dst v') w'):wpList P ops Q (o::rest) a (w.alloc (.cells us.toArray e)):=by
 have H1:=H.alloc us e;refine y4p hgd s x t ho e ti z size bytes ht hti hz hsize hby hzs hsz H1 (i+1) v n vs (by simpa using hi) hs _ 1 1 us hx (by rw [Nat.one_mul];exact hl) (y3f w us e (by simp)) h1 h63 hbytes ?_;intro v' w' H2;exact h v' w' (by simpa using H2.tail)
theorem Hp.sub {M':List Ent} (H:Hp w0 w K M) (h:M'.Sublist M):Hp w0 w K M':=⟨H.bel,H.sat,fun x hx=>H.ok x (h.mem hx),fun x hx=>H.fr x (h.mem hx),H.nd.sublist h⟩
theorem Hp.slice (H:Hp w0 w K M) {e:TypeId} {m n:Nat} {v:Value} {vs:List Value} (hi:M[i]?=some (.row e m v n vs)): ∃A c,v= .slice A n c∧n≤c∧c≤maxLen:=y0e (show w.ownsRow 0 e m v n vs from H.ok _ (Qaf hi))
theorem At.sat {p:Addr} {cs:List Value} (h:At K p cs) (hs:Sat w K):At w p cs:=⟨fun u hu=>hs.cell (h.1 u hu),fun j u hu=>hs.cell (h.2 j u hu)⟩
theorem y65 {α:Type} {f:α→List Leaf} {m n c k:Nat} {A:Option Addr} {l:List α} {x:α} (hf: ∀x,(f x).length=m) (H:Hp w0 w K M) (h:RD K (.list n (l.flatMap f)) (.slice A n c)) (hk:l[k]?=some x) (hm:0<m):
  ∃ad vs,A=some ad∧RL K (f x) vs∧vs.length=m∧At w (ad.add (k*m)) vs:=by
 obtain ⟨ad,vs,h1,h2,h3,_,h5,h6⟩:=y74 hf h hk hm;exact ⟨ad,vs,h1,h2,h3,At.sat ⟨h5,h6⟩ H.sat⟩
theorem Hp.drew1 (H:Hp w0 w K M):Hp w0 w.drew K M:=H.below ⟨rfl,rfl,rfl,Qab _,fun _ _=>rfl⟩
theorem q4t {id:Nat} {l:List Oper} (n:Nat) (hm:P.follows .mixedOrders=true) (hB:Region.lexTailB .any l.toArray n=true) (H:Hp w0 w K M)
  (h: ∀w',Hp w0 w' K M→wpStill P l.toArray w' (fun a'=>wpList P l.toArray Q (l.drop n) a' w') (l.take n) a):(Code.region id l.toArray true).wp P Q a w:=
 wp_region_still_tail n hm hB (h _ H.drew1)
theorem z5f {E:Prop} {Kc:Act→World→Prop} (hgd:o.guard=none) (s x:Operand) (t:TypeId) (ho:o.op= .call {callee:=.builtin .append,args:= #[s,x],argTypes:= #[t,t]})
  (e:TypeId) (ti:TypeInfo) (z:Value) (size bytes:Nat) (ht:P.underlying t=some (.slice e)) (hti:P.info? e=some ti) (hz:ti.zero=some z) (hsize:ti.size=size) (hby:ti.bytes=bytes) (hzs:z.cells.size=size) (hsz:0<size)
  (H:Hp w0 w K M) (i:Nat) (v:Value) (n:Nat) (vs:List Value) (hi:M[i]?=some (.row e size v n vs)) (hs:a.eval s=v) (j g:Nat) (us:List Value) (hj:M[j]?=some (.box g us e)) (hx:a.eval x= .slice (some ⟨g,0,none⟩) 1 1) (hl:us.length=size) (h1: ∀u∈us,u.oneCell'=true)
  (h63:n+1≤maxLen) (hbytes:(n+1)*bytes≤140737488355328)
  (h: ∀v' w',Hp w0 w' K (M.set i (.row e size v' (n+1) (vs++us)))→Kc (a.put o.dst v') w'):if Region.wanted o (yielded ops a.tmps)=true then Oper.wp P o a w Kc Q else E:=by
 have hown:w.ownsRow 0 e size v n vs:=H.ok _ (Qaf hi);refine step_append_lies w hgd s x t ho 0 e ti z size bytes ht hti hz hsize hby hzs hsz v n vs hs hown ⟨g,0,none⟩ 1 1 us hx (by rw [Nat.one_mul];exact hl) (World.news_of_block (cs:=us.toArray) (H.blkAt hj)) h1 (by omega) h63 hbytes (Qak _) w.heap.size rfl ?_;intro g' cap w' h2 h3 h4 h5;exact h _ w' (H.setAt hi h3 h2 (h4.elim (fun e=>.inl e.symm) (fun e=>.inr ⟨g',rfl,Nat.le_of_eq e.symm⟩)))
theorem Hp.rot (A B:List Ent) (H:Hp w0 w K (A++(B++M))):Hp w0 w K (B++(A++M)):=H.perm (by rw [←Qat,←Qat];exact (List.perm_append_comm).append_right M)
theorem y2w (hgd:o.guard=none) (t e:TypeId) (len:Nat) (parts:Array (Nat×Operand)) (ho:o.op= .buildSlice t len parts) (dst:Option Tmp) (hdst:o.dst=dst) (hu:P.underlying t=some (.slice e)) (cs:List Value)
  (hf:P.builtSlice e len (parts.map fun (i,x)=>(i,a.eval x)).toList=some cs.toArray) (H:Hp w0 w K M)
  (h: ∀w' g,Hp w0 w' K (.box g cs e::M)→wpList P ops Q rest (a.put dst (.slice (some ⟨g,0,none⟩) len len)) w'):wpList P ops Q (o::rest) a w:=
 Go.Great.wpList_buildSliceTo hgd t e len parts ho w.heap.size rfl dst hdst hu cs.toArray hf (h _ _ (H.alloc cs e))
theorem Hp.rd (H:Hp w0 w K M) {g:Nat} {cs:List Value} {t:TypeId} (hi:M[i]?=some (.box g cs t)):Rd w w.heap.size (some ⟨g,0,none⟩) cs:=fun hn=>by
 have hb:=H.blkAt hi;refine ⟨_,rfl,H.lt hi rfl,fun j u hu=>?_⟩
 have hadd:(⟨g,0,none⟩:Addr).add j=⟨g,j,none⟩:=by unfold Addr.add;split<;>simp_all
 rw [hadd];exact H.cell hi hu
theorem Hp.freezeBox {g n:Nat} {cs:List Value} {t:TypeId} {ls:List Leaf} (H:Hp w0 w K (.box g cs t::M)) (hl:RL K ls cs) (hn:n≤maxLen): ∃K',Sat K' K∧Hp w0 w K' M∧RD K' (.list n ls) (.slice (some ⟨g,0,none⟩) n n):=by
 obtain ⟨K',h1,h2,h3,h4⟩:=H.freeze;refine ⟨K',h1,h2,?_⟩;have hb:K'.heap[g]?=some (.cells cs.toArray t (0,0)):=(h3 g rfl).trans (H.blkAt (i:=0) rfl);have hlt:=(Qan.1 hb).1;refine ⟨y19 (Qab _) hn (hl.sat h1).reads (fun hne=>⟨_,rfl,⟨Qak _,hlt⟩,fun j u hu=>?_⟩),Qab _⟩
 have hadd:(⟨g,0,none⟩:Addr).add j=⟨g,j,none⟩:=by unfold Addr.add;split<;>simp_all
 rw [hadd,cell_of_row K' g j _ _ _ hb];simpa using hu
theorem step2 {md:Region.Mode} {S:World→Prop} {F:List Nat} {i j:Nat} {oi oj:Oper} {fuel:Nat} {listed:Array Bool} (hr:Region.ready md ops listed=[i,j]) (ho:ops[i]?=some oi) (hj:ops[j]?=some oj)
  (h: ∀K':Act→World→Prop,Shut (∀a w,(i∉F→S w)→((i∉F→S w)→AnyL P md ops Q S F fuel (listed.setIfInBounds i true) a w)→K' a w)→if Region.wanted oi (yielded ops a.tmps)=true then Oper.wp P oi a w K' Q else K' (a.put oi.dst undef) w)
  (h': ∀K':Act→World→Prop,Shut (∀a w,(j∉F→S w)→((j∉F→S w)→AnyL P md ops Q S F fuel (listed.setIfInBounds j true) a w)→K' a w)→if Region.wanted oj (yielded ops a.tmps)=true then Oper.wp P oj a w K' Q else K' (a.put oj.dst undef) w):
  AnyL P md ops Q S F (fuel+1) listed a w:=
 ⟨fun h0=>(by rw [hr] at h0;cases h0),fun k hk=>by
   rw [hr] at hk;rcases Qbd.1 hk with rfl|hk
   ·exact wpOp_step ho (fun K' hK=>h K' (fun a w hS hW=>hK a w ⟨hS,hW hS⟩))
   ·obtain rfl:=Qax.1 hk
    exact wpOp_step hj (fun K' hK=>h' K' (fun a w hS hW=>hK a w ⟨hS,hW hS⟩))⟩
theorem y3h {E:Prop} {Kc:Act→World→Prop} (hgd:o.guard=none) (ty:TypeId) (x:Operand) (ho:o.op= .load ty x) (g j:Nat) (hx:a.eval x= .pointer (some ⟨g,j,none⟩)) (us:List Value) (d:TypeDesc) (hu:P.underlying ty=some d) (hd:d.isRow=true) (hsz:(P.info? ty).map (·.size)=some us.length)
  (H:Hp w0 w K M) (i:Nat) (cs:List Value) (t:TypeId) (hi:M[i]?=some (.box g cs t)) (hn:(cs.drop j).take us.length=us) (h:Kc (a.put o.dst (.agg us.toArray)) w):if Region.wanted o (yielded ops a.tmps)=true then Oper.wp P o a w Kc Q else E:=by
 have hw:Region.wanted o (yielded ops a.tmps)=true:=by simp [Region.wanted,hgd]
 rw [if_pos hw];unfold Oper.wp execOp
 have hc:w.rangeAt g j us:=fun k u hk=>by
  refine H.cell hi ?_;rw [←hn,Qbb,Qbc] at hk;split at hk
  ·exact hk
  ·cases hk
 simp only [ho,hx,Instr.loadAt,Instr.sureAddr,Sem.run_bind,Sem.run_pure,Result.andThen_ok,run_loadVar_mid w g j ty us d hc hu hd hsz];exact h
theorem y1d {E:Prop} {Kc:Act→World→Prop} (hgd:o.guard=none) (t e:TypeId) (len:Nat) (parts:Array (Nat×Operand)) (ho:o.op= .buildSlice t len parts) (hu:P.underlying t=some (.slice e)) (pv:List (Nat×Value)) (hpv:(parts.map fun (i,x)=>(i,a.eval x)).toList=pv) (cs:List Value)
  (hf:P.builtSlice e len pv=some cs.toArray) (H:Hp w0 w K M)
  (h: ∀w' g,Hp w0 w' K (.box g cs e::M)→Kc (a.put o.dst (.slice (some ⟨g,0,none⟩) len len)) w'):if Region.wanted o (yielded ops a.tmps)=true then Oper.wp P o a w Kc Q else E:=by
 have hw:Region.wanted o (yielded ops a.tmps)=true:=by simp [Region.wanted,hgd]
 rw [if_pos hw];unfold Program.builtSlice at hf
 cases hie:P.info? e with
 |none=>simp [hie] at hf
 |some ie=>
  simp only [hie] at hf
  cases hz:ie.zero with
  |none=>simp [hz] at hf
  |some z=>
   simp only [hz] at hf;by_cases hc:len*ie.size>2 ^ 24∨len*ie.size=0
   ·simp [hc] at hf
   ·rw [if_neg hc] at hf;exact wp_buildSlice t e len parts ho cs.toArray ie z hu hie hz (fun h'=>hc (Or.inl h')) (fun h'=>hc (Or.inr h')) (by rw [hpv];exact hf) (h _ _ (H.alloc cs e))
def Post (w0 K:World) (M:List Ent) (R:World→Value→Prop) (e:Ending) (w':World):Prop:=∃K' v,e= .returned v∧Sat K' K∧Hp w0 w' K' M∧R K' v
def y03 (l:List Txt):List Leaf:=l.map str'
theorem z3v:(Tryz.prog.info? 9).map (fun i=>(i.zero,i.size,i.bytes))=some (some (.string ⟨#[]⟩),1,16):=by kernel_rfl
end
section
variable {w0 w w' K K' : World} {M E : List Ent}
theorem x9r (H:Hp w0 w K M) {m c:Nat} {A:Option Addr} {ls:List Leaf} (h:RD K (.list m ls) (.slice A m c)): ∃us,RL K ls us∧Rd w w.heap.size A us∧us.length=ls.length∧ ∀u∈us,u.oneCell'=true:=by
 obtain ⟨A',c',us,he,_,_,hr,hs⟩:=y0k h.reads;injection he with e1 e2 e3;subst e1 e3;refine ⟨us,⟨hr,Qab _⟩,fun hn=>?_,hr.len,hr.one⟩;obtain ⟨ad,e,hb,hc⟩:=hs hn;exact ⟨ad,e,Qap hb.2 H.sat.size,fun j u hu=>H.sat.cell (hc j u hu)⟩
end
structure DV where
 (v8 v11 v6 v10 v14 v12 v9 v7:Value)
 (x8 x11 x6 x10 x14 x12 x9 x7:List Value)
abbrev DV.cells (d:DefD) (V:DV):List Value:=[.int .i64 d.kind,.bool d.ext,.bool d.note.has,.bool d.note.block,.string (str d.note.text),.string (str d.name),V.v6,V.v7,V.v8,V.v9,V.v10,V.v11,V.v12,.bool d.rep,V.v14,.int .i64 d.line,.int .i64 d.col]
abbrev DV.rows (d:DefD) (V:DV):List Ent:=[.row 52 10 V.v8 d.fields.length V.x8,.row 133 7 V.v11 d.values.length V.x11,.row 113 3 V.v6 d.ifaces.length V.x6,.row 113 3 V.v10 d.members.length V.x10,.row 113 3 V.v14 d.places.length V.x14,.row 100 4 V.v12 d.roots.length V.x12,.row 123 17 V.v9 d.inputs.length V.x9,.row 181 4 V.v7 d.dirs.length V.x7]
structure DV.ok (K:World) (d:DefD) (V:DV):Prop where
 r8:RL K (y0u d.fields) V.x8
 r11:RL K (y12 d.values) V.x11
 r6:RL K (y0v d.ifaces) V.x6
 r10:RL K (y0v d.members) V.x10
 r14:RL K (y0v d.places) V.x14
 r12:RL K (y30 d.roots) V.x12
 r9:RL K (y0o d.inputs) V.x9
 r7:RL K (y24 d.dirs) V.x7
section
variable {w0 w w' K K' : World} {M E : List Ent}
theorem DV.ok.sat {d:DefD} {V:DV} (h:V.ok K d) (hs:Sat K' K):V.ok K' d:=⟨h.r8.sat hs,h.r11.sat hs,h.r6.sat hs,h.r10.sat hs,h.r14.sat hs,h.r12.sat hs,h.r9.sat hs,h.r7.sat hs⟩
theorem x3x {d:DefD} {V:DV} (H:Hp w0 w K (DV.rows d V++M)): ∀u∈DV.cells d V,u.oneCell'=true:=by
 obtain ⟨_,_,h8,_,_⟩:=H.slice (i:=0) rfl;obtain ⟨_,_,h11,_,_⟩:=H.slice (i:=1) rfl;obtain ⟨_,_,h6,_,_⟩:=H.slice (i:=2) rfl;obtain ⟨_,_,h10,_,_⟩:=H.slice (i:=3) rfl;obtain ⟨_,_,h14,_,_⟩:=H.slice (i:=4) rfl;obtain ⟨_,_,h12,_,_⟩:=H.slice (i:=5) rfl;obtain ⟨_,_,h9,_,_⟩:=H.slice (i:=6) rfl;obtain ⟨_,_,h7,_,_⟩:=H.slice (i:=7) rfl;simp [DV.cells,h8,h11,h6,h10,h14,h12,h9,h7,Value.oneCell']
end
def over:List Value→List Value→List Value
 |[],cs=>cs
 |_::_,[]=>[]
 |u::us,_::cs=>u::over us cs
def put:List Value→Nat→List Value→List Value
 |cs,0,us=>over us cs
 |[],_+1,_=>[]
 |c::cs,j+1,us=>c::put cs j us
def setB:List Ent→Nat→Nat→List Value→List Ent
 |[],_,_,_=>[]
 | .box g cs t::M,0,j,us=>.box g (put cs j us) t::M
 |e::M,0,_,_=>e::M
 |e::M,i+1,j,us=>e::setB M i j us
theorem x9s: ∀(us cs:List Value),us.length≤cs.length→over us cs=us++cs.drop us.length
 |[],cs,_=>by simp [over]
 |_::_,[],h=>by simp at h
 |u::us,c::cs,h=>by rw [over,x9s us cs (by simpa using h)];simp
theorem x3y: ∀(cs:List Value) (j:Nat) (us:List Value),j+us.length≤cs.length→cs.take j++us++cs.drop (j+us.length)=put cs j us
 |cs,0,us,h=>by rw [put.eq_def];simp only;rw [x9s us cs (by omega)];simp
 |[],j+1,us,h=>by simp at h
 |c::cs,j+1,us,h=>by
  rw [put,←x3y cs j us (by simp only [List.length_cons] at h;omega)]
  have e:j+1+us.length=(j+us.length)+1:=by omega
  rw [e];simp
theorem x1s: ∀{M:List Ent} {i:Nat} {g:Nat} {cs:List Value} {t:TypeId} (j:Nat) (us:List Value),M[i]?=some (.box g cs t)→M.set i (.box g (put cs j us) t)=setB M i j us
 |[],i,g,cs,t,j,us,h=>by simp at h
 |e::M,0,g,cs,t,j,us,h=>by
  simp only [List.getElem?_cons_zero,Option.some.injEq] at h;subst h;rfl
 |e::M,i+1,g,cs,t,j,us,h=>by
  simp only [List.getElem?_cons_succ] at h;rw [List.set_cons_succ,x1s j us h]
  cases e<;>rfl
section
variable {P : Program} {w0 w K : World} {M : List Ent} {ops : Array Oper} {rest : List Oper} {o : Oper} {a : Act} {Q : Exit → Act → World → Prop}
theorem isL (h:wpList P ops Q (o::rest) a w):wpList P ops Q (o::rest) a w:=h
theorem _root_.Go.Proofs.YtbpgkkoeehopjaaGreat.hp.Hp.c (H:Hp w0 w K M) (i j:Nat) {g:Nat} {cs:List Value} {t:TypeId} {v:Value} (hi:M[i]?=some (.box g cs t):=by rfl) (hj:cs[j]?=some v:=by rfl):w.cell? ⟨g,j,none⟩=some v:=H.cell hi hj
theorem s1 (x i:Nat) (u:Value) (H:Hp w0 w K M) {ty:TypeId} {y:Operand} {g j:Nat} {cs:List Value} {t:TypeId} {M':List Ent} (h: ∀w',Hp w0 w' K M'→wpList P ops Q rest (a.put o.dst undef) w')
  (ho:o.op= .store ty (.tmp x) y:=by rfl) (hx:a.eval (.tmp x)= .pointer (some ⟨g,j,none⟩):=by rfl) (hi:M[i]?=some (.box g cs t):=by rfl) (hy:a.eval y=u:=by first|rfl|simp [Act.eval,Act.put])
  (hM:setB M i j [u]=M':=by (dsimp only [setB,put,over];try rfl)) (hv:u.cells= #[u]:=by rfl) (hone:u.oneCell'=true:=by first|rfl|assumption) (hj:j+1≤cs.length:=by exact Qbn rfl) (hsz:(P.info? ty).map (·.size)=some 1:=by kernel_rfl) (hgd:o.guard=none:=by rfl):wpList P ops Q (o::rest) a w:=
 z69 hgd ty _ y ho g j hx u hy [u] hv (fun z hz=>by rw [Qax.1 hz];exact hone) hsz H i cs (put cs j [u]) t hi hj (x3y cs j [u] hj) fun w' H'=>h w' (by rw [←hM,←x1s j [u] hi];exact H')
theorem sA (x i:Nat) (H:Hp w0 w K M) {us:List Value} {ty:TypeId} {y:Operand} {g j:Nat} {cs:List Value} {t:TypeId} {M':List Ent} (h: ∀w',Hp w0 w' K M'→wpList P ops Q rest (a.put o.dst undef) w')
  (ho:o.op= .store ty (.tmp x) y:=by rfl) (hx:a.eval (.tmp x)= .pointer (some ⟨g,j,none⟩):=by rfl) (hi:M[i]?=some (.box g cs t):=by rfl) (hy:a.eval y= .agg us.toArray:=by rfl)
  (hM:setB M i j us=M':=by (dsimp only [setB,put,over];try rfl)) (hone: ∀u∈us,u.oneCell'=true:=by first|(simp [Value.oneCell'];done)|assumption) (hj:j+us.length≤cs.length:=by exact Qbn rfl) (hsz:(P.info? ty).map (·.size)=some us.length:=by kernel_rfl) (hgd:o.guard=none:=by rfl):wpList P ops Q (o::rest) a w:=
 z69 hgd ty _ y ho g j hx _ hy us rfl hone hsz H i cs (put cs j us) t hi hj (x3y cs j us hj) fun w' H'=>h w' (by rw [←hM,←x1s j us hi];exact H')
theorem al {ty:TypeId} {cs:List Value} (hz:((P.info? ty).bind (·.zero)).map (·.cells)=some cs.toArray) (dst:Tmp) (H:Hp w0 w K M) (h: ∀w' g,Hp w0 w' K (.box g cs ty::M)→wpList P ops Q rest (a.put (some dst) (.pointer (some ⟨g,0,none⟩))) w')
  (hdst:o.dst=some dst:=by rfl) (ho:o.op= .alloc ty:=by rfl) (hgd:o.guard=none:=by rfl):wpList P ops Q (o::rest) a w:=
 x3w hgd ty ho cs hz (some dst) hdst H fun w' g H' _=>h w' g H'
theorem ld (x i n:Nat) {ty:TypeId} {d:TypeDesc} (hu:P.underlying ty=some d) (H:Hp w0 w K M) {us:List Value} {g j:Nat} {cs:List Value} {t:TypeId} (h:wpList P ops Q rest (a.put o.dst (.agg us.toArray)) w)
  (ho:o.op= .load ty (.tmp x):=by rfl) (hx:a.eval (.tmp x)= .pointer (some ⟨g,j,none⟩):=by rfl) (hi:M[i]?=some (.box g cs t):=by rfl) (hn:(cs.drop j).take n=us:=by (simp only [List.drop_succ_cons,List.take_succ_cons,List.drop_zero,List.take_zero,List.take_nil];try rfl)) (hl:us.length=n:=by rfl) (hsz:(P.info? ty).map (·.size)=some n:=by kernel_rfl) (hd:d.isRow=true:=by rfl) (hgd:o.guard=none:=by rfl):wpList P ops Q (o::rest) a w:=
 q8f hgd ty _ ho g j hx us d hu hd (hl▸hsz) H i cs t hi (by rw [hl];exact hn) h
def SlI (P:Program) (t e:TypeId) (size bytes:Nat):Prop:=∃ti z,P.underlying t=some (.slice e)∧P.info? e=some ti∧ti.zero=some z∧ti.size=size∧ti.bytes=bytes∧z.cells.size=size∧0<size∧0<bytes
theorem sli {t e:TypeId} {size bytes:Nat} {z:Value} (hu:P.underlying t=some (.slice e)) (h:(P.info? e).map (fun i=>(i.zero,i.size,i.bytes))=some (some z,size,bytes)) (hz:z.cells.size=size:=by rfl) (h0:0<size:=by decide) (hb:0<bytes:=by decide):SlI P t e size bytes:=by
 cases hi:P.info? e with
 |none=>rw [hi] at h;cases h
 |some ti=>
  rw [hi] at h;simp only [Option.map_some,Option.some.injEq,Prod.mk.injEq] at h;exact ⟨ti,z,hu,hi,h.1,h.2.1,h.2.2,hz,h0,hb⟩
theorem ap (i:Nat) {t e:TypeId} {size bytes:Nat} (he:SlI P t e size bytes) {m c:Nat} {A:Option Addr} {ls:List Leaf} (hd:RD K (.list m ls) (.slice A m c)) (hlen:ls.length=m*size) (H:Hp w0 w K M) {s x:Operand} {v:Value} {n:Nat} {vs:List Value}
  (h: ∀us A' c' w',RL K ls us→us.length=ls.length→n+m≤c'→c'≤maxLen→Hp w0 w' K (M.set i (.row e size (.slice A' (n+m) c') (n+m) (vs++us)))→wpList P ops Q rest (a.put o.dst (.slice A' (n+m) c')) w')
  (ho:o.op= .call {callee:=.builtin .append,args:= #[s,x],argTypes:= #[t,t]}:=by rfl) (hi:M[i]?=some (.row e size v n vs):=by rfl) (hs:a.eval s=v:=by first|rfl|simp [Act.eval,Act.put]) (hx:a.eval x= .slice A m c:=by first|rfl|simp [Act.eval,Act.put])
  (hb:(n+m)*bytes≤140737488355328:=by omega) (hgd:o.guard=none:=by rfl):wpList P ops Q (o::rest) a w:=by
 obtain ⟨ti,z,hu,hti,hz,hsz,hby,hzs,h0,hb0⟩:=he;obtain ⟨us,hus,hr,hl,ho1⟩:=x9r H hd;have hmul:(n+m)*1≤(n+m)*bytes:=Qb2 _ hb0;refine y4p hgd s x t ho e ti z size bytes hu hti hz hsz hby hzs h0 H i v n vs hi hs A m c us hx (hl.trans hlen) hr ho1 (by simp only [maxLen];omega) hb fun v' w' H'=>?_;have hlt:i<M.length:=(Qac.1 hi).1;obtain ⟨A',c',rfl,h1,h2⟩:=H'.slice (i:=i) (Qbv hlt);exact h us A' c' w' hus hl h1 h2 H'
theorem ap1 (i:Nat) {t e:TypeId} {size bytes:Nat} (he:SlI P t e size bytes) (H:Hp w0 w K M) {s x:Operand} {us:List Value} {v:Value} {n:Nat} {vs:List Value}
  (h: ∀A' c' w',n+1≤c'→c'≤maxLen→Hp w0 w' K (M.set i (.row e size (.slice A' (n+1) c') (n+1) (vs++us)))→wpList P ops Q rest (a.put o.dst (.slice A' (n+1) c')) w')
  (ho:o.op= .call {callee:=.builtin .append,args:= #[s,x],argTypes:= #[t,t]}:=by rfl) (hi:M[i]?=some (.row e size v n vs):=by rfl) (hs:a.eval s=v:=by first|rfl|simp [Act.eval,Act.put]) (hx:a.eval x= .slice (some ⟨w.heap.size,0,none⟩) 1 1:=by first|rfl|simp [Act.eval,Act.put])
  (hl:us.length=size:=by rfl) (h1: ∀u∈us,u.oneCell'=true:=by first|(simp [Value.oneCell'];done)|assumption) (hb:(n+1)*bytes≤140737488355328:=by omega) (hgd:o.guard=none:=by rfl):wpList P ops Q (o::rest) a (w.alloc (.cells us.toArray e)):=by
 obtain ⟨ti,z,hu,hti,hz,hsz,hby,hzs,h0,hb0⟩:=he;have hmul:(n+1)*1≤(n+1)*bytes:=Qb2 _ hb0;refine x6e hgd s x t ho e ti z size bytes hu hti hz hsz hby hzs h0 H i v n vs hi hs us hx hl h1 (by simp only [maxLen];omega) hb fun v' w' H'=>?_;have hlt:i<M.length:=(Qac.1 hi).1;obtain ⟨A',c',rfl,h1,h2⟩:=H'.slice (i:=i) (Qbv hlt);exact h A' c' w' h1 h2 H'
end
class Zr (P:Program) (ty:TypeId) (cs:outParam (List Value)):Prop where
 h:((P.info? ty).bind (·.zero)).map (·.cells)=some cs.toArray
class Rw (P:Program) (ty:TypeId) (n:outParam Nat):Prop where
 u: ∃d,P.underlying ty=some d∧d.isRow=true
 s:(P.info? ty).map (·.size)=some n
class Sc (P:Program) (ty:TypeId):Prop where
 u: ∃d,P.underlying ty=some d∧d.isRow=false
class Sli (P:Program) (t:TypeId) (e size bytes:outParam Nat):Prop where
 h:SlI P t e size bytes
def GetE (M:List Ent) (g:Nat) (cs:List Value):Prop:=∃(i:Nat) (t:TypeId),M[i]?=some (.box g cs t)
def SetE (M:List Ent) (g j:Nat) (us:List Value) (M':List Ent):Prop:=∃i cs t,M[i]?=some (.box g cs t)∧j+us.length≤cs.length∧M'=M.set i (.box g (put cs j us) t)
section
variable {M M' : List Ent} {e : Ent} {g j n n' : Nat} {cs cs' us vs vs' : List Value} {t : TypeId} {u v : Value}
theorem g0:GetE (.box g cs t::M) g cs:=⟨0,t,rfl⟩
theorem gS (h:GetE M g cs):GetE (e::M) g cs:=by obtain ⟨i,t,h⟩:=h;exact ⟨i+1,t,by simpa using h⟩
theorem s0 (hp:put cs j us=cs':=by (dsimp only [put,over];try rfl)) (hl:j+us.length≤cs.length:=by exact Qbn rfl):SetE (.box g cs t::M) g j us (.box g cs' t::M):=⟨0,cs,t,rfl,hl,by rw [hp];rfl⟩
theorem sS (h:SetE M g j us M'):SetE (e::M) g j us (e::M'):=by obtain ⟨i,cs,t,h,h2,h3⟩:=h;exact ⟨i+1,cs,t,by simpa using h,h2,by rw [h3];rfl⟩
theorem i0:(e::M)[0]?=some e:=rfl
theorem iS {e':Ent} {i:Nat} (h:M[i]?=some e'):(e::M)[i+1]?=some e':=by simpa using h
end
def Up (M:List Ent) (e:Ent) (M':List Ent):Prop:=M.Perm (e::M')
section
variable {w0 w K : World} {M M' : List Ent} {e x : Ent}
theorem u0:Up (e::M) e M:=List.Perm.refl _
theorem uS (h:Up M e M'):Up (x::M) e (x::M'):=(List.Perm.cons x h).trans (List.Perm.swap ..)
theorem Hp.up (H:Hp w0 w K M) (h:Up M e M':=by ((repeat (first|exact u0|apply uS))<;>fail)):Hp w0 w K (e::M'):=H.perm h
def Inc (M' M:List Ent):Prop:=∃N,M.Perm (N++M')
theorem n0:Inc M M:=⟨[],List.Perm.refl _⟩
theorem nN:Inc [] M:=⟨M,by rw [List.append_nil]⟩
theorem nS {N:List Ent} (h:Up M e N) (h2:Inc M' N):Inc (e::M') M:=by
 obtain ⟨L,h2⟩:=h2;exact ⟨L,h.trans ((List.Perm.cons e h2).trans List.perm_middle.symm)⟩
theorem nD (h:Inc M' M):Inc M' (x::M):=by
 obtain ⟨L,h⟩:=h;exact ⟨x::L,List.Perm.cons x h⟩
theorem Hp.fin (H:Hp w0 w K M) (h:Inc M' M:=by first|((repeat (first|exact n0|exact nN|apply nD))<;>fail)|((repeat (first|exact n0|exact nN|refine nS (by ((repeat (first|exact u0|apply uS))<;>fail)) ?_|apply nD))<;>fail)|fail):Hp w0 w K M':=by
 obtain ⟨L,h⟩:=h;exact (H.perm h).sub (List.sublist_append_right _ _)
end
section
variable {P : Program} {w0 w K : World} {M M' : List Ent} {ops : Array Oper} {rest : List Oper} {o : Oper} {a : Act} {Q : Exit → Act → World → Prop}
theorem y5r {ty:TypeId} {d:TypeDesc} {v:Value} {p:Addr} (hu:P.underlying ty=some d) (hd:d.isRow=false) (hc:w.cell? p=some v):(loadVar ty p).run P w= .ok v w:=by
 have hagg:(isAgg ty).run P w= .ok false w:=by
  unfold isAgg;rw [Sem.run_bind,run_underlying hu w]
  cases d<;>simp_all
 simp [loadVar,Sem.run_bind,hagg,hc]
def z1g (P:Program) (o:Oper) (a:Act) (K:World) (M:List Ent) (v:Value):Prop:=∀w0 w,Hp w0 w K M→(execOp a.eval o).run P w= .ok (.value v) w
theorem dl1 {ty:TypeId} {x:Operand} {g j:Nat} {cs:List Value} {v:Value} (ho:o.op= .load ty x:=by rfl) (hx:a.eval x= .pointer (some ⟨g,j,none⟩):=by rfl) (hs:Sc P ty:=by infer_instance)
  (hg:GetE M g cs:=by ((repeat (first|exact g0|apply gS))<;>fail)) (hj:cs[j]?=some v:=by rfl):z1g P o a K M v:=fun w0 w H=>by
 obtain ⟨d,hu,hd⟩:=hs.u;obtain ⟨i,t,hi⟩:=hg;unfold execOp;simp only [ho,hx,Instr.loadAt,Instr.sureAddr,Sem.run_bind,Sem.run_pure,Result.andThen_ok,y5r hu hd (H.cell hi hj)]
theorem dlR {ty:TypeId} {x:Operand} {n g j:Nat} {us:List Value} (ho:o.op= .load ty x) (hx:a.eval x= .pointer (some ⟨g,j,none⟩)) (hs:Rw P ty n) (hl:us.length=n) (hc: ∀w0 w,Hp w0 w K M→w.rangeAt g j us):z1g P o a K M (.agg us.toArray):=fun w0 w H=>by
 obtain ⟨d,hu,hd⟩:=hs.u;have hsz:=hs.s;rw [←hl] at hsz;unfold execOp;simp only [ho,hx,Instr.loadAt,Instr.sureAddr,Sem.run_bind,Sem.run_pure,Result.andThen_ok,run_loadVar_mid w g j ty us d (hc w0 w H) hu hd hsz]
theorem dlA {ty:TypeId} {x:Operand} {n g j:Nat} {cs us:List Value} (ho:o.op= .load ty x:=by rfl) (hx:a.eval x= .pointer (some ⟨g,j,none⟩):=by rfl) (hs:Rw P ty n:=by infer_instance)
  (hg:GetE M g cs:=by ((repeat (first|exact g0|apply gS))<;>fail)) (hn:(cs.drop j).take n=us:=by (simp only [List.drop_succ_cons,List.take_succ_cons,List.drop_zero,List.take_zero,List.take_nil];try rfl)) (hl:us.length=n:=by rfl):z1g P o a K M (.agg us.toArray):=
 dlR ho hx hs hl fun w0 w H k u hk=>by
  obtain ⟨i,t,hi⟩:=hg;refine H.cell hi ?_;rw [←hn,Qbb,Qbc] at hk;split at hk
  ·exact hk
  ·cases hk
theorem dk1 {ty t:TypeId} {x:Operand} {g j:Nat} {cs:List Value} {v:Value} (ho:o.op= .load ty x:=by rfl) (hx:a.eval x= .pointer (some ⟨g,j,none⟩):=by rfl) (hs:Sc P ty:=by infer_instance)
  (hg:K.heap[g]?=some (.cells cs.toArray t (0,0)):=by assumption) (hj:cs[j]?=some v:=by rfl):z1g P o a K M v:=fun w0 w H=>by
 obtain ⟨d,hu,hd⟩:=hs.u;unfold execOp;simp only [ho,hx,Instr.loadAt,Instr.sureAddr,Sem.run_bind,Sem.run_pure,Result.andThen_ok,y5r hu hd (H.sat.cell ((cell_of_row K g j _ _ _ hg).trans (by simpa using hj)))]
theorem dkA {ty t:TypeId} {x:Operand} {n g j:Nat} {cs us:List Value} (ho:o.op= .load ty x:=by rfl) (hx:a.eval x= .pointer (some ⟨g,j,none⟩):=by rfl) (hs:Rw P ty n:=by infer_instance)
  (hg:K.heap[g]?=some (.cells cs.toArray t (0,0)):=by assumption) (hn:(cs.drop j).take n=us:=by (simp only [List.drop_succ_cons,List.take_succ_cons,List.drop_zero,List.take_zero,List.take_nil];try rfl)) (hl:us.length=n:=by rfl):z1g P o a K M (.agg us.toArray):=
 dlR ho hx hs hl fun w0 w H k u hk=>by
  refine H.sat.cell ((cell_of_row K g (j+k) _ _ _ hg).trans ?_);rw [←hn,Qbb,Qbc] at hk;split at hk
  ·simpa using hk
  ·cases hk
theorem dat {ty:TypeId} {x:Operand} {n:Nat} {p:Addr} {cs:List Value} (ho:o.op= .load ty x:=by rfl) (hs:Rw P ty n:=by infer_instance) (hx:a.eval x= .pointer (some p):=by first|rfl|(simp [Act.eval,Act.put];done)|fail)
  (hc:At K p cs:=by assumption) (hl:cs.length=n:=by rfl):z1g P o a K M (.agg cs.toArray):=fun w0 w H=>by
 obtain ⟨d,hu,hd⟩:=hs.u;unfold execOp;simp only [ho,hx,Instr.loadAt,Instr.sureAddr,Sem.run_bind,Sem.run_pure,Result.andThen_ok,y4d w p ty cs d (At.sat hc H.sat) hu hd (by rw [hl];exact hs.s)]
theorem dat0 {ty:TypeId} {x:Operand} {p:Addr} {cs:List Value} {v:Value} (ho:o.op= .load ty x:=by rfl) (hs:Sc P ty:=by infer_instance) (hx:a.eval x= .pointer (some p):=by first|exact (rfl:_=Value.pointer _)|(simp [Act.eval,Act.put];done)|fail)
  (hc:At K p cs:=by assumption) (hj:cs[0]?=some v:=by rfl):z1g P o a K M v:=fun w0 w H=>by
 obtain ⟨d,hu,hd⟩:=hs.u;unfold execOp;simp only [ho,hx,Instr.loadAt,Instr.sureAddr,Sem.run_bind,Sem.run_pure,Result.andThen_ok,y5r hu hd ((At.sat hc H.sat).1 v hj)]
theorem datj {ty:TypeId} {x:Operand} {p:Addr} {j:Nat} {cs:List Value} {v:Value} (ho:o.op= .load ty x:=by rfl) (hs:Sc P ty:=by infer_instance) (hx:a.eval x= .pointer (some ⟨p.block,p.off+(j+1),none⟩):=by rfl)
  (hc:At K p cs:=by assumption) (hj:cs[j+1]?=some v:=by rfl):z1g P o a K M v:=fun w0 w H=>by
 obtain ⟨d,hu,hd⟩:=hs.u;unfold execOp;simp only [ho,hx,Instr.loadAt,Instr.sureAddr,Sem.run_bind,Sem.run_pure,Result.andThen_ok,y5r hu hd ((At.sat hc H.sat).2 j v hj)]
def isLoad:Op→Bool
 | .load .. =>true
 |_=>false
def isMem:Op→Bool
 | .store .. | .alloc .. | .box .. | .buildSlice .. =>true
 |_=>false
theorem oL (H:Hp w0 w K M) {v:Value} {a':Act} (h:wpList P ops Q rest a' w) (hm:isLoad o.op=true:=by rfl) (hd:z1g P o a K M v:=by first|exact dl1|exact dlA|exact dk1|exact dkA|exact dat|exact dat0|exact datj|fail) (ha:a.put o.dst v=a':=by (simp only [Act.put,List.setIfInBounds_toArray,List.set_cons_zero,List.set_cons_succ];try rfl)) (hw:Region.wanted o (yielded ops a.tmps)=true:=by rfl):wpList P ops Q (o::rest) a w:=
 BigFrame.wpList_want hw fun _ hK=>by
  unfold Oper.wp;rw [hd w0 w H];exact hK _ _ (ha▸h)
def Does (P:Program) (o:Oper) (a:Act) (w0 w K:World) (M:List Ent) (v:Nat→Value) (N:Nat→List Ent):Prop:=
 ∀(C:Act→World→Prop) (Q:Exit→Act→World→Prop),Hp w0 w K M→(∀w' g,Hp w0 w' K (N g)→C (a.put o.dst (v g)) w')→Oper.wp P o a w C Q
theorem ds {ty:TypeId} {x y:Operand} {g j:Nat} {u:Value} {us:List Value} (hy:a.eval y=u) (hv:u.cells=us.toArray) (hone: ∀u∈us,u.oneCell'=true) (ho:o.op= .store ty x y) (hx:a.eval x= .pointer (some ⟨g,j,none⟩)) (hs:(P.info? ty).map (·.size)=some us.length) (hg:SetE M g j us M'):Does P o a w0 w K M (fun _=>undef) (fun _=>M'):=fun C Q H h=>by
 obtain ⟨i,cs,t,hi,hj,rfl⟩:=hg;exact z68 ty x y ho g j hx u hy us hv hone hs H i cs (put cs j us) t hi hj (x3y cs j us hj) fun w' H'=>h w' 0 H'
theorem ds1 {ty:TypeId} {x y:Operand} {g j:Nat} {u:Value} (ho:o.op= .store ty x y:=by rfl) (hx:a.eval x= .pointer (some ⟨g,j,none⟩):=by rfl) (hs:Sc P ty:=by infer_instance) (hy:a.eval y=u:=by first|exact (rfl:_=Value.int _ _)|exact (rfl:_=Value.string _)|exact (rfl:_=Value.slice _ _ _)|exact (rfl:_=Value.bool _)|exact (rfl:_=Value.pointer _)|exact (rfl:_=Value.map _)|(simp [Act.eval,Act.put];done)|(simp [Act.eval,Act.put];rfl)|rfl|fail)
  (hv:u.cells= #[u]:=by rfl) (hone:u.oneCell'=true:=by first|rfl|assumption|fail) (hsz:(P.info? ty).map (·.size)=some 1:=by kernel_rfl) (hg:SetE M g j [u] M':=by ((repeat (first|exact s0|apply sS))<;>fail)):Does P o a w0 w K M (fun _=>undef) (fun _=>M'):=
 ds hy hv (fun z hz=>by rw [Qax.1 hz];exact hone) ho hx hsz hg
theorem dsA {ty:TypeId} {x y:Operand} {g j n:Nat} {us:List Value} (ho:o.op= .store ty x y:=by rfl) (hx:a.eval x= .pointer (some ⟨g,j,none⟩):=by rfl) (hs:Rw P ty n:=by infer_instance) (hy:a.eval y= .agg us.toArray:=by rfl)
  (hl:us.length=n:=by rfl) (hone: ∀u∈us,u.oneCell'=true:=by first|(simp [Value.oneCell'];done)|assumption|fail) (hg:SetE M g j us M':=by ((repeat (first|exact s0|apply sS))<;>fail)):Does P o a w0 w K M (fun _=>undef) (fun _=>M'):=
 ds hy rfl hone ho hx (by rw [hl];exact hs.s) hg
theorem da {ty:TypeId} {cs:List Value} (ho:o.op= .alloc ty:=by rfl) (hz:Zr P ty cs:=by infer_instance):Does P o a w0 w K M (fun g=>.pointer (some ⟨g,0,none⟩)) (fun g=>.box g cs ty::M):=fun C Q H h=>by
 have hz:=hz.h
 cases hq:P.info? ty with
 |none=>simp [hq] at hz
 |some ti=>
  cases hzz:ti.zero with
  |none=>simp [hq,hzz] at hz
  |some z=>
   have hzc:z.cells=cs.toArray:=by simpa [hq,hzz] using hz
   unfold Oper.wp execOp
   have hrun:(Instr.alloc ty true (.tuple #[])).run P w= .ok (.pointer (some ⟨w.heap.size,0,none⟩)) (w.alloc (.cells cs.toArray ty)):=by
    simp [Instr.alloc,zeroValue,typeInfo,hq,hzz,newVar,newRow,newObj,hzc];rfl
   simp only [ho,Sem.run_bind,hrun,Result.andThen_ok,Sem.run_pure];exact h _ _ (H.alloc cs ty)
theorem db {ty:TypeId} {x:Operand} {v:Value} {cs:List Value} (hx:a.eval x=v) (hv:v.cells=cs.toArray) (ho:o.op= .box ty x):Does P o a w0 w K M (fun g=>.pointer (some ⟨g,0,none⟩)) (fun g=>.box g cs ty::M):=fun C Q H h=>by
 unfold Oper.wp execOp
 have hrun:(Instr.box ty v).run P w= .ok (.pointer (some ⟨w.heap.size,0,none⟩)) (w.alloc (.cells cs.toArray ty)):=by
  simp [Instr.box,newVar,newRow,newObj,hv];rfl
 simp only [ho,hx,Sem.run_bind,hrun,Result.andThen_ok,Sem.run_pure];exact h _ _ (H.alloc cs ty)
theorem dbA {ty:TypeId} {x:Operand} {cs:List Value} (ho:o.op= .box ty x:=by rfl) (hx:a.eval x= .agg cs.toArray:=by rfl):Does P o a w0 w K M (fun g=>.pointer (some ⟨g,0,none⟩)) (fun g=>.box g cs ty::M):=db hx rfl ho
theorem db1 {ty:TypeId} {x:Operand} {v:Value} (ho:o.op= .box ty x:=by rfl) (hx:a.eval x=v:=by first|exact (rfl:_=Value.int _ _)|exact (rfl:_=Value.string _)|exact (rfl:_=Value.slice _ _ _)|exact (rfl:_=Value.bool _)|exact (rfl:_=Value.pointer _)|exact (rfl:_=Value.map _)|(simp [Act.eval,Act.put];done)|(simp [Act.eval,Act.put];rfl)|rfl|fail) (hv:v.cells= #[v]:=by rfl):Does P o a w0 w K M (fun g=>.pointer (some ⟨g,0,none⟩)) (fun g=>.box g [v] ty::M):=db hx hv ho
def q4u:Value→List Value
 | .agg ⟨l⟩=>l
 |v=>[v]
def catV:List (Nat×Value)→List Value
 |[]=>[]
 |(_,v)::r=>q4u v++catV r
theorem dbS {t e:TypeId} {len:Nat} {parts:Array (Nat×Operand)} {pv:List (Nat×Value)} {cs:List Value} (ho:o.op= .buildSlice t len parts:=by rfl) (hu:P.underlying t=some (.slice e):=by rfl) (hpv:(parts.map fun (i,x)=>(i,a.eval x)).toList=pv:=by rfl)
  (hcs:catV pv=cs:=by (simp only [catV,q4u,List.cons_append,List.nil_append,List.append_nil];try rfl)) (hf:P.builtSlice e len pv=some cs.toArray:=by kernel_rfl):Does P o a w0 w K M (fun g=>.slice (some ⟨g,0,none⟩) len len) (fun g=>.box g cs e::M):=fun C Q H h=>by
 unfold Program.builtSlice at hf
 cases hie:P.info? e with
 |none=>simp [hie] at hf
 |some ie=>
  simp only [hie] at hf
  cases hz:ie.zero with
  |none=>simp [hz] at hf
  |some z=>
   simp only [hz] at hf;by_cases hc:len*ie.size>2 ^ 24∨len*ie.size=0
   ·simp [hc] at hf
   ·rw [if_neg hc] at hf;exact wp_buildSlice t e len parts ho cs.toArray ie z hu hie hz (fun h'=>hc (Or.inl h')) (fun h'=>hc (Or.inr h')) (by rw [hpv];exact hf) (h _ _ (H.alloc cs e))
theorem dbA1 {t e:TypeId} {x:Operand} {us:List Value} (ho:o.op= .buildSlice t 1 #[(0,x)]:=by rfl) (hx:a.eval x= .agg us.toArray:=by rfl) (hu:P.underlying t=some (.slice e):=by rfl) (hf:P.builtSlice e 1 [(0,.agg us.toArray)]=some us.toArray:=by kernel_rfl):
  Does P o a w0 w K M (fun g=>.slice (some ⟨g,0,none⟩) 1 1) (fun g=>.box g us e::M):=dbS (len:=1) (pv:=[(0,.agg us.toArray)]) (cs:=us) ho hu (by simp [hx]) (by simp [catV,q4u]) (by simpa using hf)
theorem db11 {t e:TypeId} {x:Operand} {v:Value} (ho:o.op= .buildSlice t 1 #[(0,x)]:=by rfl) (hx:a.eval x=v:=by first|exact (rfl:_=Value.int _ _)|exact (rfl:_=Value.string _)|exact (rfl:_=Value.slice _ _ _)|exact (rfl:_=Value.bool _)|exact (rfl:_=Value.pointer _)|exact (rfl:_=Value.map _)|(simp [Act.eval,Act.put];done)|(simp [Act.eval,Act.put];rfl)|rfl|fail) (hv:q4u v=[v]:=by rfl) (hu:P.underlying t=some (.slice e):=by rfl) (hf:P.builtSlice e 1 [(0,v)]=some #[v]:=by kernel_rfl):
  Does P o a w0 w K M (fun g=>.slice (some ⟨g,0,none⟩) 1 1) (fun g=>.box g [v] e::M):=dbS (len:=1) (pv:=[(0,v)]) (cs:=[v]) ho hu (by simp [hx]) (by simp [catV,hv]) (by simpa using hf)
theorem oP (H:Hp w0 w K M) {v:Nat→Value} {N:Nat→List Ent} {a':Nat→Act} (h: ∀w' g,Hp w0 w' K (N g)→wpList P ops Q rest (a' g) w') (hm:isMem o.op=true:=by rfl) (hd:Does P o a w0 w K M v N:=by first|exact ds1|exact dsA|exact da|exact dbA|exact db1|exact dbA1|exact db11|exact dbS|fail) (ha: ∀g,a.put o.dst (v g)=a' g:=by (intro g;simp only [Act.put,List.setIfInBounds_toArray,List.set_cons_zero,List.set_cons_succ];try rfl)) (hgd:o.guard=none:=by rfl):wpList P ops Q (o::rest) a w:=
 wpList_plain hgd fun _ hK=>hd _ _ H fun w' g H'=>hK _ _ (by rw [ha g];exact h w' g H')
theorem oA (d:Tmp) (H:Hp w0 w K M) {v:Nat→Value} {N:Nat→List Ent} {a':Nat→Act} (h: ∀w' g,Hp w0 w' K (N g)→wpList P ops Q rest (a' g) w') (hd0:o.dst=some d:=by rfl) (hm:isMem o.op=true:=by rfl) (hd:Does P o a w0 w K M v N:=by first|exact da|exact dbA|exact db1|exact dbA1|exact db11|exact dbS|fail) (ha: ∀g,a.put o.dst (v g)=a' g:=by (intro g;simp only [Act.put,List.setIfInBounds_toArray,List.set_cons_zero,List.set_cons_succ];try rfl)) (hgd:o.guard=none:=by rfl):wpList P ops Q (o::rest) a w:=
 oP H h hm hd ha hgd
theorem oQ {g:Nat} {us:List Value} {e:TypeId} (H:Hp w0 w K (.box g us e::M)) {s x:Operand} {t:TypeId} {size bytes n i:Nat} {v:Value} {vs:List Value} {a':Option Addr→Nat→Act}
  (h: ∀A' c' w',n+1≤c'→c'≤maxLen→Hp w0 w' K (M.set i (.row e size (.slice A' (n+1) c') (n+1) (vs++us)))→wpList P ops Q rest (a' A' c') w')
  (ho:o.op= .call {callee:=.builtin .append,args:= #[s,x],argTypes:= #[t,t]}:=by rfl) (hx:a.eval x= .slice (some ⟨g,0,none⟩) 1 1:=by rfl) (hsl:Sli P t e size bytes:=by infer_instance) (hs:a.eval s=v:=by first|rfl|(simp [Act.eval,Act.put];done)|fail)
  (hi:M[i]?=some (.row e size v n vs):=by ((repeat (first|exact i0|apply iS))<;>fail)) (hl:us.length=size:=by rfl) (h1: ∀u∈us,u.oneCell'=true:=by first|(simp [Value.oneCell'];done)|assumption|fail)
  (hb:(n+1)*bytes≤140737488355328:=by omega) (ha: ∀A' c',a.put o.dst (.slice A' (n+1) c')=a' A' c':=by (intro A c;simp only [Act.put,List.setIfInBounds_toArray,List.set_cons_zero,List.set_cons_succ];try rfl)) (hgd:o.guard=none:=by rfl):wpList P ops Q (o::rest) a w:=by
 obtain ⟨ti,z,hu,hti,hz,hsz,hby,hzs,h0,hb0⟩:=hsl.h;have hmul:(n+1)*1≤(n+1)*bytes:=Qb2 _ hb0;refine y4p hgd s x t ho e ti z size bytes hu hti hz hsz hby hzs h0 H (i+1) v n vs (by simpa using hi) hs (some ⟨g,0,none⟩) 1 1 us hx (by rw [Nat.one_mul];exact hl) (H.rd (i:=0) rfl) h1 (by simp only [maxLen];omega) hb fun v' w' H'=>?_;have hlt:i<M.length:=(Qac.1 hi).1
 have H2:Hp w0 w' K (M.set i (.row e size v' (n+1) (vs++us))):=by simpa using H'.tail
 obtain ⟨A',c',rfl,h2,h3⟩:=H2.slice (i:=i) (Qbv hlt);rw [ha A' c'];exact h A' c' w' h2 h3 H2
theorem oR {m c:Nat} {A:Option Addr} {ls:List Leaf} (H:Hp w0 w K M) {s x:Operand} {t e:TypeId} {size bytes n i:Nat} {v:Value} {vs:List Value} {a':Option Addr→Nat→Act}
  (h: ∀us A' c' w',RL K ls us→us.length=ls.length→n+m≤c'→c'≤maxLen→Hp w0 w' K (M.set i (.row e size (.slice A' (n+m) c') (n+m) (vs++us)))→wpList P ops Q rest (a' A' c') w')
  (ho:o.op= .call {callee:=.builtin .append,args:= #[s,x],argTypes:= #[t,t]}:=by rfl) (hx:a.eval x= .slice A m c:=by first|rfl|(simp [Act.eval,Act.put];done)|fail) (hsl:Sli P t e size bytes:=by infer_instance) (hs:a.eval s=v:=by first|rfl|(simp [Act.eval,Act.put];done)|fail)
  (hi:M[i]?=some (.row e size v n vs):=by ((repeat (first|exact i0|apply iS))<;>fail)) (hd:RD K (.list m ls) (.slice A m c):=by assumption) (hlen:ls.length=m*size:=by simp only [y5k,z3s,z3r,z3t,z3u,y6c])
  (hb:(n+m)*bytes≤140737488355328:=by omega) (ha: ∀A' c',a.put o.dst (.slice A' (n+m) c')=a' A' c':=by (intro A c;simp only [Act.put,List.setIfInBounds_toArray,List.set_cons_zero,List.set_cons_succ];try rfl)) (hgd:o.guard=none:=by rfl):wpList P ops Q (o::rest) a w:=
 ap i hsl.h hd hlen H (fun us A' c' w' h1 h2 h3 h4 H'=>by rw [ha A' c'];exact h us A' c' w' h1 h2 h3 h4 H') ho hi hs hx hb hgd
theorem oB {fn:Func} {R:Ending→World→Prop} {p:Tmp} {ty:TypeId} {n g:Nat} {cs:List Value} (H:Hp w0 w K M) (h:R (.returned (.agg cs.toArray)) w) (hr:fn.results= #[.cell p ty]:=by rfl) (hp:a.tmps.getD p undef= .pointer (some ⟨g,0,none⟩):=by rfl) (hs:Rw P ty n:=by infer_instance)
  (hg:GetE M g cs:=by ((repeat (first|exact g0|apply gS))<;>fail)) (hl:cs.length=n:=by rfl) (hd:a.defers=[]:=by rfl):bodyPost P fn R .ret a w:=by
 obtain ⟨d,hu,hd2⟩:=hs.u;obtain ⟨i,t,hi⟩:=hg;exact bodyPost_ret (results_cell_row hr _ _ g t _ (0,0) d hp (H.blkAt hi) hu (by cases d<;>simp_all) (by rw [hs.s,←hl];simp)) hd h
theorem z17 {fn:Func} {p u:Tmp} {ty:TypeId} (h:fn.results= #[.cell p ty,.tmp u]) (tmps:Array Value) (w:World) (g:Nat) (t:TypeId) (cs:Array Value) (fr:Nat×Nat) (d:TypeDesc)
  (hp:tmps.getD p undef= .pointer (some ⟨g,0,none⟩)) (hg:w.heap[g]?=some (.cells cs t fr)) (hu:P.underlying ty=some d) (hd:(match d with| .struct _| .array _ _=>true|_=>false)=true) (hi:(P.info? ty).map (·.size)=some cs.size):
  (results fn tmps).run P w= .ok (.tuple #[.agg cs,tmps.getD u undef]) w:=by
 rw [results_cell_tmp h,hp];simp [asAddr,run_loadVar_row w g t ty cs fr d hg hu hd hi]
theorem oB3 {fn:Func} {R:Ending→World→Prop} {p u:Tmp} {ty:TypeId} {n g:Nat} {cs:List Value} {v:Value} (H:Hp w0 w K M) (h:R (.returned (.tuple #[v,.agg cs.toArray])) w) (hr:fn.results= #[.tmp u,.cell p ty]:=by rfl) (hp:a.tmps.getD p undef= .pointer (some ⟨g,0,none⟩):=by rfl) (hv:a.tmps.getD u undef=v:=by rfl) (hs:Rw P ty n:=by infer_instance)
  (hg:GetE M g cs:=by ((repeat (first|exact g0|apply gS))<;>fail)) (hl:cs.length=n:=by rfl) (hd:a.defers=[]:=by rfl):bodyPost P fn R .ret a w:=by
 obtain ⟨d,hu,hd2⟩:=hs.u;obtain ⟨i,t,hi⟩:=hg;refine bodyPost_ret (v:=.tuple #[v,.agg cs.toArray]) ?_ hd h;simp only [results,hr];have hl2:=run_loadVar_row (P:=P) w g t ty cs.toArray (0,0) d (H.blkAt hi) hu (by cases d<;>simp_all) (by rw [hs.s,←hl];simp);rw [←hv]
 have hp':a.tmps[p]?.getD undef= .pointer (some ⟨g,0,none⟩):=by simpa using hp
 simp [Sem.run_bind,Result.andThen,hp',asAddr,hl2]
theorem o0 {fn:Func} {R:Ending→World→Prop} (h:R (.returned (.tuple #[])) w) (hr:fn.results= #[]:=by rfl) (hd:a.defers=[]:=by rfl):bodyPost P fn R .normal a w:=bodyPost_end (v:=.tuple #[]) (by simp [results,hr]) hd h
theorem o1 {fn:Func} {R:Ending→World→Prop} (h:R (.returned (.tuple #[])) w) (hr:fn.results= #[]:=by rfl) (hd:a.defers=[]:=by rfl):bodyPost P fn R .ret a w:=bodyPost_ret (v:=.tuple #[]) (by simp [results,hr]) hd h
end
def Ov (w0 K:World) (M:List Ent) (w:World):Prop:=∃K' N,Sat K' K∧Hp w0 w K' N∧Inc M N
theorem Ov.hp {w0 K w:World} {M:List Ent} (h:Ov w0 K M w):Hp w0 w K M:=by
 obtain ⟨K',N,h1,h2,h3⟩:=h;have h4:=h2.fin h3
 exact ⟨h4.bel,h4.sat.trans h1,h4.ok,fun e he g hg=>⟨(h4.fr e he g hg).1,fun o ho=>Qbl fun hne=>by
  have:=h1.blk g o ho hne
  exact hne ((h4.fr e he g hg).2 o this)⟩,h4.nd⟩
section
variable {P : Program} {w0 w K K' : World} {M N : List Ent} {ops : Array Oper} {Q : Exit → Act → World → Prop} {F : List Nat} {fuel : Nat} {listed : Array Bool} {a a' : Act} {oi : Oper} {v : Value}
theorem rB {id:Nat} (F:List Nat) (H:Hp w0 w K M) (h: ∀w',Hp w0 w' K M→AnyL P .any ops Q (Ov w0 K M) F ops.size (Array.replicate ops.size false) a w') (hm:P.follows .mixedOrders=true:=by kernel_rfl):(Code.region id ops true).wp P Q a w:=
 held.begin_ _ F hm (h _ H.drew1)
theorem rN {id:Nat} (N:List Ent) (F:List Nat) (H:Hp w0 w K M) (h: ∀w',Hp w0 w' K M→AnyL P .any ops Q (Ov w0 K N) F ops.size (Array.replicate ops.size false) a w') (hin:Inc N M:=by first|((repeat (first|exact n0|exact nN|apply nD))<;>fail)|((repeat (first|exact n0|exact nN|refine nS (by ((repeat (first|exact u0|apply uS))<;>fail)) ?_|apply nD))<;>fail)|fail) (hm:P.follows .mixedOrders=true:=by kernel_rfl):(Code.region id ops true).wp P Q a w:=
 held.begin_ _ F hm (h _ H.drew1)
theorem rT (i:Nat) (H:Hp w0 w K' N) (h:AnyL P .any ops Q (Ov w0 K M) F fuel (listed.setIfInBounds i true) a' w) (hi:ops[i]?=some oi:=by (simp only [List.getElem?_toArray,List.getElem?_cons_zero,List.getElem?_cons_succ];try rfl))
  (hd:z1g P oi a K M v:=by first|exact dl1|exact dlA|exact dk1|exact dkA|exact dat|exact dat0|exact datj|(intro w0 w H;clear H;go_simp;try with_reducible rfl)|fail)
  (ha:a.put oi.dst v=a':=by (simp only [Act.put,List.getElem_toArray,List.getElem_cons_zero,List.getElem_cons_succ,List.setIfInBounds_toArray,List.set_cons_zero,List.set_cons_succ];try rfl))
  (hw:Region.wanted oi (yielded ops a.tmps)=true:=by rfl) (hs:Region.noSelect ops=true:=by kernel_rfl) (hf:Region.free .any ops listed i=true:=by kernel_rfl) (hr:(Region.ready .any ops listed).contains i=true:=by kernel_rfl) (hF:waits .any ops F i=true:=by kernel_rfl) (hc:closed .any ops listed=true:=by kernel_rfl)
  (hle:Sat K' K:=by first|exact Sat.refl _|assumption|fail) (hsf:Inc M N:=by first|((repeat (first|exact n0|exact nN|apply nD))<;>fail)|((repeat (first|exact n0|exact nN|refine nS (by ((repeat (first|exact u0|apply uS))<;>fail)) ?_|apply nD))<;>fail)|fail) (hQ: ∀c a w,Q (.panic c) (a.put oi.dst v) w→Q (.panic c) a w:=by exact fun _ _ _ h=>h):AnyL P .any ops Q (Ov w0 K M) F (fuel+1) listed a w:=
 held.take hi hs hf hr hF hc hQ (.inl ⟨hw,fun w h=>hd w0 w h.hp⟩) ⟨K',N,hle,H,hsf⟩ (ha▸h)
theorem z7a (hgd:oi.guard=none):Region.wanted oi (yielded ops a.tmps)=true:=by simp [Region.wanted,hgd]
theorem rW (i:Nat) (H:Hp w0 w K' N) {v:Nat→Value} {N':Nat→List Ent} {a':Nat→Act} (h: ∀w' g,Hp w0 w' K' (N' g)→AnyL P .any ops Q (Ov w0 K M) F fuel (listed.setIfInBounds i true) (a' g) w') (hr:Region.ready .any ops listed=[i]:=by kernel_rfl) (hi:ops[i]?=some oi:=by (simp only [List.getElem?_toArray,List.getElem?_cons_zero,List.getElem?_cons_succ];try rfl))
  (hd:Does P oi a w0 w K' N v N':=by first|exact ds1|exact dsA|exact da|exact dbA|exact db1|exact dbA1|exact db11|exact dbS|fail)
  (ha: ∀g,a.put oi.dst (v g)=a' g:=by (intro g;simp only [Act.put,List.getElem_toArray,List.getElem_cons_zero,List.getElem_cons_succ,List.setIfInBounds_toArray,List.set_cons_zero,List.set_cons_succ];try rfl))
  (hgd:oi.guard=none:=by rfl) (hle:Sat K' K:=by first|exact Sat.refl _|assumption|fail) (hsf: ∀g,Inc M (N' g):=by (intro g;first|((repeat (first|exact n0|exact nN|apply nD))<;>fail)|((repeat (first|exact n0|exact nN|refine nS (by ((repeat (first|exact u0|apply uS))<;>fail)) ?_|apply nD))<;>fail)|fail)):AnyL P .any ops Q (Ov w0 K M) F (fuel+1) listed a w:=
 held.step hr hi fun Kq hKq=>by
  rw [if_pos (z7a hgd)];exact hd _ _ H fun w' g H'=>hKq.out _ _ (fun _=>⟨K',_,hle,H',hsf g⟩) (fun _=>by rw [ha g];exact h w' g H')
theorem rL (i:Nat) (H:Hp w0 w K' N) {v:Nat→Value} {N':Nat→List Ent} {a':Nat→Act} (h: ∀w' g,Hp w0 w' K' (N' g)→AnyL P .any ops Q (Ov w0 K M) F fuel (listed.setIfInBounds i true) (a' g) w') (hr:Region.ready .any ops listed=[i]:=by kernel_rfl) (hi:ops[i]?=some oi:=by (simp only [List.getElem?_toArray,List.getElem?_cons_zero,List.getElem?_cons_succ];try rfl))
  (hd:Does P oi a w0 w K' N v N':=by first|exact ds1|exact dsA|exact da|exact dbA|exact db1|exact dbA1|exact db11|exact dbS|fail)
  (ha: ∀g,a.put oi.dst (v g)=a' g:=by (intro g;simp only [Act.put,List.getElem_toArray,List.getElem_cons_zero,List.getElem_cons_succ,List.setIfInBounds_toArray,List.set_cons_zero,List.set_cons_succ];try rfl))
  (hgd:oi.guard=none:=by rfl) (hin:i∈F:=by simp):AnyL P .any ops Q (Ov w0 K M) F (fuel+1) listed a w:=
 held.step hr hi fun Kq hKq=>by
  rw [if_pos (z7a hgd)];exact hd _ _ H fun w' g H'=>hKq.out _ _ (fun h=>absurd hin h) (fun _=>by rw [ha g];exact h w' g H')
theorem rC (i:Nat) {f:FuncId} {xs:Array Value} {R:Ending→World→Prop} (hC:Calls P f xs w R) (h: ∀e w',R e w'→ ∃v a',e= .returned v∧a.put oi.dst v=a'∧Ov w0 K M w'∧AnyL P .any ops Q (Ov w0 K M) F fuel (listed.setIfInBounds i true) a' w') (hr:Region.ready .any ops listed=[i]:=by kernel_rfl)
  (hi:ops[i]?=some oi:=by (simp only [List.getElem?_toArray,List.getElem?_cons_zero,List.getElem?_cons_succ];try rfl)) (hrun:(execOp a.eval oi).run P w= .ok (.enter f xs) w:=by (go_simp;try with_reducible rfl)) (hgd:oi.guard=none:=by rfl):AnyL P .any ops Q (Ov w0 K M) F (fuel+1) listed a w:=
 held.step hr hi fun Kq hKq=>by
  rw [if_pos (z7a hgd)];unfold Oper.wp;rw [hrun,Oper.upon_enter];refine hC.mono fun e w' hR=>?_;obtain ⟨v,a',rfl,ha,hS,hW⟩:=h e w' hR;exact hKq.out _ _ (fun _=>hS) (fun _=>by rw [ha];exact hW)
theorem rA (i:Nat) {K':World} (H:Hp w0 w K' N) {s x:Operand} {t e:TypeId} {size bytes n r j g:Nat} {v:Value} {us vs:List Value} {a':Option Addr→Nat→Act}
  (h: ∀A' c' w',n+1≤c'→c'≤maxLen→Hp w0 w' K' (N.set r (.row e size (.slice A' (n+1) c') (n+1) (vs++us)))→AnyL P .any ops Q (Ov w0 K M) F fuel (listed.setIfInBounds i true) (a' A' c') w')
  (hr:Region.ready .any ops listed=[i]:=by kernel_rfl) (hi:ops[i]?=some oi:=by (simp only [List.getElem?_toArray,List.getElem?_cons_zero,List.getElem?_cons_succ];try rfl))
  (ho:oi.op= .call {callee:=.builtin .append,args:= #[s,x],argTypes:= #[t,t]}:=by rfl) (hx:a.eval x= .slice (some ⟨g,0,none⟩) 1 1:=by rfl) (hsl:Sli P t e size bytes:=by infer_instance) (hs:a.eval s=v:=by first|exact (rfl:_=Value.slice _ _ _)|rfl|fail)
  (hri:N[r]?=some (.row e size v n vs):=by ((repeat (first|exact i0|apply iS))<;>fail)) (hj:N[j]?=some (.box g us e):=by ((repeat (first|exact i0|apply iS))<;>fail)) (hl:us.length=size:=by rfl) (h1: ∀u∈us,u.oneCell'=true:=by first|(simp [Value.oneCell'];done)|assumption|fail)
  (hb:(n+1)*bytes≤140737488355328:=by omega) (ha: ∀A' c',a.put oi.dst (.slice A' (n+1) c')=a' A' c':=by (intro A c;simp only [Act.put,List.getElem_toArray,List.getElem_cons_zero,List.getElem_cons_succ,List.setIfInBounds_toArray,List.set_cons_zero,List.set_cons_succ];try rfl))
  (hgd:oi.guard=none:=by rfl) (hle:Sat K' K:=by first|exact Sat.refl _|assumption|fail) (hsf: ∀A' c',Inc M (N.set r (.row e size (.slice A' (n+1) c') (n+1) (vs++us))):=by (intro A c;dsimp only [List.set];first|((repeat (first|exact n0|exact nN|apply nD))<;>fail)|((repeat (first|exact n0|exact nN|refine nS (by ((repeat (first|exact u0|apply uS))<;>fail)) ?_|apply nD))<;>fail)|fail)):AnyL P .any ops Q (Ov w0 K M) F (fuel+1) listed a w:=
 held.step hr hi fun Kq hKq=>by
  obtain ⟨ti,z,hu,hti,hz,hsz,hby,hzs,h0,hb0⟩:=hsl.h;have hmul:(n+1)*1≤(n+1)*bytes:=Qb2 _ hb0;refine z5f hgd s x t ho e ti z size bytes hu hti hz hsz hby hzs h0 H r v n vs hri hs j g us hj hx hl h1 (by simp only [maxLen];omega) hb fun v' w' H'=>?_;obtain ⟨A',c',rfl,h2,h3⟩:=H'.slice (i:=r) (Qbv (Qac.1 hri).1);exact hKq.out _ _ (fun _=>⟨K',_,hle,H',hsf A' c'⟩) (fun _=>by rw [ha A' c'];exact h A' c' w' h2 h3 H')
theorem rX (H:Hp w0 w K' N) {v:Value} (h:AnyL P .any ops Q (Ov w0 K M) F fuel listed a' w) (ha:a.put oi.dst v=a':=by (simp only [Act.put,List.getElem_toArray,List.getElem_cons_zero,List.getElem_cons_succ,List.setIfInBounds_toArray,List.set_cons_zero,List.set_cons_succ];try rfl)) (hle:Sat K' K:=by first|exact Sat.refl _|assumption|fail) (hsf:Inc M N:=by first|((repeat (first|exact n0|exact nN|apply nD))<;>fail)|((repeat (first|exact n0|exact nN|refine nS (by ((repeat (first|exact u0|apply uS))<;>fail)) ?_|apply nD))<;>fail)|fail):
  ∃u b,Ending.returned v= .returned u∧a.put oi.dst u=b∧Ov w0 K M w∧AnyL P .any ops Q (Ov w0 K M) F fuel listed b w:=⟨v,a',rfl,ha,⟨K',N,hle,H,hsf⟩,h⟩
theorem rE {S:World→Prop} (h:Q .normal a w) (hr:Region.ready .any ops listed=[]:=by kernel_rfl):AnyL P .any ops Q S F fuel listed a w:=held.done hr h fuel
end
end Go.Proofs.YtbpgkkoeehopjaaGreat.hp
namespace Go.Proofs.YtbpgkkoeehopjaaGreat.hp
open Go.RowKit
instance:Zr Tryz.prog 33 [.bool false,.bool false,.string ⟨#[]⟩]:=⟨by kernel_rfl⟩
instance:Zr Tryz.prog 41 [.int .i64 0,.int .i64 0]:=⟨by kernel_rfl⟩
instance:Zr Tryz.prog 43 [.int .i64 0,.bool false,.bool false,.bool false,.string ⟨#[]⟩,.string ⟨#[]⟩,.slice none 0 0,.slice none 0 0,.slice none 0 0,.slice none 0 0,.slice none 0 0,.slice none 0 0,.slice none 0 0,.bool false,.slice none 0 0,.int .i64 0,.int .i64 0]:=⟨by kernel_rfl⟩
instance:Zr Tryz.prog 50 [.string ⟨#[]⟩,.string ⟨#[]⟩]:=⟨by kernel_rfl⟩
instance:Zr Tryz.prog 52 [.bool false,.bool false,.string ⟨#[]⟩,.string ⟨#[]⟩,.slice none 0 0,.string ⟨#[]⟩,.string ⟨#[]⟩,.slice none 0 0,.int .i64 0,.int .i64 0]:=⟨by kernel_rfl⟩
instance:Zr Tryz.prog 83 [.int .i64 0,.slice none 0 0,.slice none 0 0]:=⟨by kernel_rfl⟩
instance:Zr Tryz.prog 113 [.string ⟨#[]⟩,.int .i64 0,.int .i64 0]:=⟨by kernel_rfl⟩
instance:Zr Tryz.prog 121 [.int .i64 0,.string ⟨#[]⟩,.bool false,.slice none 0 0,.slice none 0 0,.int .i64 0,.int .i64 0]:=⟨by kernel_rfl⟩
instance:Zr Tryz.prog 123 [.bool false,.bool false,.string ⟨#[]⟩,.string ⟨#[]⟩,.string ⟨#[]⟩,.string ⟨#[]⟩,.bool false,.int .i64 0,.string ⟨#[]⟩,.bool false,.slice none 0 0,.slice none 0 0,.int .i64 0,.int .i64 0,.slice none 0 0,.int .i64 0,.int .i64 0]:=⟨by kernel_rfl⟩
instance:Zr Tryz.prog 133 [.bool false,.bool false,.string ⟨#[]⟩,.string ⟨#[]⟩,.slice none 0 0,.int .i64 0,.int .i64 0]:=⟨by kernel_rfl⟩
instance:Zr Tryz.prog 148 [.int .i64 0,.int .i64 0,.int .i64 0,.int .i64 0,.int .i64 0,.string ⟨#[]⟩,.string ⟨#[]⟩]:=⟨by kernel_rfl⟩
instance:Zr Tryz.prog 181 [.string ⟨#[]⟩,.slice none 0 0,.int .i64 0,.int .i64 0]:=⟨by kernel_rfl⟩
instance:Zr Tryz.prog 185 [.string ⟨#[]⟩,.int .i64 0,.string ⟨#[]⟩,.bool false,.slice none 0 0,.slice none 0 0,.int .i64 0,.int .i64 0,.int .i64 0,.int .i64 0]:=⟨by kernel_rfl⟩
instance:Zr Tryz.prog 219 [.string ⟨#[]⟩,.int .i64 0,.string ⟨#[]⟩,.bool false,.slice none 0 0,.slice none 0 0,.int .i64 0,.int .i64 0,.int .i64 0,.int .i64 0]:=⟨by kernel_rfl⟩
instance:Sc Tryz.prog 3:=⟨⟨_,Tryz.underlying3,rfl⟩⟩
instance:Sc Tryz.prog 4:=⟨⟨_,Tryz.underlying4,rfl⟩⟩
instance:Sc Tryz.prog 9:=⟨⟨_,Tryz.underlying9,rfl⟩⟩
instance:Sc Tryz.prog 31:=⟨⟨_,Tryz.underlying31,rfl⟩⟩
instance:Rw Tryz.prog 33 3:=⟨⟨_,Tryz.underlying33,rfl⟩,by kernel_rfl⟩
instance:Sc Tryz.prog 34:=⟨⟨_,Tryz.underlying34,rfl⟩⟩
instance:Sc Tryz.prog 35:=⟨⟨_,Tryz.underlying35,rfl⟩⟩
instance:Sc Tryz.prog 36:=⟨⟨_,Tryz.underlying36,rfl⟩⟩
instance:Sc Tryz.prog 37:=⟨⟨_,Tryz.underlying37,rfl⟩⟩
instance:Sc Tryz.prog 38:=⟨⟨_,Tryz.underlying38,rfl⟩⟩
instance:Sc Tryz.prog 39:=⟨⟨_,Tryz.underlying39,rfl⟩⟩
instance:Rw Tryz.prog 41 2:=⟨⟨_,Tryz.underlying41,rfl⟩,by kernel_rfl⟩
instance:Rw Tryz.prog 43 17:=⟨⟨_,Tryz.underlying43,rfl⟩,by kernel_rfl⟩
instance:Rw Tryz.prog 50 2:=⟨⟨_,Tryz.underlying50,rfl⟩,by kernel_rfl⟩
instance:Rw Tryz.prog 52 10:=⟨⟨_,Tryz.underlying52,rfl⟩,by kernel_rfl⟩
instance:Sc Tryz.prog 79:=⟨⟨_,Tryz.underlying79,rfl⟩⟩
instance:Rw Tryz.prog 83 3:=⟨⟨_,Tryz.underlying83,rfl⟩,by kernel_rfl⟩
instance:Rw Tryz.prog 113 3:=⟨⟨_,Tryz.underlying113,rfl⟩,by kernel_rfl⟩
instance:Sc Tryz.prog 118:=⟨⟨_,Tryz.underlying118,rfl⟩⟩
instance:Sc Tryz.prog 119:=⟨⟨_,Tryz.underlying119,rfl⟩⟩
instance:Rw Tryz.prog 121 7:=⟨⟨_,Tryz.underlying121,rfl⟩,by kernel_rfl⟩
instance:Rw Tryz.prog 123 17:=⟨⟨_,Tryz.underlying123,rfl⟩,by kernel_rfl⟩
instance:Rw Tryz.prog 133 7:=⟨⟨_,Tryz.underlying133,rfl⟩,by kernel_rfl⟩
instance:Sc Tryz.prog 137:=⟨⟨_,Tryz.underlying137,rfl⟩⟩
instance:Rw Tryz.prog 145 2:=⟨⟨_,Tryz.underlying145,rfl⟩,by kernel_rfl⟩
instance:Sc Tryz.prog 146:=⟨⟨_,Tryz.underlying146,rfl⟩⟩
instance:Rw Tryz.prog 148 7:=⟨⟨_,Tryz.underlying148,rfl⟩,by kernel_rfl⟩
instance:Sc Tryz.prog 179:=⟨⟨_,Tryz.underlying179,rfl⟩⟩
instance:Rw Tryz.prog 181 4:=⟨⟨_,Tryz.underlying181,rfl⟩,by kernel_rfl⟩
instance:Rw Tryz.prog 185 10:=⟨⟨_,Tryz.underlying185,rfl⟩,by kernel_rfl⟩
instance:Rw Tryz.prog 219 10:=⟨⟨_,Tryz.underlying219,rfl⟩,by kernel_rfl⟩
instance:Sli Tryz.prog 22 43 17 272:=⟨sli Tryz.underlying22 (z:=.agg #[.int .i64 0,.bool false,.bool false,.bool false,.string ⟨#[]⟩,.string ⟨#[]⟩,.slice none 0 0,.slice none 0 0,.slice none 0 0,.slice none 0 0,.slice none 0 0,.slice none 0 0,.slice none 0 0,.bool false,.slice none 0 0,.int .i64 0,.int .i64 0]) (by kernel_rfl)⟩
instance:Sli Tryz.prog 34 113 3 32:=⟨sli Tryz.underlying34 (z:=.agg #[.string ⟨#[]⟩,.int .i64 0,.int .i64 0]) (by kernel_rfl)⟩
instance:Sli Tryz.prog 35 181 4 56:=⟨sli Tryz.underlying35 (z:=.agg #[.string ⟨#[]⟩,.slice none 0 0,.int .i64 0,.int .i64 0]) (by kernel_rfl)⟩
instance:Sli Tryz.prog 36 52 10 136:=⟨sli Tryz.underlying36 (z:=.agg #[.bool false,.bool false,.string ⟨#[]⟩,.string ⟨#[]⟩,.slice none 0 0,.string ⟨#[]⟩,.string ⟨#[]⟩,.slice none 0 0,.int .i64 0,.int .i64 0]) (by kernel_rfl)⟩
instance:Sli Tryz.prog 37 123 17 216:=⟨sli Tryz.underlying37 (z:=.agg #[.bool false,.bool false,.string ⟨#[]⟩,.string ⟨#[]⟩,.string ⟨#[]⟩,.string ⟨#[]⟩,.bool false,.int .i64 0,.string ⟨#[]⟩,.bool false,.slice none 0 0,.slice none 0 0,.int .i64 0,.int .i64 0,.slice none 0 0,.int .i64 0,.int .i64 0]) (by kernel_rfl)⟩
instance:Sli Tryz.prog 38 133 7 80:=⟨sli Tryz.underlying38 (z:=.agg #[.bool false,.bool false,.string ⟨#[]⟩,.string ⟨#[]⟩,.slice none 0 0,.int .i64 0,.int .i64 0]) (by kernel_rfl)⟩
instance:Sli Tryz.prog 39 100 4 40:=⟨sli Tryz.underlying39 (z:=.agg #[.int .i64 0,.string ⟨#[]⟩,.int .i64 0,.int .i64 0]) (by kernel_rfl)⟩
instance:Sli Tryz.prog 118 121 7 96:=⟨sli Tryz.underlying118 (z:=.agg #[.int .i64 0,.string ⟨#[]⟩,.bool false,.slice none 0 0,.slice none 0 0,.int .i64 0,.int .i64 0]) (by kernel_rfl)⟩
instance:Sli Tryz.prog 119 219 10 128:=⟨sli Tryz.underlying119 (z:=.agg #[.string ⟨#[]⟩,.int .i64 0,.string ⟨#[]⟩,.bool false,.slice none 0 0,.slice none 0 0,.int .i64 0,.int .i64 0,.int .i64 0,.int .i64 0]) (by kernel_rfl)⟩
instance:Sli Tryz.prog 179 185 10 128:=⟨sli Tryz.underlying179 (z:=.agg #[.string ⟨#[]⟩,.int .i64 0,.string ⟨#[]⟩,.bool false,.slice none 0 0,.slice none 0 0,.int .i64 0,.int .i64 0,.int .i64 0,.int .i64 0]) (by kernel_rfl)⟩
end Go.Proofs.YtbpgkkoeehopjaaGreat.hp
