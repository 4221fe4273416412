/- Part 1 of a proof: see the text that holds the statement. -/
import Derived.WalkKit
import Derived.Maps.AppendAt
import Derived.Deep.Draws
import Derived.Test.YtbpgkkoeehopjaaGreatProg
import Derived.Lib.Hide
import Derived.Lib.SlBytesConst
import Derived.Lib.RuneBytes
import Derived.Lib.Small
import Derived.Lib.Strings
import Derived.Lib.Slices
import Derived.Lib.Walk
import Derived.Lib.Bits
import Derived.Lib.IndexBytes
import Derived.Laws.Strings3
import Derived.Laws.BitsAllLaws
import Derived.Deep.LoopGhost
import Derived.Below
import Derived.Deep.CutBlock
import Derived.Deep.DeepCutAuto
import Derived.Deep.QuietTactic
import Derived.BigQuiet
import Derived.WalkSmall
set_option linter.unusedVariables false
set_option linter.unusedSimpArgs false
namespace Go.Proofs.YtbpgkkoeehopjaaGreat
abbrev Qaa:=@List.Sublist.cons_cons
abbrev Qab:=@Nat.le_refl
abbrev Qac:=@List.getElem?_eq_some_iff
abbrev Qad:=@List.getElem?_eq_getElem
abbrev Qae:=@List.length_append
abbrev Qaf:=@List.mem_of_getElem?
abbrev Qag:=@Option.bind_eq_some_iff
abbrev Qah:=@Nat.le_trans
abbrev Qai:=@List.Sublist.cons
abbrev Qaj:=@List.take_of_length_le
abbrev Qak:=@Nat.zero_le
abbrev Qal:=@Array.toList_inj
abbrev Qam:=@List.Sublist.refl
abbrev Qan:=@Array.getElem?_eq_some_iff
abbrev Qao:=@Bool.and_eq_true
abbrev Qap:=@Nat.lt_of_lt_of_le
abbrev Qaq:=@List.getElem?_of_mem
abbrev Qar:=@Array.getD_eq_getD_getElem?
abbrev Qas:=@List.map_append
abbrev Qat:=@List.append_assoc
abbrev Qau:=@List.length_take
abbrev Qav:=@List.length_drop
abbrev Qaw:=@Nat.lt_succ_self
abbrev Qax:=@List.mem_singleton
abbrev Qay:=@List.length_map
abbrev Qaz:=@List.mem_cons_self
abbrev Qa0:=@List.eq_nil_of_length_eq_zero
abbrev Qa1:=@List.drop_eq_getElem_cons
abbrev Qa2:=@List.mem_cons_of_mem
abbrev Qa3:=@beq_eq_false_iff_ne
abbrev Qa4:=@decide_eq_false
abbrev Qa5:=@decide_eq_true
abbrev Qa6:=@of_decide_eq_true
abbrev Qa7:=@beq_iff_eq
abbrev Qa8:=@bne_iff_ne
abbrev Qa9:=@List.getElem?_append_left
abbrev Qba:=@List.getElem?_append_right
abbrev Qbb:=@List.getElem?_take
abbrev Qbc:=@List.getElem?_drop
abbrev Qbd:=@List.mem_cons
abbrev Qbe:=@List.mem_map
abbrev Qbf:=@List.mem_append
abbrev Qbg:=@List.getElem?_eq_none
abbrev Qbh:=@List.any_eq_true
abbrev Qbi:=@List.all_eq_true
abbrev Qbj:=@List.length_singleton
abbrev Qbk:=@List.take_succ_eq_append_getElem
abbrev Qbl:=@Classical.byContradiction
abbrev Qbm:=@Nat.lt_or_ge
abbrev Qbn:=@Nat.le_of_ble_eq_true
abbrev Qbo:=@List.drop_of_length_le
abbrev Qbp:=@List.mem_iff_getElem?
abbrev Qbq:=@Array.getElem?_eq_getElem
abbrev Qbr:=@List.nodup_append
abbrev Qbs:=@List.findIdx?_eq_some_iff_getElem
abbrev Qbt:=@List.length_pos_iff
abbrev Qbu:=@List.flatMap_append
abbrev Qbv:=@List.getElem?_set_self
abbrev Qbw:=@List.mem_append_left
abbrev Qbx:=@List.mem_append_right
abbrev Qby:=@List.ext_getElem?
abbrev Qbz:=@List.getElem?_map
abbrev Qb0:=@List.mem_zipIdx_iff_getElem?
abbrev Qb1:=@UInt8.toNat_inj
abbrev Qb2:=@Nat.mul_le_mul_left
abbrev Qb3:=@List.length_filter_le
end Go.Proofs.YtbpgkkoeehopjaaGreat
namespace Go.Proofs.YtbpgkkoeehopjaaGreat.words
open Go.RowKit
theorem hide {p:Prop} (h:p):Hid p:=h
theorem y55 (a:Addr) (n:Nat):(a.add n).block=a.block:=by unfold Addr.add;split<;>rfl
theorem x08 (a:Addr) (i j:Nat):(a.add i).add j=a.add (i+j):=by
 unfold Addr.add
 by_cases hi:i=0<;>by_cases hj:j=0<;>simp [hi,hj,Nat.add_assoc]
theorem y3l (a:Addr) (k:Nat):a.add (k+1)=⟨a.block,a.off+(k+1),none⟩:=by unfold Addr.add;simp
def Rd (w:World) (B:Nat) (A:Option Addr) (xs:List Value):Prop:=
 xs≠[]→ ∃ad,A=some ad∧ad.block<B∧ ∀j u,xs[j]?=some u→w.cell? (ad.add j)=some u
section
variable {w w' : World} {B B' : Nat} {A : Option Addr} {xs : List Value}
theorem Rd.nil:Rd w B A []:=fun h=>absurd rfl h
theorem Rd.at {k:Nat} (h:Rd w B A xs) (hk:k<xs.length): ∃ad,A=some ad∧ad.block<B∧w.cell? (ad.add k)=some xs[k]:=by
 obtain ⟨ad,e,hb,hc⟩:=h (by rintro rfl;simp at hk);exact ⟨ad,e,hb,hc k _ (Qad hk)⟩
theorem Rd.keep (h:Rd w B A xs) (hk: ∀p:Addr,p.block<B→w'.cell? p=w.cell? p):Rd w' B A xs:=fun hn=>by
 obtain ⟨ad,e,hb,hc⟩:=h hn;exact ⟨ad,e,hb,fun j u hu=>(hk _ (by rw [y55];exact hb)).trans (hc j u hu)⟩
theorem Rd.more (h:Rd w B A xs) (hB:B≤B'):Rd w B' A xs:=fun hn=>by
 obtain ⟨ad,e,hb,hc⟩:=h hn;exact ⟨ad,e,by omega,hc⟩
theorem Rd.below (h:Rd w B A xs) (hb:Below B w w'):Rd w' B A xs:=h.keep fun _ hp=>hb.cell hp
theorem Rd.below' {C:Nat} (h:Rd w B A xs) (hb:Below C w w') (hC:B≤C):Rd w' B A xs:=h.keep fun _ hp=>hb.cell (by omega)
theorem Rd.grown (h:Rd w B A xs) {row:Option Nat} (hg:w.grownBy w' row) (hB:B≤w.heap.size) (hr: ∀g,row=some g→B≤g):Rd w' B A xs:=
 h.keep fun p hp=>World.cell?_of_block (hg.block p.block (by omega) (fun e=>by have:=hr _ e.symm;omega))
theorem Rd.alloc (h:Rd w B A xs) (hB:B≤w.heap.size) (o:Obj):Rd (w.alloc o) B A xs:=h.keep fun p hp=>World.cell?_alloc_lt w o p (by omega)
theorem Rd.take (h:Rd w B A xs) (k:Nat):Rd w B A (xs.take k):=fun hn=>by
 obtain ⟨ad,e,hb,hc⟩:=h (by rintro rfl;simp at hn);refine ⟨ad,e,hb,fun j u hu=>hc j u ?_⟩;rw [Qbb] at hu;split at hu
 ·exact hu
 ·cases hu
theorem Rd.drop (h:Rd w B A xs) (k:Nat):Rd w B (A.map (·.add k)) (xs.drop k):=fun hn=>by
 obtain ⟨ad,rfl,hb,hc⟩:=h (by rintro rfl;simp at hn);refine ⟨ad.add k,rfl,by rw [y55];exact hb,fun j u hu=>?_⟩;rw [x08];exact hc _ u (by rw [←hu,Qbc])
theorem Rd.of_own {base e size n c:Nat} (h:w.ownsRow base e size (.slice A n c) n xs):Rd w w.heap.size A xs:=by
 intro hn;rcases h.2 with ⟨he,h0⟩|⟨g,cap,cur,hv,_⟩
 ·have:=h.1;subst h0;exact absurd (Qa0 (by simpa using this)) hn
 ·injection hv with hA;subst hA;exact ⟨_,rfl,(h.lt g rfl).2,h.cells (g:=g) rfl⟩
theorem y0e {base e size n:Nat} {v:Value} (h:w.ownsRow base e size v n xs): ∃A c,v= .slice A n c∧n≤c∧c≤maxLen:=by
 rcases h.2 with ⟨rfl,rfl⟩|⟨g,cap,cur,rfl,_,_,h1,h2,_⟩
 ·exact ⟨none,0,rfl,Qab _,Qak _⟩
 ·exact ⟨_,cap,rfl,h1,h2⟩
theorem Rd.i32 {w:World} {B:Nat} {A:Option Addr} {zs:List Int} {k:Nat} (h:Rd w B A (zs.map (Value.int .i32))) (hk:k<zs.length):
  ∃ad z,A=some ad∧zs[k]?=some z∧ad.block<B∧w.cell? (ad.add k)=some (.int .i32 z):=by
 obtain ⟨ad,e,hb,hc⟩:=h.at (k:=k) (by simpa using hk);exact ⟨ad,zs[k],e,Qad hk,hb,by rw [hc];simp⟩
end
section
variable {P : Program} (w : World)
theorem z27 (base:Nat) (t ty e:TypeId) (i:TypeInfo) (size:Nat) (ht:P.underlying t=some (.slice e)) (hi:P.info? e=some i)
  (v:Value) (n:Nat) (xs:List Value) (hown:w.ownsRow base e size v n xs) (c:Nat):(Builtin.append_ #[t,t] ty #[v,.slice none 0 c]).run P w= .ok v w:=by
 rcases hown.2 with ⟨rfl,rfl⟩|⟨g,cap,cur,rfl,_,_,hnc,_⟩
 ·simp [Builtin.append_,run_underlying ht,sizeOf,typeInfo,hi,Builtin.lenOf,Builtin.firstCells]
 ·simp [Builtin.append_,run_underlying ht,sizeOf,typeInfo,hi,Builtin.lenOf,Builtin.firstCells,hnc,storeCells]
theorem z6q (base:Nat) (t ty e:TypeId) (i:TypeInfo) (z:Value) (size bytes:Nat) (ht:P.underlying t=some (.slice e)) (hi:P.info? e=some i) (hz:i.zero=some z)
  (hsize:i.size=size) (hby:i.bytes=bytes) (hzs:z.cells.size=size) (hsz:0<size)
  (v:Value) (n:Nat) (xs:List Value) (hown:w.ownsRow base e size v n xs)
  (B:Nat) (A:Option Addr) (m c:Nat) (news:List Value) (hl:news.length=m*size) (hr:Rd w B A news) (h1: ∀u∈news,u.oneCell'=true)
  (h63:n+m≤maxLen) (hbytes:(n+m)*bytes≤140737488355328) (hbase:base≤w.heap.size):
  ∃v' w',(Builtin.append_ #[t,t] ty #[v,.slice A m c]).run P w= .ok v' w'∧w'.ownsRow base e size v' (n+m) (xs++news)∧w.grownBy w' v.ownBlock∧
   (v'.ownBlock=v.ownBlock∨v'.ownBlock=some w.heap.size):=by
 cases A with
 |none=>
  have hn:news=[]:=by
   rcases news with _|⟨x,r⟩
   ·rfl
   ·obtain ⟨ad,h,_⟩:=hr (by simp);cases h
  subst hn
  have hm:m=0:=by
   rcases Nat.eq_zero_or_pos m with h0|h0
   ·exact h0
   ·have:0<m*size:=Nat.mul_pos h0 hsz;simp at hl;omega
  subst hm;exact ⟨v,w,z27 w base t ty e i size ht hi v n xs hown c,by simpa using hown,World.grownBy.refl w _,.inl rfl⟩
 |some ad=>
  have hcells: ∀j u,news[j]?=some u→w.cell? (ad.add j)=some u:=by
   intro j u hu;obtain ⟨ad',h,_,hc⟩:=hr (by rintro rfl;simp at hu);injection h with h;subst h;exact hc j u hu
  obtain ⟨v',w',hrun,h2,h3,_,h5⟩:=run_append_own_at (P:=P) w base t ty e i z size bytes ht hi hz hsize hby hzs hsz v n xs hown ad m c news hl hcells h1 h63 hbytes hbase;exact ⟨v',w',hrun,h2,h3,h5⟩
theorem y0b {ops:Array Oper} {rest:List Oper} {o:Oper} {a:Act} {Q:Exit→Act→World→Prop} (hgd:o.guard=none) (s x:Operand) (t:TypeId)
  (ho:o.op= .call {callee:=.builtin .append,args:= #[s,x],argTypes:= #[t,t]})
  (base:Nat) (e:TypeId) (i:TypeInfo) (z:Value) (size bytes:Nat) (ht:P.underlying t=some (.slice e)) (hi:P.info? e=some i) (hz:i.zero=some z)
  (hsize:i.size=size) (hby:i.bytes=bytes) (hzs:z.cells.size=size) (hsz:0<size)
  (v:Value) (n:Nat) (xs:List Value) (hs:a.eval s=v) (hown:w.ownsRow base e size v n xs)
  (B:Nat) (A:Option Addr) (m c:Nat) (news:List Value) (hx:a.eval x= .slice A m c) (hl:news.length=m*size) (hr:Rd w B A news) (h1: ∀u∈news,u.oneCell'=true)
  (h63:n+m≤maxLen) (hbytes:(n+m)*bytes≤140737488355328) (hbase:base≤w.heap.size)
  (h: ∀v' w',w'.ownsRow base e size v' (n+m) (xs++news)→w.grownBy w' v.ownBlock→(v'.ownBlock=v.ownBlock∨v'.ownBlock=some w.heap.size)→wpList P ops Q rest (a.put o.dst v') w'):wpList P ops Q (o::rest) a w:=
 wpList_plain hgd fun _ hK=>by
  obtain ⟨v',w',hrun,h2,h3,h4⟩:=z6q (P:=P) w base t o.type e i z size bytes ht hi hz hsize hby hzs hsz v n xs hown B A m c news hl hr h1 h63 hbytes hbase;unfold Oper.wp execOp;simp only [ho,resolve,invoke,builtin,Sem.run_bind,Sem.run_pure,Result.andThen_ok,List.map_toArray,List.map_cons,List.map_nil,hs,hx,hrun];exact hK _ _ (h v' w' h2 h3 h4)
end
theorem y0d {B:Nat} {a w w':World} {v:Value} {base e size n:Nat} {xs:List Value} (h:Below B a w) (hown:w.ownsRow base e size v n xs) (hb:B≤base) (hg:w.grownBy w' v.ownBlock) (hB:B≤w.heap.size):Below B a w':=
 h.grown hg hB fun k hk=>by have:=(hown.lt k hk).1;omega
theorem y33 (zs:List Int): ∀u∈zs.map (Value.int .i32),u.oneCell'=true:=by
 intro u hu;rw [Qbe] at hu;obtain ⟨x,_,rfl⟩:=hu;rfl
theorem q98 (zs:List Int): ∀u∈zs.map (Value.int .u8),u.oneCell'=true:=by
 intro u hu;rw [Qbe] at hu;obtain ⟨x,_,rfl⟩:=hu;rfl
end Go.Proofs.YtbpgkkoeehopjaaGreat.words
namespace Go.Proofs.YtbpgkkoeehopjaaGreat.tree
open Go.RowKit words
inductive Leaf where
 |lit (v:Value)
 |list (n:Nat) (cs:List Leaf)
def RdS (w:World) (S:Nat→Prop) (A:Option Addr) (xs:List Value):Prop:=
 xs≠[]→ ∃ad,A=some ad∧S ad.block∧ ∀j u,xs[j]?=some u→w.cell? (ad.add j)=some u
mutual
def Reads (w:World) (S:Nat→Prop):Leaf→Value→Prop
 | .lit u,v=>v=u∧u.oneCell'=true
 | .list n cs,v=>∃A c vs,v= .slice A n c∧n≤c∧c≤maxLen∧ReadsL w S cs vs∧RdS w S A vs
def ReadsL (w:World) (S:Nat→Prop):List Leaf→List Value→Prop
 |[],vs=>vs=[]
 |t::ts,vs=>∃v r,vs=v::r∧Reads w S t v∧ReadsL w S ts r
end
theorem RdS.keep {w w':World} {S S':Nat→Prop} {A:Option Addr} {xs:List Value} (h:RdS w S A xs) (hS: ∀b,S b→S' b) (hk: ∀p:Addr,S p.block→w'.cell? p=w.cell? p):RdS w' S' A xs:=fun hn=>by
 obtain ⟨ad,e,hb,hc⟩:=h hn;exact ⟨ad,e,hS _ hb,fun j u hu=>(hk _ (by rw [y55];exact hb)).trans (hc j u hu)⟩
mutual
theorem Reads.keep {w w':World} {S S':Nat→Prop} (hS: ∀b,S b→S' b) (hk: ∀p:Addr,S p.block→w'.cell? p=w.cell? p): ∀(t:Leaf) (v:Value),Reads w S t v→Reads w' S' t v
 | .lit u,v,h=>by simp only [Reads] at h ⊢;exact h
 | .list n cs,v,h=>by
  simp only [Reads] at h ⊢;obtain ⟨A,c,vs,h1,h2,h3,h4,h5⟩:=h;exact ⟨A,c,vs,h1,h2,h3,ReadsL.keep hS hk cs vs h4,h5.keep hS hk⟩
theorem ReadsL.keep {w w':World} {S S':Nat→Prop} (hS: ∀b,S b→S' b) (hk: ∀p:Addr,S p.block→w'.cell? p=w.cell? p): ∀(ts:List Leaf) (vs:List Value),ReadsL w S ts vs→ReadsL w' S' ts vs
 |[],vs,h=>by simp only [ReadsL] at h ⊢;exact h
 |t::ts,vs,h=>by
  simp only [ReadsL] at h ⊢;obtain ⟨v,r,h1,h2,h3⟩:=h;exact ⟨v,r,h1,Reads.keep hS hk t v h2,ReadsL.keep hS hk ts r h3⟩
end
theorem Reads.one {w:World} {S:Nat→Prop} {t:Leaf} {v:Value} (h:Reads w S t v):v.oneCell'=true:=by
 cases t with
 |lit u=>simp only [Reads] at h;obtain ⟨rfl,h⟩:=h;exact h
 |list n cs=>simp only [Reads] at h;obtain ⟨A,c,vs,rfl,_⟩:=h;rfl
theorem ReadsL.len {w:World} {S:Nat→Prop}: ∀{ts:List Leaf} {vs:List Value},ReadsL w S ts vs→vs.length=ts.length
 |[],vs,h=>by simp only [ReadsL] at h;subst h;rfl
 |t::ts,vs,h=>by
  simp only [ReadsL] at h;obtain ⟨v,r,rfl,_,h3⟩:=h;simp [ReadsL.len h3]
theorem ReadsL.one {w:World} {S:Nat→Prop}: ∀{ts:List Leaf} {vs:List Value},ReadsL w S ts vs→ ∀u∈vs,u.oneCell'=true
 |[],vs,h=>by simp only [ReadsL] at h;subst h;intro u hu;cases hu
 |t::ts,vs,h=>by
  simp only [ReadsL] at h;obtain ⟨v,r,rfl,h2,h3⟩:=h;intro u hu;rcases Qbd.1 hu with rfl|hu
  ·exact h2.one
  ·exact ReadsL.one h3 u hu
theorem ReadsL.at {w:World} {S:Nat→Prop}: ∀{ts:List Leaf} {vs:List Value} {k:Nat} {t:Leaf},ReadsL w S ts vs→ts[k]?=some t→ ∃v,vs[k]?=some v∧Reads w S t v
 |[],vs,k,t,h,hk=>by simp at hk
 |s::ts,vs,k,t,h,hk=>by
  simp only [ReadsL] at h;obtain ⟨v,r,rfl,h2,h3⟩:=h
  cases k with
  |zero=>simp only [List.getElem?_cons_zero] at hk;injection hk with hk;subst hk;exact ⟨v,rfl,h2⟩
  |succ k=>
   simp only [List.getElem?_cons_succ] at hk;obtain ⟨u,hu,hr⟩:=ReadsL.at h3 hk;exact ⟨u,by simpa using hu,hr⟩
theorem ReadsL.app {w:World} {S:Nat→Prop}: ∀{ts ts':List Leaf} {vs vs':List Value},ReadsL w S ts vs→ReadsL w S ts' vs'→ReadsL w S (ts++ts') (vs++vs')
 |[],ts',vs,vs',h,h'=>by simp only [ReadsL] at h;subst h;exact h'
 |t::ts,ts',vs,vs',h,h'=>by
  simp only [ReadsL] at h;obtain ⟨v,r,rfl,h2,h3⟩:=h;rw [List.cons_append,List.cons_append];simp only [ReadsL];exact ⟨v,r++vs',rfl,h2,h3.app h'⟩
theorem ReadsL.nil {w:World} {S:Nat→Prop}:ReadsL w S [] []:=by simp only [ReadsL]
theorem ReadsL.cons {w:World} {S:Nat→Prop} {t:Leaf} {ts:List Leaf} {v:Value} {vs:List Value} (h:Reads w S t v) (h':ReadsL w S ts vs):ReadsL w S (t::ts) (v::vs):=by
 simp only [ReadsL];exact ⟨v,vs,rfl,h,h'⟩
theorem y92 {w:World} {S:Nat→Prop} {u v:Value} (h:Reads w S (.lit u) v):v=u:=by simp only [Reads] at h;exact h.1
theorem y1z {w:World} {S:Nat→Prop} {u:Value} (h:u.oneCell'=true):Reads w S (.lit u) u:=by unfold Reads;exact ⟨rfl,h⟩
theorem y0k {w:World} {S:Nat→Prop} {n:Nat} {cs:List Leaf} {v:Value} (h:Reads w S (.list n cs) v): ∃A c vs,v= .slice A n c∧n≤c∧c≤maxLen∧ReadsL w S cs vs∧RdS w S A vs:=by simp only [Reads] at h;exact h
theorem y19 {w:World} {S:Nat→Prop} {n c:Nat} {A:Option Addr} {cs:List Leaf} {vs:List Value} (h1:n≤c) (h2:c≤maxLen) (h3:ReadsL w S cs vs) (h4:RdS w S A vs):Reads w S (.list n cs) (.slice A n c):=by
 simp only [Reads];exact ⟨A,c,vs,rfl,h1,h2,h3,h4⟩
theorem RdS.at {w:World} {S:Nat→Prop} {A:Option Addr} {xs:List Value} {k:Nat} {u:Value} (h:RdS w S A xs) (hk:xs[k]?=some u): ∃ad,A=some ad∧S ad.block∧w.cell? (ad.add k)=some u:=by
 obtain ⟨ad,e,hb,hc⟩:=h (by rintro rfl;simp at hk);exact ⟨ad,e,hb,hc k u hk⟩
theorem z6r {α:Type} {k:Nat} (f:α→List Leaf) (hf: ∀a,(f a).length=k): ∀(l:List α) (i j:Nat) (a:α),l[i]?=some a→j<k→(l.flatMap f)[i*k+j]?=(f a)[j]?
 |[],i,j,a,h,_=>by simp at h
 |b::l,i,j,a,h,hj=>by
  rw [List.flatMap_cons]
  cases i with
  |zero=>
   simp only [List.getElem?_cons_zero] at h;injection h with h;subst h;rw [Nat.zero_mul,Nat.zero_add,Qa9 (by rw [hf];exact hj)]
  |succ i=>
   simp only [List.getElem?_cons_succ] at h;rw [Qba (by rw [hf,Nat.succ_mul];omega),hf,show (i+1)*k+j - k=i*k+j by rw [Nat.succ_mul];omega];exact z6r f hf l i j a h hj
theorem y93 {α:Type} {k:Nat} (f:α→List Leaf) (hf: ∀a,(f a).length=k): ∀(l:List α),(l.flatMap f).length=l.length*k
 |[]=>by simp
 |b::l=>by rw [List.flatMap_cons,Qae,hf,y93 f hf l,List.length_cons,Nat.succ_mul];omega
def Lo (n:Nat):Nat→Prop:=fun b=>b<n
structure Row (w:World) (base:Nat) (e:TypeId) (k:Nat) (v:Value) (n:Nat) (cs:List Leaf) (vs:List Value):Prop where
 own:w.ownsRow base e k v n vs
 reads:ReadsL w (fun b=>b<w.heap.size∧v.ownBlock≠some b) cs vs
theorem Row.nil {w:World} {base e k:Nat}:Row w base e k (.slice none 0 0) 0 [] []:=⟨World.ownsRow_nil _ _ _ _,ReadsL.nil⟩
theorem Row.below {w w':World} {base e k n:Nat} {v:Value} {cs:List Leaf} {vs:List Value} (h:Row w base e k v n cs vs) (hb:Below w.heap.size w w'):Row w' base e k v n cs vs:=
 ⟨h.own.kept (row:=none) ⟨hb.os,hb.tape,hb.output,hb.size,fun i hi _=>hb.block i hi⟩ (by cases v.ownBlock<;>simp),
   ReadsL.keep (fun b hb'=>⟨Qap hb'.1 hb.size,hb'.2⟩) (fun p hp=>hb.cell hp.1) _ _ h.reads⟩
theorem Row.alloc {w:World} {base e k n:Nat} {v:Value} {cs:List Leaf} {vs:List Value} (h:Row w base e k v n cs vs) (o:Obj):Row (w.alloc o) base e k v n cs vs:=
 h.below ((Below.refl _ _).alloc (Qab _) o)
theorem Row.push {w w':World} {base e k n m:Nat} {v v':Value} {cs cs':List Leaf} {vs vs':List Value} (h:Row w base e k v n cs vs) (ho:w'.ownsRow base e k v' (n+m) (vs++vs')) (hg:w.grownBy w' v.ownBlock)
  (hat:v'.ownBlock=v.ownBlock∨v'.ownBlock=some w.heap.size) (hr:ReadsL w (fun b=>b<w.heap.size∧v.ownBlock≠some b) cs' vs'):Row w' base e k v' (n+m) (cs++cs') (vs++vs'):=by
 refine ⟨ho,ReadsL.keep (w:=w) (S:=fun b=>b<w.heap.size∧v.ownBlock≠some b) (fun b hb=>⟨Qap hb.1 hg.size,?_⟩) (fun p hp=>World.cell?_of_block (hg.block p.block hp.1 (fun e=>hp.2 e.symm))) _ _ (h.reads.app hr)⟩;rcases hat with hat|hat
 ·rw [hat];exact hb.2
 ·rw [hat];intro e;injection e with e;omega
theorem Row.list {w:World} {base e k n:Nat} {v:Value} {cs:List Leaf} {vs:List Value} (h:Row w base e k v n cs vs):Reads w (Lo w.heap.size) (.list n cs) v:=by
 obtain ⟨A,c,rfl,h1,h2⟩:=y0e h.own;refine y19 h1 h2 (ReadsL.keep (fun b hb=>hb.1) (fun p _=>rfl) _ _ h.reads) ?_;intro hn;obtain ⟨ad,e,hb,hc⟩:=Rd.of_own h.own hn;exact ⟨ad,e,hb,hc⟩
end Go.Proofs.YtbpgkkoeehopjaaGreat.tree
namespace Go.Proofs.YtbpgkkoeehopjaaGreat.gram
open tree
abbrev Txt:=List UInt8
def str (l:Txt):ByteArray:=⟨l.toArray⟩
theorem str_data (l:Txt):(str l).data.toList=l:=by simp [str]
theorem str_of (s:ByteArray):str s.data.toList=s:=by simp [str]
theorem y17 (l:Txt):(str l).size=l.length:=by simp [str,ByteArray.size]
theorem z6s (l:Txt):(str l).toList=l:=by rw [ByteArray.toList_eq];exact str_data l
theorem y9e (l:Txt) (a b:Nat):(str l).extract a b=str ((l.drop a).take (b - a)):=by
 have h:((str l).extract a b).data.toList=(l.drop a).take (b - a):=by
  rw [ByteArray.data_extract,Array.toList_extract,str_data,List.extract_eq_take_drop]
 rw [←h,str_of]
theorem z09 {l:Txt} {k:Nat} (h:k<l.length) (h':k<(str l).size):(str l)[k]=l[k]:=by
 show l.toArray[k]'(by simpa using h)=l[k]
 exact List.getElem_toArray _
theorem y5e (a b:Txt):((str a).toList==(str b).toList)=decide (a=b):=by rw [z6s,z6s];by_cases h:a=b<;>simp [h]
theorem y0m (a b:Txt):((str a).toList==b)=decide (a=b):=by rw [z6s];by_cases h:a=b<;>simp [h]
def y0t (s:Txt):Nat→Nat×List Txt
 |0=>(0,[])
 |k+1=>
  if k<s.length∧s[k]?≠some 32 then y0t s k
  else (k+1,if (y0t s k).1<k then (y0t s k).2++[(s.drop (y0t s k).1).take (k - (y0t s k).1)] else (y0t s k).2)
def y3w (s:Txt):List Txt:=(y0t s (s.length+1)).2
theorem q3t {s:Txt} {k:Nat} (h:k<s.length∧s[k]?≠some 32):y0t s (k+1)=y0t s k:=by rw [y0t,if_pos h]
theorem x8i {s:Txt} {k:Nat} (h: ¬(k<s.length∧s[k]?≠some 32)) (h2:(y0t s k).1<k):y0t s (k+1)=(k+1,(y0t s k).2++[(s.drop (y0t s k).1).take (k - (y0t s k).1)]):=by rw [y0t,if_neg h,if_pos h2]
theorem x5o {s:Txt} {k:Nat} (h: ¬(k<s.length∧s[k]?≠some 32)) (h2: ¬(y0t s k).1<k):y0t s (k+1)=(k+1,(y0t s k).2):=by rw [y0t,if_neg h,if_neg h2]
theorem y94 (s:Txt): ∀k,(y0t s k).1≤k∧(y0t s k).2.length≤k
 |0=>⟨Qab _,Qab _⟩
 |k+1=>by
  have ih:=y94 s k;rw [y0t];split
  ·omega
  ·refine ⟨Qab _,?_⟩
   split<;>simp<;>omega
def strL (l:List Txt):List Leaf:=l.map fun b=>.lit (.string (str b))
theorem x3j (l l':List Txt):strL (l++l')=strL l++strL l':=by simp [strL]
theorem q7z {l:List Txt} {k:Nat} {x:Txt} (h:l[k]?=some x):(strL l)[k]?=some (.lit (.string (str x))):=by simp [strL,h]
structure RuleD where
 name:Txt
 choices:List (List Txt)
def chL (c:List (List Txt)):List Leaf:=c.map fun l=>.list l.length (strL l)
theorem x8j (a b:List (List Txt)):chL (a++b)=chL a++chL b:=by simp [chL]
theorem q99 {c:List (List Txt)} {k:Nat} {x:List Txt} (h:c[k]?=some x):(chL c)[k]?=some (.list x.length (strL x)):=by simp [chL,h]
def x8k (r:RuleD):List Leaf:=[.lit (.string (str r.name)),.list r.choices.length (chL r.choices)]
def y3x (R:List RuleD):List Leaf:=R.flatMap x8k
def y01:List RuleD→Txt→List (List Txt)
 |[],_=>[]
 |r::R,s=>if r.name=s then r.choices else y01 R s
theorem y7p {R:List RuleD} {s:Txt}: ∀{k:Nat},(∀j,j<k→ ∀r,R[j]?=some r→r.name≠s)→y01 R s=y01 (R.drop k) s
 |0,_=>rfl
 |k+1,h=>by
  cases R with
  |nil=>rfl
  |cons r R=>
   rw [y01,if_neg (h 0 (by omega) r rfl),List.drop_succ_cons];exact y7p fun j hj x hx=>h (j+1) (by omega) x (by simpa using hx)
theorem x5p {R:List RuleD} {s:Txt} {k:Nat} {r:RuleD} (h: ∀j,j<k→ ∀r,R[j]?=some r→r.name≠s) (hk:R[k]?=some r) (he:r.name=s):y01 R s=r.choices:=by
 obtain ⟨hk',rfl⟩:=Qac.1 hk;rw [y7p h,Qa1 hk',y01,if_pos he]
theorem z8m {R:List RuleD} {s:Txt} (h: ∀j,j<R.length→ ∀r,R[j]?=some r→r.name≠s):y01 R s=[]:=by
 rw [y7p h,List.drop_length];rfl
def y06 (s:Txt):Int:=if s=[40]∨s=[91]∨s=[123] then 1 else if s=[41]∨s=[93]∨s=[125] then -1 else 0
def y2a (s:Txt):Bool:=match s with|[]=>false|c::_=>decide (65≤c.toNat)&&decide (c.toNat≤90)
end Go.Proofs.YtbpgkkoeehopjaaGreat.gram
namespace Go.Proofs.YtbpgkkoeehopjaaGreat.enc
open Go.RowKit words
def encL (zs:List Int):List Int:=zs.flatMap Lib.encodeRuneZ
def okL (zs:List Int):Bool:=zs.all Lib.validRune
def encS (zs:List Int):ByteArray:=if okL zs=true then strOfNums (encL zs) else ⟨#[]⟩
theorem z8n {zs:List Int} {k:Nat} {z:Int} (h:zs[k]?=some z):encL (zs.take (k+1))=encL (zs.take k)++Lib.encodeRuneZ z:=by
 obtain ⟨hk,rfl⟩:=Qac.1 h;unfold encL;rw [Qbk hk,Qbu];simp only [List.flatMap_cons,List.flatMap_nil,List.append_nil]
theorem q3u {zs:List Int} {k:Nat} {z:Int} (h:zs[k]?=some z):okL (zs.take (k+1))=(okL (zs.take k)&&Lib.validRune z):=by
 obtain ⟨hk,rfl⟩:=Qac.1 h;unfold okL;rw [Qbk hk,List.all_append];simp only [List.all_cons,List.all_nil,Bool.and_true]
theorem x8l {zs:List Int} {k:Nat} {z:Int} (h:zs[k]?=some z) (hv:Lib.validRune z=false):okL zs=false:=by
 unfold okL;rw [List.all_eq_false];exact ⟨z,Qaf h,by rw [hv];decide⟩
theorem q70 (zs:List Int) (k:Nat) (hk:k≤zs.length):(encL (zs.take k)).length≤4*k:=by
 induction k with
 |zero=>simp [encL]
 |succ k ih=>
  have h:zs[k]?=some zs[k]:=Qad hk;rw [z8n h,Qae];have:=ih (by omega);have:=(Lib.encodeRuneZ_length zs[k]).2;omega
theorem str_rd {P:Program} {w:World} {B:Nat} {A:Option Addr} {n c:Nat} {zs:List Int} (src e dst:TypeId) (hs:P.underlying src=some (.slice e)) (he:P.underlying e=some (.int .u8)) (hd:P.underlying dst=some .string)
  (hl:zs.length=n) (h:Rd w B A (zs.map (Value.int .u8))):(convert src dst (.slice A n c)).run P w= .ok (.string (strOfNums zs)) w:=by
 have hl':(zs.map (Value.int .u8)).length=n:=by simpa using hl
 rcases A with _|ad
 ·have hz:zs=[]:=by
   rcases zs with _|⟨x,r⟩
   ·rfl
   ·obtain ⟨ad,h,_⟩:=h (by simp);cases h
  subst hz;rw [run_convert_bytes_nil w src e hs he n c dst hd];rfl
 ·have hc:(loadCells ad n).run P w= .ok (zs.map (Value.int .u8)).toArray w:=by
   have:=run_loadCells_list (P:=P) w ad (zs.map (Value.int .u8)) (fun j v hj=>by
    obtain ⟨ad',e',_,hc⟩:=h (by rintro h0;rw [h0] at hj;simp at hj);injection e' with e';subst e'
    exact hc j v hj)
   rwa [hl'] at this
  rw [run_convert_bytes_string w src dst e _ n c hs he hd,run_bytesToString w ad n c zs hc,foldl_push_bytes];simp [strOfNums,ByteArray.empty,ByteArray.emptyWithCapacity];rfl
theorem y95:(Tryz.prog.info? 21).map (fun i=>(i.zero,i.size,i.bytes))=some (some (.int .i32 0),1,4):=by kernel_rfl
theorem x8m:(Tryz.prog.info? 5).map (fun i=>(i.zero,i.size,i.bytes))=some (some (.int .u8 0),1,1):=by kernel_rfl
theorem x8n {a b:ByteArray} {c d:Bool} (h:a=b) (k:c=d):Ending.returned (.tuple #[.string a,.bool c])= .returned (.tuple #[.string b,.bool d]):=by rw [h,k]
theorem q71 {zs:List Int} (h:okL zs=true):encS zs=strOfNums (encL zs):=if_pos h
theorem q3v {zs:List Int} (h:okL zs=false):encS zs=⟨#[]⟩:=if_neg (by rw [h];decide)
theorem y46 (c:Int) (w:World):
  Calls Tryz.prog 190 #[.int .i32 c] w fun e w'=>e= .returned (.bool (Lib.validRune c))∧w=w':=by
 have R: ∀b:Bool,Lib.validRune c=b→Ending.returned (.bool b)= .returned (.bool (Lib.validRune c)):=fun b h=>by rw [h]
 have dec: ∀p:Prop,[Decidable p]→(((0≤c∧c<0xD800)∨(0xDFFF<c∧c≤0x10FFFF))↔p)→Lib.validRune c=decide p:=fun p _ h=>by unfold Lib.validRune;exact decide_eq_decide.2 h
 by_cases a0:c<0
 ·go_enter Tryz.func190,Tryz.ntmps190
  go_wp2
  go_ret;exact ⟨R _ (Qa4 (by omega)),rfl⟩
 by_cases a1:c<55296
 ·go_enter Tryz.func190,Tryz.ntmps190
  go_wp2
  go_ret;exact ⟨(by first|exact R _ (Qa5 (by omega))|exact R _ (dec _ (by omega))),rfl⟩
 by_cases a2:c≤57343
 ·go_enter Tryz.func190,Tryz.ntmps190
  go_wp2
  go_ret;exact ⟨R _ (Qa4 (by omega)),rfl⟩
 by_cases a3:c≤1114111
 ·go_enter Tryz.func190,Tryz.ntmps190
  go_wp2
  go_ret;exact ⟨(by first|exact R _ (Qa5 (by omega))|exact R _ (dec _ (by omega))),rfl⟩
 ·go_enter Tryz.func190,Tryz.ntmps190
  go_wp2
  go_ret;exact ⟨R _ (Qa4 (by omega)),rfl⟩
def putL (c:Int):List Int:=if Lib.validRune c=true then Lib.encodeRuneZ c else []
theorem y3f {B:Nat} (w:World) (cs:List Value) (t:TypeId) (hB:w.heap.size<B):Rd (w.alloc (.cells cs.toArray t)) B (some ⟨w.heap.size,0,none⟩) cs:=fun _=>
 ⟨_,rfl,hB,fun j u hu=>by
   have hadd:(⟨w.heap.size,0,none⟩:Addr).add j=⟨w.heap.size,j,none⟩:=by unfold Addr.add;split<;>simp_all
   rw [hadd,cell_of_row _ w.heap.size j cs.toArray t (0,0) (heap_alloc_new w _)]
   simpa using hu⟩
def z6t (c:Int) (w:World) (e:Ending) (w':World):Prop:=
 ∃A k,e= .returned (.slice A (putL c).length k)∧Rd w' w'.heap.size A ((putL c).map (Value.int .u8))∧Below w.heap.size w w'
theorem y96 {c:Int} {w:World} (L:List Int) (k:Nat) (h:putL c=L):
  z6t c w (.returned (.slice (some ⟨w.heap.size,0,none⟩) L.length k)) (w.alloc (.cells (L.map (Value.int .u8)).toArray 5)):=by
 subst h;exact ⟨_,k,rfl,y3f w _ _ (by simp),(Below.refl _ _).alloc (Qab _) _⟩
theorem q3w {c:Int} {w:World} (h:putL c=[]):z6t c w (.returned (.slice none 0 0)) w:=by
 unfold z6t;rw [h];exact ⟨none,0,rfl,Rd.nil,Below.refl _ _⟩
theorem x8o (c:Int) (w:World):Calls Tryz.prog 187 #[.int .i32 c] w (z6t c w):=by
 by_cases hv:Lib.validRune c=true
 ·have hp:putL c=Lib.encodeRuneZ c:=if_pos hv;have hr:(0≤c∧c<55296)∨(57343<c∧c≤1114111):=Qa6 hv
  have c0:0≤c:=by omega
  have c1:c≤1114111:=by omega
  have HP:=hide hp;have HR:=hide hr;clear hp hr;by_cases b1:c<128
  ·go_enter Tryz.func187,Tryz.ntmps187
   go_wp2_with (go_at_call 190;refine (y46 _ _).mono ?_;rintro e w' ⟨rfl,rfl⟩)
   go_ret;exact y96 [c] 1 (HP.out.trans (Lib.encodeRuneZ_one c0 (by omega)))
  by_cases b2:c<2048
  ·go_enter Tryz.func187,Tryz.ntmps187
   go_wp2_with (go_at_call 190;refine (y46 _ _).mono ?_;rintro e w' ⟨rfl,rfl⟩)
   go_ret;exact y96 [192+c / 64,128+c % 64] 2 (HP.out.trans (Lib.encodeRuneZ_two (by omega) (by omega)))
  by_cases b3:c<65536
  ·go_enter Tryz.func187,Tryz.ntmps187
   go_wp2_with (go_at_call 190;refine (y46 _ _).mono ?_;rintro e w' ⟨rfl,rfl⟩)
   go_ret;exact y96 [224+c / 4096,128+c / 64 % 64,128+c % 64] 3 (HP.out.trans (Lib.encodeRuneZ_three (by have:=HR.out;omega)))
  ·go_enter Tryz.func187,Tryz.ntmps187
   go_wp2_with (go_at_call 190;refine (y46 _ _).mono ?_;rintro e w' ⟨rfl,rfl⟩)
   go_ret;exact y96 [240+c / 262144,128+c / 4096 % 64,128+c / 64 % 64,128+c % 64] 4 (HP.out.trans (Lib.encodeRuneZ_four (by omega) (by omega)))
 ·have hp:putL c=[]:=if_neg hv;have HP:=hide hp
  have hv':Lib.validRune c=false:=by simpa using hv
  clear hp hv;go_enter Tryz.func187,Tryz.ntmps187
  go_wp2_with (go_at_call 190;refine (y46 _ _).mono ?_;rintro e w' ⟨rfl,rfl⟩)
  go_ret;exact q3w HP.out
theorem x8p {c:Int} (h:Lib.validRune c=true):putL c=Lib.encodeRuneZ c:=if_pos h
theorem q3x {c:Int} (h:Lib.validRune c=false):putL c=[]:=if_neg (by rw [h];decide)
theorem y41 (A:Option Addr) (n c B:Nat) (zs:List Int) (w:World) (hr:Rd w B A (zs.map (Value.int .i32))) (hB:B≤w.heap.size) (hl:zs.length=n) (hn:n*4≤140737488351232):
  Calls Tryz.prog 171 #[.slice A n c] w fun e w'=>e= .returned (.tuple #[.string (encS zs),.bool (okL zs)])∧Below w.heap.size w w':=by
 obtain ⟨i0,hi0,hz0,hz1,hz2⟩:=info_parts x8m;have HL:=hide hl;clear hl;go_enter Tryz.func171,Tryz.ntmps171
 go_wp2
 go_loopw [4,5] (fun v i wr=>∃k:Nat,k≤n∧i= .int .i64 k∧wr.ownsRow w.heap.size 5 1 v (encL (zs.take k)).length ((encL (zs.take k)).map (Value.int .u8))∧Below w.heap.size w wr∧Hid (okL (zs.take k)=true)) (fun _ i _=>n - (intOf i).toNat)
 case atStart=>exact ⟨0,Qak _,rfl,World.ownsRow_nil _ _ _ _,Below.refl _ _,rfl⟩
 case round=>
  obtain ⟨k,hk,rfl,hown,hb,hok⟩:=hrel;by_cases hlt:k<n
  ·obtain ⟨ad,z,rfl,hz,had,hc⟩:=(hr.below' hb hB).i32 (k:=k) (by rw [HL.out];exact hlt);have hle:=q70 zs k (by rw [HL.out];exact hk);obtain ⟨Av,cv,rfl,_,_⟩:=y0e hown;have HZ:=hide hz;clear hz
   go_wp2_with fail
   refine (x8o _ _).mono ?_;rintro e w1 ⟨A1,k1,rfl,hr1,hb1⟩;have hbb:=hb.trans (hb1.mono hb.size)
   have hown1:w1.ownsRow w.heap.size 5 1 (.slice Av (encL (zs.take k)).length cv) (encL (zs.take k)).length ((encL (zs.take k)).map (Value.int .u8)):=by
    refine hown.kept (row:=none) ⟨hb1.os,hb1.tape,hb1.output,hb1.size,fun i hi _=>hb1.block i hi⟩ ?_
    cases (Value.slice Av (encL (zs.take k)).length cv).ownBlock<;>simp
   by_cases hv:Lib.validRune z=true
   ·have hlen:=Lib.encodeRuneZ_length z
    have hpl:(putL z).length=(Lib.encodeRuneZ z).length:=by rw [x8p hv]
    have hpos:1≤(putL z).length:=by omega
    have hpos4:(putL z).length≤4:=by omega
    have hne:(((putL z).length:Int)==0)=false:=by rw [Qa3];omega
    have HPL:=hide (x8p hv);clear hpl hlen
    go_wp2_with (at_builtin;refine y0b _ rfl _ _ 86 rfl w.heap.size 5 i0 (.int .u8 0) 1 1 Tryz.underlying86 hi0 hz0 hz1 hz2 rfl (by decide) _ _ _ rfl hown1 _ A1 (putL z).length k1 _ rfl ?c1 hr1 (q98 _) ?c2 ?c3 hbb.size ?_)
    case c1=>rw [Qay,Nat.mul_one]
    case c2=>simp only [maxLen];omega
    case c3=>omega
    intro v2 w2 hown2 hg2 _;have hb2:=y0d hbb hown1 (Qab _) hg2 hbb.size
    go_wp2_with fail
    go_roundw
    case rel=>
     refine ⟨k+1,by omega,by go_num,?_,hb2,?_⟩
     ·rw [z8n HZ.out,Qae,Qas,←HPL.out];exact hown2
     ·show okL (zs.take (k+1))=true
      rw [q3u HZ.out,hok.out,hv];rfl
    case measure=>simp [intOf];omega
   ·have hv':Lib.validRune z=false:=by simpa using hv
    have hz:(putL z).length=0:=by rw [q3x hv'];rfl
    have hzl:(((putL z).length:Int)==0)=true:=by rw [hz];rfl
    clear hv hz
    go_wp2_with fail
    go_ret2
    exact ⟨x8n (q3v (x8l HZ.out hv')).symm (x8l HZ.out hv').symm,hbb⟩
  ·have ek:zs.take k=zs:=Qaj (by rw [HL.out];omega);rw [ek] at hown hok;have hok1:=hok.out;have Hok:=hide hok1;clear hok1 ek hok;obtain ⟨A',c',rfl,_,_⟩:=y0e hown;have hcv:=str_rd (P:=Tryz.prog) (c:=c') 86 5 9 Tryz.underlying86 Tryz.underlying5 Tryz.underlying9 rfl (Rd.of_own hown)
   go_wp2
   go_ret2
   exact ⟨x8n (q71 Hok.out).symm Hok.out.symm,hb⟩
end Go.Proofs.YtbpgkkoeehopjaaGreat.enc
namespace Go.Proofs.YtbpgkkoeehopjaaGreat.gram
open Go.RowKit words enc tree
theorem z6u:(Tryz.prog.info? 9).map (fun i=>(i.zero,i.size,i.bytes))=some (some (.string ⟨#[]⟩),1,16):=by kernel_rfl
theorem z6v {b:ByteArray}: ∀u∈[Value.string b],u.oneCell'=true:=fun u hu=>by simp at hu;subst hu;rfl
set_option maxRecDepth 100000 in
set_option maxHeartbeats 1000000 in
theorem z28 (s:Txt) (w:World) (hs:s.length≤1099511627776):
  Calls Tryz.prog 143 #[.string (str s)] w fun e w'=>∃v vs,e= .returned v∧Row w' w.heap.size 9 1 v (y3w s).length (strL (y3w s)) vs∧Below w.heap.size w w':=by
 obtain ⟨i0,hi0,hz0,hz1,hz2⟩:=info_parts z6u;have hsz:=y17 s;go_enter Tryz.func143,Tryz.ntmps143
 go_wp2_with fail
 go_loopw [3,4,5] (fun v f i wr=>∃(k:Nat) (vs:List Value),k≤s.length+1∧i= .int .i64 k∧f= .int .i64 (y0t s k).1∧Row wr w.heap.size 9 1 v (y0t s k).2.length (strL (y0t s k).2) vs∧Below w.heap.size w wr) (fun _ _ i _=>s.length+1 - (intOf i).toNat)
 case atStart=>exact ⟨0,[],Qak _,rfl,rfl,Row.nil,Below.refl _ _⟩
 case round=>
  obtain ⟨k,vs,hk,rfl,rfl,hrow,hb⟩:=hrel;have hle:=y94 s k;obtain ⟨A,c,rfl,_,_⟩:=y0e hrow.own;by_cases hlt:k<s.length+1
  ·have hkI:(k:Int)≤(s.length:Int):=by omega
   by_cases hin:k<s.length∧s[k]?≠some 32
   ·have E1:=hide (q3t hin);have h1:=hin.1
    have h1I:(k:Int)<(s.length:Int):=by omega
    have h2: ∀hq:k<(str s).size,((((str s)[k]'hq).toNat:Int) !=32)=true:=fun hq=>by
     rw [z09 h1 hq,Qa8];intro e;exact hin.2 (by rw [Qad h1];exact congrArg some (Qb1.1 (show _=32 by omega)))
    have h2:=h2 (by rw [hsz];exact h1);clear hin
    go_wp2_with fail
    go_roundw
    case rel=>exact ⟨k+1,vs,by omega,by go_num,by rw [E1.out],by rw [E1.out];exact hrow,hb⟩
    case measure=>simp [intOf];omega
   ·have hg: ∀hq:k<(str s).size,((((str s)[k]'hq).toNat:Int) !=32)=false:=fun hq=>by
     have h1:k<s.length:=by rw [←hsz];exact hq
     have h3:s[k]?=some 32:=Qbl fun h=>hin ⟨h1,h⟩;rw [Qad h1] at h3;injection h3 with h3;have e:=(z09 h1 hq).trans h3;rw [e];rfl
    by_cases hf:(y0t s k).1<k
    ·have E1:=hide (x8i hin hf)
     have hfI:((y0t s k).1:Int)<(k:Int):=by omega
     have HG:=hide hg
     have hfk:(y0t s k).1≤k:=by omega
     have hks:k≤(str s).size:=by omega
     clear hin hg;rcases Qbm k s.length with h1|h1
     ·have h1I:(k:Int)<(s.length:Int):=by omega
      have h2:=HG.out (by rw [hsz];exact h1)
      go_wp2_with (at_builtin;refine y0b _ rfl _ _ 27 rfl w.heap.size 9 i0 (.string ⟨#[]⟩) 1 16 Tryz.underlying27 hi0 hz0 hz1 hz2 rfl (by decide) _ _ _ rfl (hrow.own.alloc _) _ _ 1 1 [_] rfl (by rfl) (y3f _ [_] _ (Qaw _)) z6v (by simp only [maxLen];omega) (by omega) (Qah hb.size (by simp)) ?_)
      intro v2 w2 hown2 hg2 hat2;have hrow2:=(hrow.alloc (.cells #[.string ((str s).extract (y0t s k).1 k)] 9)).push hown2 hg2 (hat2.imp id fun e=>e.trans (by simp)) (ReadsL.cons (y1z rfl) ReadsL.nil);have hb2:=y0d (hb.alloc hb.size _) (hrow.own.alloc _) (Qab _) hg2 (Qah hb.size (by simp))
      go_wp2_with fail
      go_roundw
      case rel=>
       refine ⟨k+1,vs++[.string ((str s).extract (y0t s k).1 k)],by omega,by go_num,by rw [E1.out];rfl,?_,hb2⟩;rw [E1.out,Qae,x3j];rw [y9e] at hrow2 ⊢;exact hrow2
      case measure=>simp [intOf];omega
     ·have h1I: ¬((k:Int)<(s.length:Int)):=by omega
      go_wp2_with (at_builtin;refine y0b _ rfl _ _ 27 rfl w.heap.size 9 i0 (.string ⟨#[]⟩) 1 16 Tryz.underlying27 hi0 hz0 hz1 hz2 rfl (by decide) _ _ _ rfl (hrow.own.alloc _) _ _ 1 1 [_] rfl (by rfl) (y3f _ [_] _ (Qaw _)) z6v (by simp only [maxLen];omega) (by omega) (Qah hb.size (by simp)) ?_)
      intro v2 w2 hown2 hg2 hat2;have hrow2:=(hrow.alloc (.cells #[.string ((str s).extract (y0t s k).1 k)] 9)).push hown2 hg2 (hat2.imp id fun e=>e.trans (by simp)) (ReadsL.cons (y1z rfl) ReadsL.nil);have hb2:=y0d (hb.alloc hb.size _) (hrow.own.alloc _) (Qab _) hg2 (Qah hb.size (by simp))
      go_wp2_with fail
      go_roundw
      case rel=>
       refine ⟨k+1,vs++[.string ((str s).extract (y0t s k).1 k)],by omega,by go_num,by rw [E1.out];rfl,?_,hb2⟩;rw [E1.out,Qae,x3j];rw [y9e] at hrow2 ⊢;exact hrow2
      case measure=>simp [intOf];omega
    ·have E1:=hide (x5o hin hf)
     have hfI: ¬(((y0t s k).1:Int)<(k:Int)):=by omega
     have HG:=hide hg
     have hfk:(y0t s k).1≤k:=by omega
     have hks:k≤(str s).size:=by omega
     clear hin hg;rcases Qbm k s.length with h1|h1
     ·have h1I:(k:Int)<(s.length:Int):=by omega
      have h2:=HG.out (by rw [hsz];exact h1)
      go_wp2_with fail
      go_roundw
      case rel=>exact ⟨k+1,vs,by omega,by go_num,by rw [E1.out];rfl,by rw [E1.out];exact hrow,hb⟩
      case measure=>simp [intOf];omega
     ·have h1I: ¬((k:Int)<(s.length:Int)):=by omega
      go_wp2_with fail
      go_roundw
      case rel=>exact ⟨k+1,vs,by omega,by go_num,by rw [E1.out];rfl,by rw [E1.out];exact hrow,hb⟩
      case measure=>simp [intOf];omega
  ·obtain rfl:k=s.length+1:=by omega
   have hkI: ¬(((s.length+1:Nat):Int)≤(s.length:Int)):=by omega
   go_wp2_with fail
   go_ret;exact ⟨_,rfl,⟨vs,hrow⟩,hb⟩
set_option maxRecDepth 100000 in
theorem y29 (s:Txt) (w:World):
  Calls Tryz.prog 142 #[.string (str s)] w fun e w'=>e= .returned (.int .i64 (y06 s))∧w'=w:=by
 have e1:=y0m s [40];have e2:=y0m s [91];have e3:=y0m s [123];have e4:=y0m s [41];have e5:=y0m s [93];have e6:=y0m s [125]
 have hb:y06 s=if s=[40]∨s=[91]∨s=[123] then 1 else if s=[41]∨s=[93]∨s=[125] then -1 else 0:=rfl
 have HB:=hide hb;clear hb;by_cases c1:s=[40]
 ·subst c1;go_enter Tryz.func142,Tryz.ntmps142
  go_wp2_with fail
  go_ret;exact ⟨rfl,rfl⟩
 by_cases c2:s=[91]
 ·subst c2;go_enter Tryz.func142,Tryz.ntmps142
  go_wp2_with fail
  go_ret;exact ⟨rfl,rfl⟩
 by_cases c3:s=[123]
 ·subst c3;go_enter Tryz.func142,Tryz.ntmps142
  go_wp2_with fail
  go_ret;exact ⟨rfl,rfl⟩
 by_cases c4:s=[41]
 ·subst c4;go_enter Tryz.func142,Tryz.ntmps142
  go_wp2_with fail
  go_ret;exact ⟨rfl,rfl⟩
 by_cases c5:s=[93]
 ·subst c5;go_enter Tryz.func142,Tryz.ntmps142
  go_wp2_with fail
  go_ret;exact ⟨rfl,rfl⟩
 by_cases c6:s=[125]
 ·subst c6;go_enter Tryz.func142,Tryz.ntmps142
  go_wp2_with fail
  go_ret;exact ⟨rfl,rfl⟩
 ·have hz:y06 s=0:=by rw [HB.out];simp [c1,c2,c3,c4,c5,c6]
  rw [hz];simp only [c1,c2,c3,c4,c5,c6,decide_false] at e1 e2 e3 e4 e5 e6;clear hz c1 c2 c3 c4 c5 c6;go_enter Tryz.func142,Tryz.ntmps142
  go_wp2_with fail
  go_ret;exact ⟨rfl,rfl⟩
theorem z6w {w:World} {ad:Addr} {i j:Nat} {u:Value} (h:w.cell? (ad.add (i+(j+1)))=some u):w.cell? ⟨(ad.add i).block,(ad.add i).off+(j+1),none⟩=some u:=by
 rw [←h]
 congr 1
 unfold Addr.add
 by_cases hi:i=0<;>simp [hi,Nat.add_assoc]
theorem z29 {w:World} {S:Nat→Prop}:Reads w S (.list 0 []) (.slice none 0 0):=y19 (Qab _) (Qak _) ReadsL.nil (fun h=>absurd rfl h)
theorem q72 {w:World} {S:Nat→Prop} {R:List RuleD} {A:Option Addr} {vs:List Value} {k:Nat} {r:RuleD} (h:ReadsL w S (y3x R) vs) (hA:RdS w S A vs) (hk:R[k]?=some r):
  ∃ad v,A=some ad∧w.cell? (ad.add (k*2))=some (.string (str r.name))∧w.cell? ⟨(ad.add (k*2)).block,(ad.add (k*2)).off+1,none⟩=some v∧Reads w S (.list r.choices.length (chL r.choices)) v:=by
 have f0:=z6r (k:=2) x8k (fun _=>rfl) R k 0 r hk (by omega);have f1:=z6r (k:=2) x8k (fun _=>rfl) R k 1 r hk (by omega);obtain ⟨v0,hv0,h0⟩:=h.at f0;obtain ⟨v1,hv1,h1⟩:=h.at f1;have e0:=y92 h0;subst e0;obtain ⟨ad,rfl,_,c0⟩:=hA.at hv0;obtain ⟨ad',e1,_,c1⟩:=hA.at hv1;injection e1 with e1;subst e1;exact ⟨ad,v1,rfl,c0,z6w c1,h1⟩
theorem z11 {w:World} {S:Nat→Prop} {l:List Txt} {A:Option Addr} {vs:List Value} {k:Nat} {x:Txt} (h:ReadsL w S (strL l) vs) (hA:RdS w S A vs) (hk:l[k]?=some x): ∃ad,A=some ad∧w.cell? (ad.add k)=some (.string (str x)):=by
 obtain ⟨v,hv,hr⟩:=h.at (q7z hk);have e:=y92 hr;subst e;obtain ⟨ad,rfl,_,hc⟩:=hA.at hv;exact ⟨ad,rfl,hc⟩
set_option maxRecDepth 100000 in
theorem y97 (s:Txt) (w:World) (hs:0<s.length):
  Calls Tryz.prog 139 #[.string (str s)] w fun e w'=>e= .returned (.bool (y2a s))∧w'=w:=by
 obtain ⟨c,l,rfl⟩: ∃c l,s=c::l:=by cases s with|nil=>simp at hs|cons c l=>exact ⟨c,l,rfl⟩
 have hsz:=y17 (c::l);have h0: ∀hq:0<(str (c::l)).size,(str (c::l))[0]'hq=c:=fun hq=>z09 (l:=c::l) (by simp) hq
 have hp:0<(str (c::l)).size:=by rw [hsz];simp
 have hg:=h0 hp;have hr:y2a (c::l)=(decide (65≤c.toNat)&&decide (c.toNat≤90)):=rfl;rw [hr];clear hr hs h0;by_cases h1:65≤c.toNat
 ·by_cases h2:c.toNat≤90
  ·have h1I:(65:Int)≤(c.toNat:Int):=by omega
   have h2I:(c.toNat:Int)≤90:=by omega
   go_enter Tryz.func139,Tryz.ntmps139
   go_wp2_with fail
   go_ret;simp [h1,h2]
  ·have h1I:(65:Int)≤(c.toNat:Int):=by omega
   have h2I: ¬((c.toNat:Int)≤90):=by omega
   go_enter Tryz.func139,Tryz.ntmps139
   go_wp2_with fail
   go_ret;simp [h1,h2]
 ·have h1I: ¬((65:Int)≤(c.toNat:Int)):=by omega
  go_enter Tryz.func139,Tryz.ntmps139
  go_wp2_with fail
  go_ret;simp [h1]
set_option maxRecDepth 100000 in
set_option maxHeartbeats 1000000 in
theorem y9f (S:Nat→Prop) (R:List RuleD) (A:Option Addr) (n c:Nat) (s:Txt) (w:World) (hR:Reads w S (.list R.length (y3x R)) (.slice A n c)):
  Calls Tryz.prog 172 #[.slice A n c,.string (str s)] w fun e w'=>∃v,e= .returned v∧w'=w∧Reads w S (.list (y01 R s).length (chL (y01 R s))) v:=by
 obtain ⟨A',c',vs,he,hn,hc,hrl,hrd⟩:=y0k hR;injection he with e1 e2 e3;subst e1 e2 e3;obtain ⟨n,hn'⟩: ∃n,R.length=n:=⟨_,rfl⟩;have HN:=hide hn';rw [hn'] at hn ⊢
 have hn63:n≤9223372036854775807:=by simp only [maxLen] at hc;omega
 clear hR hn';go_enter Tryz.func172,Tryz.ntmps172
 go_wp2_with fail
 go_loop [5] (fun i=>∃k:Nat,k≤n∧i= .int .i64 k∧Hid (∀j,j<k→ ∀r,R[j]?=some r→r.name≠s)) (fun i=>n - (intOf i).toNat)
 case atStart=>exact ⟨0,Qak _,rfl,fun j hj=>by omega⟩
 case round=>
  obtain ⟨k,hk,rfl,hno⟩:=hrel;by_cases hlt:k<n
  ·have hkI:(k:Int)<(n:Int):=by omega
   obtain ⟨r,hr⟩: ∃r,R[k]?=some r:=⟨_,Qad (by rw [HN.out];exact hlt)⟩;obtain ⟨ad,v,rfl,c0,c1,hv⟩:=q72 hrl hrd hr;by_cases heq:r.name=s
   ·have e1:((str r.name).toList==(str s).toList)=true:=by rw [y5e];exact Qa5 heq
    have hch:=x5p hno.out hr heq;have HC:=hide hch;clear hch heq
    go_wp2_with fail
    go_ret;rw [HC.out];exact ⟨v,rfl,rfl,hv⟩
   ·have e1:((str r.name).toList==(str s).toList)=false:=by rw [y5e];exact Qa4 heq
    have hno':Hid (∀j,j<k+1→ ∀r,R[j]?=some r→r.name≠s):=fun j hj x hx=>by
     by_cases h:j<k
     ·exact hno.out j h x hx
     ·have:j=k:=by omega
      subst this;rw [hr] at hx;injection hx with hx;rw [←hx];exact heq
    clear heq
    go_wp2_with fail
    go_round
    case rel=>exact ⟨k+1,by omega,by go_num,hno'⟩
    case measure=>simp [intOf];omega
  ·obtain rfl:k=n:=by omega
   have hch:y01 R s=[]:=z8m fun j hj=>hno.out j (by rw [HN.out] at hj;exact hj);have HC:=hide hch;clear hch
   go_wp2_with fail
   go_ret;rw [HC.out];exact ⟨_,rfl,rfl,z29⟩
def y21 (s text:Txt):Bool:=(y3w text).any (fun x=>decide (x=s))
set_option maxRecDepth 100000 in
set_option maxHeartbeats 1000000 in
theorem z3a (s text:Txt) (w:World) (hs:text.length≤1099511627776):
  Calls Tryz.prog 175 #[.string (str s),.string (str text)] w fun e w'=>e= .returned (.bool (y21 s text))∧Below w.heap.size w w':=by
 have hdef:y21 s text=(y3w text).any (fun x=>decide (x=s)):=rfl;obtain ⟨b,hbb⟩: ∃b,y21 s text=b:=⟨_,rfl⟩;rw [hbb] at hdef ⊢;have HD:=hide hdef;clear hdef hbb;go_enter Tryz.func175,Tryz.ntmps175
 go_wp2_with fail
 refine (z28 text _ hs).mono ?_;rintro e w1 ⟨v1,vs,rfl,hrow,hb1⟩;obtain ⟨A1,c1,rfl,_,hc1⟩:=y0e hrow.own;obtain ⟨A',c',vs',he,_,_,hrl,hrd⟩:=y0k hrow.list;injection he with e1 e2 e3;subst e1 e3;obtain ⟨n,hn⟩: ∃n,(y3w text).length=n:=⟨_,rfl⟩
 have hn63:n≤9223372036854775807:=by have:=(y94 text (text.length+1)).2;unfold y3w at hn;omega
 have hdef:=HD.out;obtain ⟨l,hl⟩: ∃l,y3w text=l:=⟨_,rfl⟩;rw [hl] at hrl hn hdef;rw [hl,hn];have HN:=hide hn;have HD:=hide hdef;clear hn hl hdef
 go_wp2_with fail
 go_loop [6] (fun i=>∃k:Nat,k≤n∧i= .int .i64 k∧Hid (∀j,j<k→ ∀x,l[j]?=some x→x≠s)) (fun i=>n - (intOf i).toNat)
 case atStart=>exact ⟨0,Qak _,rfl,fun j hj=>by omega⟩
 case round=>
  obtain ⟨k,hk,rfl,hno⟩:=hrel;by_cases hlt:k<n
  ·have hkI:(k:Int)<(n:Int):=by omega
   obtain ⟨x,hx⟩: ∃x,l[k]?=some x:=⟨_,Qad (by rw [HN.out];exact hlt)⟩;obtain ⟨ad,rfl,c0⟩:=z11 hrl hrd hx;by_cases heq:x=s
   ·have e1:((str x).toList==(str s).toList)=true:=by rw [y5e];exact Qa5 heq
    have hany:l.any (fun x=>decide (x=s))=true:=Qbh.2 ⟨x,Qaf hx,Qa5 heq⟩;have HR:=hide (HD.out.trans hany);clear heq hany
    go_wp2_with fail
    go_ret;exact ⟨by rw [HR.out];rfl,hb1⟩
   ·have e1:((str x).toList==(str s).toList)=false:=by rw [y5e];exact Qa4 heq
    have hno':Hid (∀j,j<k+1→ ∀x,l[j]?=some x→x≠s):=fun j hj y hy=>by
     by_cases h:j<k
     ·exact hno.out j h y hy
     ·have:j=k:=by omega
      subst this;rw [hx] at hy;injection hy with hy;rw [←hy];exact heq
    clear heq
    go_wp2_with fail
    go_round
    case rel=>exact ⟨k+1,by omega,by go_num,hno'⟩
    case measure=>simp [intOf];omega
  ·obtain rfl:k=n:=by omega
   have hany:l.any (fun x=>decide (x=s))=false:=by
    rw [List.any_eq_false];intro x hx;obtain ⟨j,hj⟩:=Qaq hx;have:=hno.out j (by have:=(Qac.1 hj).1;rw [HN.out] at this;exact this) x hj;simpa using this
   have HR:=hide (HD.out.trans hany);clear hany
   go_wp2_with fail
   go_ret;exact ⟨by rw [HR.out];rfl,hb1⟩
end Go.Proofs.YtbpgkkoeehopjaaGreat.gram
namespace Go.Proofs.YtbpgkkoeehopjaaGreat.lex
open Go.RowKit words enc tree gram
set_option maxRecDepth 100000
def inF (c:Int) (t:Txt):Bool:=t.any fun b=>decide ((b.toNat:Int)=c)
def y98:Txt:=[97,98,99,100,101,102,103,104,105,106,107,108,109,110,111,112,113,114,115,116,117,118,119,120,121,122,65,66,67,68,69,70,71,72,73,74,75,76,77,78,79,80,81,82,83,84,85,86,87,88,89,90,95]
def z6x:Txt:=[48,49,50,51,52,53,54,55,56,57]
def z12 (c:Int):Bool:=(c==65279)||inF c [9,10,13,32,44]
def y7q (c:Int):Bool:=inF c y98
def z3b (c:Int):Bool:=inF c y98||inF c z6x
def y7h (c:Int):Bool:=inF c z6x
def y7r (c:Int):Bool:=if c<32 then inF c [9,10,13] else decide (c<65536)&&Lib.validRune c
theorem z5g (c:Int) (t:Txt) (w:World) (ht:t.length≤1000):
  Calls Tryz.prog 189 #[.int .i32 c,.string (str t)] w fun e w'=>e= .returned (.bool (inF c t))∧w'=w:=by
 have hsz:=y17 t;obtain ⟨b,hb⟩: ∃b,inF c t=b:=⟨_,rfl⟩;rw [hb];have HB:=hide hb;obtain ⟨n,hn⟩: ∃n,t.length=n:=⟨_,rfl⟩;have HN:=hide hn;rw [hn] at ht hsz;clear hb hn;go_enter Tryz.func189,Tryz.ntmps189
 go_wp2_with fail
 go_loop [5] (fun i=>∃k:Nat,k≤n∧i= .int .i64 k∧Hid (∀j,j<k→ ∀x,t[j]?=some x→(x.toNat:Int)≠c)) (fun i=>n - (intOf i).toNat)
 case atStart=>exact ⟨0,Qak _,rfl,fun j hj=>by omega⟩
 case round=>
  obtain ⟨k,hk,rfl,hno⟩:=hrel;by_cases hlt:k<n
  ·have hkI:(k:Int)<(n:Int):=by omega
   obtain ⟨x,hx⟩: ∃x,t[k]?=some x:=⟨_,Qad (by rw [HN.out];exact hlt)⟩
   have hks:k<(str t).size:=by rw [hsz];exact hlt
   have hg:(str t)[k]'hks=x:=by
    obtain ⟨hk',rfl⟩:=Qac.1 hx;exact z09 hk' hks
   have hxb:x.toNat<256:=x.toNat_lt
   have hw:IntKind.i32.wrap (x.toNat:Int)=(x.toNat:Int):=by simp [IntKind.wrap,IntKind.bits,IntKind.signed];omega
   by_cases heq:(x.toNat:Int)=c
   ·have e1:((x.toNat:Int)==c)=true:=by rw [Qa7];exact heq
    have hbt:b=true:=by rw [←HB.out];exact Qbh.2 ⟨x,Qaf hx,Qa5 heq⟩
    subst hbt;clear heq hx
    go_wp2_with fail
    go_ret;exact ⟨rfl,rfl⟩
   ·have e1:((x.toNat:Int)==c)=false:=by rw [Qa3];exact heq
    have hno':Hid (∀j,j<k+1→ ∀x,t[j]?=some x→(x.toNat:Int)≠c):=fun j hj y hy=>by
     by_cases h:j<k
     ·exact hno.out j h y hy
     ·have:j=k:=by omega
      subst this;rw [hx] at hy;injection hy with hy;rw [←hy];exact heq
    clear heq hx
    go_wp2_with fail
    go_round
    case rel=>exact ⟨k+1,by omega,by go_num,hno'⟩
    case measure=>simp [intOf];omega
  ·obtain rfl:k=n:=by omega
   have hbf:b=false:=by
    rw [←HB.out];unfold inF;rw [List.any_eq_false];intro x hx;obtain ⟨j,hj⟩:=Qaq hx;have:=hno.out j (by have:=(Qac.1 hj).1;rw [HN.out] at this;exact this) x hj;simpa using this
   subst hbf
   go_wp2_with fail
   go_ret;exact ⟨rfl,rfl⟩
theorem y2u (c:Int) (w:World):Calls Tryz.prog 192 #[.int .i32 c] w fun e w'=>e= .returned (.bool (y7q c))∧w'=w:=by
 go_enter Tryz.func192,Tryz.ntmps192
 go_wp2_with fail
 refine (z5g c y98 _ (by decide)).mono ?_;rintro e w' ⟨rfl,rfl⟩
 go_wp2_with fail
 go_ret;exact ⟨rfl,rfl⟩
theorem y7s (c:Int) (w:World):Calls Tryz.prog 194 #[.int .i32 c] w fun e w'=>e= .returned (.bool (y7h c))∧w'=w:=by
 go_enter Tryz.func194,Tryz.ntmps194
 go_wp2_with fail
 refine (z5g c z6x _ (by decide)).mono ?_;rintro e w' ⟨rfl,rfl⟩
 go_wp2_with fail
 go_ret;exact ⟨rfl,rfl⟩
theorem z13 (c:Int) (w:World):Calls Tryz.prog 200 #[.int .i32 c] w fun e w'=>e= .returned (.bool (z3b c))∧w'=w:=by
 unfold z3b;obtain ⟨a,ha⟩: ∃a,inF c y98=a:=⟨_,rfl⟩;rw [ha];have HA:=hide ha;clear ha;go_enter Tryz.func200,Tryz.ntmps200
 go_wp2_with fail
 refine (z5g c y98 _ (by decide)).mono ?_;rintro e w' ⟨rfl,rfl⟩;rw [HA.out]
 cases a with
 |true=>
  go_wp2_with fail
  go_ret;exact ⟨rfl,rfl⟩
 |false=>
  go_wp2_with fail
  refine (z5g c z6x _ (by decide)).mono ?_;rintro e w' ⟨rfl,rfl⟩
  go_wp2_with fail
  go_ret;exact ⟨rfl,rfl⟩
theorem x8q (c:Int) (w:World):Calls Tryz.prog 191 #[.int .i32 c] w fun e w'=>e= .returned (.bool (z12 c))∧w'=w:=by
 unfold z12
 cases h:(c==65279) with
 |true=>
  have h':((c:Int)==65279)=true:=h;go_enter Tryz.func191,Tryz.ntmps191
  go_wp2_with fail
  go_ret;exact ⟨rfl,rfl⟩
 |false=>
  have h':((c:Int)==65279)=false:=h;go_enter Tryz.func191,Tryz.ntmps191
  go_wp2_with fail
  refine (z5g c [9,10,13,32,44] _ (by decide)).mono ?_;rintro e w' ⟨rfl,rfl⟩
  go_wp2_with fail
  go_ret;exact ⟨rfl,rfl⟩
theorem y56 (c:Int) (w:World):Calls Tryz.prog 167 #[.int .i32 c] w fun e w'=>e= .returned (.bool (y7r c))∧w'=w:=by
 unfold y7r;by_cases h:c<32
 ·rw [if_pos h];go_enter Tryz.func167,Tryz.ntmps167
  go_wp2_with fail
  refine (z5g c [9,10,13] _ (by decide)).mono ?_;rintro e w' ⟨rfl,rfl⟩
  go_wp2_with fail
  go_ret;exact ⟨rfl,rfl⟩
 ·rw [if_neg h];by_cases h2:c<65536
  ·rw [Qa5 h2,Bool.true_and];go_enter Tryz.func167,Tryz.ntmps167
   go_wp2_with fail
   refine (y46 c _).mono ?_;rintro e w' ⟨rfl,rfl⟩
   go_wp2_with fail
   go_ret;exact ⟨rfl,rfl⟩
  ·rw [Qa4 h2,Bool.false_and];go_enter Tryz.func167,Tryz.ntmps167
   go_wp2_with fail
   go_ret;exact ⟨rfl,rfl⟩
def y4g (s:List Int):Nat→Nat→Option Nat
 |0,_=>none
 |f+1,i=>match s[i]? with
  |none=>none
  |some c=>if z3b c=true then y4g s f (i+1) else some i
def comF (s:List Int):Nat→Nat→Option Nat
 |0,_=>none
 |f+1,i=>match s[i]? with
  |none=>none
  |some c=>if 0≤c∧c≠10∧c≠13 then comF s f (i+1) else some i
def behF (s:List Int):Nat→Nat→Option Nat
 |0,_=>none
 |f+1,i=>match s[i]? with
  |none=>none
  |some c=>if z12 c=true then behF s f (i+1) else if c=35 then (match comF s f i with
   |none=>none
   |some j=>behF s f j) else some i
def y1k (s:List Int) (i:Nat) (c:Int):Bool:=decide (s[i]?=some c∧s[i+1]?=some c∧s[i+2]?=some c)
def y83:Txt:=[33,36,38,40,41,58,61,64,91,93,123,124,125]
def y4h (s:List Int) (i:Nat):Option Nat:=match s[i]? with
 |none=>none
 |some c=>some (if inF c y83=true then i+1 else if y1k s i 46=true then i+3 else i)
def quoF (s:List Int) (i:Nat):Nat→Nat→Option Nat
 |0,_=>none
 |f+1,j=>match s[j]? with
  |none=>none
  |some c=>if 0≤c∧c≠10∧c≠13 then
    if c=34 then some (j+1)
    else if c=92 then match s[j+1]? with
     |none=>none
     |some d=>if d<0∨d=10∨d=13 then some i else quoF s i f (j+2)
    else quoF s i f (j+1)
   else some i
theorem y2g {w:World} {B:Nat} {A:Option Addr} {s:List Int} {k:Nat} {z:Int} (hr:Rd w B A (s.map (Value.int .i32))) (hz:s[k]?=some z): ∃ad,A=some ad∧w.cell? (ad.add k)=some (.int .i32 z):=by
 obtain ⟨hk,rfl⟩:=Qac.1 hz;obtain ⟨ad,z',rfl,h1,_,hc⟩:=hr.i32 hk;rw [Qad hk] at h1;injection h1 with h1;subst h1;exact ⟨ad,rfl,hc⟩
theorem z8o {s:List Int} {k:Nat} {z:Int} {n:Nat} (hz:s[k]?=some z) (hn:s.length=n):k<n:=by rw [←hn];exact (Qac.1 hz).1
set_option maxHeartbeats 2000000 in
theorem q3y (A:Option Addr) (n c B:Nat) (s:List Int) (w:World) (hr:Rd w B A (s.map (Value.int .i32))) (hn:s.length=n) (h63:n≤1099511627776) (f i r:Nat) (h:y4g s f i=some r):
  Calls Tryz.prog 193 #[.slice A n c,.int .i64 i] w fun e w'=>e= .returned (.int .i64 r)∧w'=w:=by
 have HN:=hide hn;have HH:=hide h;clear hn h;go_enter Tryz.func193,Tryz.ntmps193
 go_wp2_with fail
 go_loopg [1] f (fun fu iv wr=>∃k:Nat,iv= .int .i64 k∧Hid (y4g s fu k=some r)∧wr=w)
 case atStart=>exact ⟨i,rfl,HH.out,rfl⟩
 case round=>
  obtain ⟨k,rfl,hk,rfl⟩:=hrel
  cases gk with
  |zero=>have h0:=hk.out;rw [y4g] at h0;cases h0
  |succ fu=>
   have h0:=hk.out;rw [y4g] at h0
   cases hz:s[k]? with
   |none=>rw [hz] at h0;cases h0
   |some z=>
    rw [hz] at h0;dsimp only at h0;have hkn:=z8o hz HN.out
    have hkI:(k:Int)<(n:Int):=by omega
    obtain ⟨ad,rfl,hc⟩:=y2g hr hz;obtain ⟨b,hb⟩: ∃b,z3b z=b:=⟨_,rfl⟩;rw [hb] at h0;have HB:=hide hb;have H0:=hide h0;clear hz hb h0
    go_wp2_with fail
    refine (z13 z _).mono ?_;rintro e wr ⟨rfl,rfl⟩;rw [HB.out]
    cases b with
    |true=>
     have h1:=H0.out;rw [if_pos rfl] at h1;have H1:=hide h1;clear h1
     go_wp2_with fail
     go_roundg fu
     case rel=>exact ⟨k+1,by go_num,H1.out,rfl⟩
     case measure=>omega
    |false=>
     have h1:=H0.out;rw [if_neg (by decide)] at h1;injection h1 with h1;subst h1
     go_wp2_with fail
     go_ret;exact ⟨rfl,rfl⟩
set_option maxHeartbeats 4000000 in
theorem x5q (A:Option Addr) (n c B:Nat) (s:List Int) (w:World) (hr:Rd w B A (s.map (Value.int .i32))) (hn:s.length=n) (h63:n≤1099511627776) (f i r:Nat) (h:behF s f i=some r):
  Calls Tryz.prog 169 #[.slice A n c,.int .i64 i] w fun e w'=>e= .returned (.int .i64 r)∧w'=w:=by
 have HN:=hide hn;have HH:=hide h;clear hn h;go_enter Tryz.func169,Tryz.ntmps169
 go_wp2_with fail
 go_loopg [1] f (fun fu iv wr=>∃k:Nat,iv= .int .i64 k∧Hid (behF s fu k=some r)∧wr=w)
 case atStart=>exact ⟨i,rfl,HH.out,rfl⟩
 case round=>
  obtain ⟨k,rfl,hk,rfl⟩:=hrel
  cases gk with
  |zero=>have h0:=hk.out;rw [behF] at h0;cases h0
  |succ fu=>
   have h0:=hk.out;rw [behF] at h0
   cases hz:s[k]? with
   |none=>rw [hz] at h0;cases h0
   |some z=>
    rw [hz] at h0;dsimp only at h0;have hkn:=z8o hz HN.out
    have hkI:(k:Int)<(n:Int):=by omega
    obtain ⟨ad,rfl,hc⟩:=y2g hr hz;obtain ⟨b,hb⟩: ∃b,z12 z=b:=⟨_,rfl⟩;rw [hb] at h0;have HB:=hide hb;have H0:=hide h0;clear hz hb h0
    go_wp2_with fail
    refine (x8q z _).mono ?_;rintro e wr ⟨rfl,rfl⟩;rw [HB.out]
    cases b with
    |true=>
     have h1:=H0.out;rw [if_pos rfl] at h1;have H1:=hide h1;clear h1
     go_wp2_with fail
     go_roundg fu
     case rel=>exact ⟨k+1,by go_num,H1.out,rfl⟩
     case measure=>omega
    |false=>
     have h1:=H0.out;rw [if_neg (by decide)] at h1;by_cases h35:z=35
     ·rw [if_pos h35] at h1;subst h35
      cases hcom:comF s fu k with
      |none=>rw [hcom] at h1;cases h1
      |some j=>
       rw [hcom] at h1;have H1:=hide h1;have HC:=hide hcom;clear h1 hcom
       go_wp2_with fail
       go_loopg [1] fu (fun f2 iv wx=>∃q:Nat,iv= .int .i64 q∧Hid (comF s f2 q=some j)∧wx=wr)
       case atStart=>exact ⟨k,rfl,HC.out,rfl⟩
       case round=>
        obtain ⟨q,rfl,hq,rfl⟩:=hrel
        cases gk with
        |zero=>have h2:=hq.out;rw [comF] at h2;cases h2
        |succ f2=>
         have h2:=hq.out;rw [comF] at h2
         cases hy:s[q]? with
         |none=>rw [hy] at h2;cases h2
         |some y=>
          rw [hy] at h2;dsimp only at h2;have hqn:=z8o hy HN.out
          have hqI:(q:Int)<(n:Int):=by omega
          obtain ⟨ad',e1,hcy⟩:=y2g hr hy;injection e1 with e1;subst e1;by_cases hgo:0≤y∧y≠10∧y≠13
          ·rw [if_pos hgo] at h2;obtain ⟨g1,g2,g3⟩:=hgo
           have b1:((y:Int) !=10)=true:=by rw [Qa8];exact g2
           have b2:((y:Int) !=13)=true:=by rw [Qa8];exact g3
           have H2:=hide h2;clear h2 hy g2 g3
           go_wp2_with fail
           go_roundg f2
           case rel=>exact ⟨q+1,by go_num,H2.out,rfl⟩
           case measure=>omega
          ·rw [if_neg hgo] at h2;injection h2 with h2;subst h2;have H1':=hide H1.out;by_cases g1:0≤y
           ·by_cases g2:y=10
            ·subst g2;clear hgo hy
             go_wp2_with fail
             go_roundg fu
             case rel=>exact ⟨q,rfl,H1'.out,rfl⟩
             case measure=>omega
            ·have g3:y=13:=Qbl fun h=>hgo ⟨g1,g2,h⟩;subst g3;clear hgo hy g2
             go_wp2_with fail
             go_roundg fu
             case rel=>exact ⟨q,rfl,H1'.out,rfl⟩
             case measure=>omega
           ·clear hgo hy
            go_wp2_with fail
            go_roundg fu
            case rel=>exact ⟨q,rfl,H1'.out,rfl⟩
            case measure=>omega
     ·rw [if_neg h35] at h1;injection h1 with h1;subst h1
      have b1:((z:Int) !=35)=true:=by rw [Qa8];exact h35
      clear h35
      go_wp2_with fail
      go_ret;exact ⟨rfl,rfl⟩
set_option maxHeartbeats 2000000 in
theorem z3c (A:Option Addr) (n c B:Nat) (s:List Int) (w:World) (hr:Rd w B A (s.map (Value.int .i32))) (hn:s.length=n) (h63:n≤1099511627776) (i:Nat) (hi:i≤n) (ch:Int):
  Calls Tryz.prog 202 #[.slice A n c,.int .i64 i,.int .i32 ch] w fun e w'=>e= .returned (.bool (y1k s i ch))∧w'=w:=by
 by_cases hlt:i+2<n
 ·have hltI:(i:Int)+2<(n:Int):=by omega
  have hi0:(i:Int)<(n:Int):=by omega
  have hi1:(i:Int)+1<(n:Int):=by omega
  obtain ⟨x0,h0⟩: ∃x,s[i]?=some x:=⟨_,Qad (by omega)⟩;obtain ⟨x1,h1⟩: ∃x,s[i+1]?=some x:=⟨_,Qad (by omega)⟩;obtain ⟨x2,h2⟩: ∃x,s[i+2]?=some x:=⟨_,Qad (by omega)⟩;obtain ⟨ad,rfl,c0⟩:=y2g hr h0;obtain ⟨ad',e1,c1⟩:=y2g hr h1;injection e1 with e1;subst e1;obtain ⟨ad',e1,c2⟩:=y2g hr h2;injection e1 with e1;subst e1;rw [y3l] at c1 c2
  have hd:y1k s i ch=(decide (x0=ch)&&decide (x1=ch)&&decide (x2=ch)):=by
   unfold y1k;rw [h0,h1,h2];simp [Bool.and_assoc]
  rw [hd];clear hd h0 h1 h2 hn;by_cases e0:x0=ch
  ·have q0:((x0:Int)==ch)=true:=by rw [Qa7];exact e0
   rw [Qa5 e0];by_cases e1:x1=ch
   ·have q1:((x1:Int)==ch)=true:=by rw [Qa7];exact e1
    rw [Qa5 e1];by_cases e2:x2=ch
    ·have q2:((x2:Int)==ch)=true:=by rw [Qa7];exact e2
     rw [Qa5 e2];clear e0 e1 e2;go_enter Tryz.func202,Tryz.ntmps202
     go_wp2_with fail
     go_ret;exact ⟨rfl,rfl⟩
    ·have q2:((x2:Int)==ch)=false:=by rw [Qa3];exact e2
     rw [Qa4 e2];clear e0 e1 e2;go_enter Tryz.func202,Tryz.ntmps202
     go_wp2_with fail
     go_ret;exact ⟨rfl,rfl⟩
   ·have q1:((x1:Int)==ch)=false:=by rw [Qa3];exact e1
    rw [Qa4 e1];clear e0 e1;go_enter Tryz.func202,Tryz.ntmps202
    go_wp2_with fail
    go_ret;exact ⟨rfl,rfl⟩
  ·have q0:((x0:Int)==ch)=false:=by rw [Qa3];exact e0
   rw [Qa4 e0];clear e0;go_enter Tryz.func202,Tryz.ntmps202
   go_wp2_with fail
   go_ret;exact ⟨rfl,rfl⟩
 ·have hltI: ¬((i:Int)+2<(n:Int)):=by omega
  have hd:y1k s i ch=false:=by
   unfold y1k;rw [Qbg (by omega:s.length≤i+2)];simp
  rw [hd];clear hd hn;go_enter Tryz.func202,Tryz.ntmps202
  go_wp2_with fail
  go_ret;exact ⟨rfl,rfl⟩
set_option maxHeartbeats 2000000 in
theorem x8r (A:Option Addr) (n c B:Nat) (s:List Int) (w:World) (hr:Rd w B A (s.map (Value.int .i32))) (hn:s.length=n) (h63:n≤1099511627776) (i r:Nat) (h:y4h s i=some r):
  Calls Tryz.prog 197 #[.slice A n c,.int .i64 i] w fun e w'=>e= .returned (.int .i64 r)∧ ∃q,w'=w.drewN q:=by
 unfold y4h at h
 cases hz:s[i]? with
 |none=>rw [hz] at h;cases h
 |some z=>
  rw [hz] at h;injection h with h;have hkn:=z8o hz hn
  have hkI:(i:Int)<(n:Int):=by omega
  have hth:=fun w' (hw: ∃q,w'=w.drewN q)=>z3c A n c B s w' (by obtain ⟨q,rfl⟩:=hw;exact hr) hn h63 i (by omega) 46;obtain ⟨ad,rfl,hc⟩:=y2g hr hz;have HT:=hide hth;have HH:=hide h;have hm:(str y83).size=13:=y17 _;have hK:(⟨#[33,36,38,40,41,58,61,64,91,93,123,124,125]⟩:ByteArray)=str y83:=rfl;clear hz hth h hn;go_enter Tryz.func197,Tryz.ntmps197
  go_wp2_with fail
  go_loopw [6] (fun iv wr=>∃k:Nat,k≤13∧iv= .int .i64 k∧Hid (∀j,j<k→ ∀x,y83[j]?=some x→(x.toNat:Int)≠z)∧ ∃q,wr=w.drewN q) (fun iv _=>13 - (intOf iv).toNat)
  case atStart=>exact ⟨0,Qak _,rfl,fun j hj=>by omega,0,rfl⟩
  case round=>
   obtain ⟨k,hk,rfl,hno,q,rfl⟩:=hrel;by_cases hlt:k<13
   ·have hlI:(k:Int)<13:=by omega
    obtain ⟨x,hx⟩: ∃x,y83[k]?=some x:=⟨_,Qad (by show k<13;exact hlt)⟩
    have hks:k<(str y83).size:=by rw [hm];exact hlt
    have hg:(str y83)[k]'hks=x:=by
     obtain ⟨hk',rfl⟩:=Qac.1 hx;exact z09 hk' hks
    have hxb:x.toNat<256:=x.toNat_lt
    have hw:IntKind.i32.wrap (x.toNat:Int)=(x.toNat:Int):=by simp [IntKind.wrap,IntKind.bits,IntKind.signed];omega
    by_cases heq:(x.toNat:Int)=z
    ·have e1:((z:Int)==(x.toNat:Int))=true:=by rw [Qa7];exact heq.symm
     have hr1:=HH.out;rw [if_pos (show inF z y83=true from Qbh.2 ⟨x,Qaf hx,Qa5 heq⟩)] at hr1;subst hr1;clear heq hx
     go_wp2_with fail
     go_quiet (fail)
     go_wp2_with fail
     go_ret;exact ⟨rfl,_,rfl⟩
    ·have e1:((z:Int)==(x.toNat:Int))=false:=by rw [Qa3];exact fun e=>heq e.symm
     have hno':Hid (∀j,j<k+1→ ∀x,y83[j]?=some x→(x.toNat:Int)≠z):=fun j hj y hy=>by
      by_cases h:j<k
      ·exact hno.out j h y hy
      ·have:j=k:=by omega
       subst this;rw [hx] at hy;injection hy with hy;rw [←hy];exact heq
     clear heq hx
     go_wp2_with fail
     go_quiet (fail)
     go_wp2_with fail
     go_roundw
     case rel=>exact ⟨k+1,by omega,by go_num,hno',_,rfl⟩
     case measure=>simp [intOf];omega
   ·obtain rfl:k=13:=by omega
    have hnot:inF z y83=false:=by
     unfold inF;rw [List.any_eq_false];intro x hx;obtain ⟨j,hj⟩:=Qaq hx;have:=hno.out j (Qac.1 hj).1 x hj;simpa using this
    have hr1:=HH.out;rw [if_neg (by rw [hnot];decide)] at hr1;have hcall:=HT.out (w.drewN q) ⟨q,rfl⟩;obtain ⟨b,hb⟩: ∃b,y1k s i 46=b:=⟨_,rfl⟩;rw [hb] at hr1 hcall;clear hb hnot
    go_wp2_with fail
    refine hcall.mono ?_;rintro e wx ⟨rfl,rfl⟩;clear hcall
    cases b with
    |true=>
     rw [if_pos rfl] at hr1;subst hr1
     go_wp2_with fail
     go_ret;exact ⟨rfl,q,rfl⟩
    |false=>
     rw [if_neg (by decide)] at hr1;subst hr1
     go_wp2_with fail
     go_ret;exact ⟨rfl,q,rfl⟩
set_option maxHeartbeats 4000000 in
theorem x5r (A:Option Addr) (n c B:Nat) (s:List Int) (w:World) (hr:Rd w B A (s.map (Value.int .i32))) (hn:s.length=n) (h63:n≤1099511627776) (f i r:Nat) (hi:i<n) (h:quoF s i f (i+1)=some r):
  Calls Tryz.prog 205 #[.slice A n c,.int .i64 i] w fun e w'=>e= .returned (.int .i64 r)∧w'=w:=by
 have HN:=hide hn;have HH:=hide h;clear hn h;go_enter Tryz.func205,Tryz.ntmps205
 go_wp2_with fail
 go_loopg [5] f (fun fu iv wr=>∃k:Nat,iv= .int .i64 k∧Hid (quoF s i fu k=some r)∧wr=w)
 case atStart=>exact ⟨i+1,by go_num,HH.out,rfl⟩
 case round=>
  obtain ⟨k,rfl,hk,rfl⟩:=hrel
  cases gk with
  |zero=>have h0:=hk.out;rw [quoF] at h0;cases h0
  |succ fu=>
   have h0:=hk.out;rw [quoF] at h0
   cases hz:s[k]? with
   |none=>rw [hz] at h0;cases h0
   |some z=>
    rw [hz] at h0;dsimp only at h0;have hkn:=z8o hz HN.out
    have hkI:(k:Int)<(n:Int):=by omega
    obtain ⟨ad,rfl,hc⟩:=y2g hr hz;by_cases hgo:0≤z∧z≠10∧z≠13
    ·rw [if_pos hgo] at h0;obtain ⟨g1,g2,g3⟩:=hgo
     have b1:((z:Int) !=10)=true:=by rw [Qa8];exact g2
     have b2:((z:Int) !=13)=true:=by rw [Qa8];exact g3
     by_cases h34:z=34
     ·rw [if_pos h34] at h0;injection h0 with h0;subst h0 h34;clear hz
      go_wp2_with fail
      go_ret;exact ⟨rfl,rfl⟩
     ·rw [if_neg h34] at h0
      have b3:((z:Int)==34)=false:=by rw [Qa3];exact h34
      by_cases h92:z=92
      ·rw [if_pos h92] at h0;subst h92
       cases hy:s[k+1]? with
       |none=>rw [hy] at h0;cases h0
       |some y=>
        rw [hy] at h0;dsimp only at h0;have hqn:=z8o hy HN.out
        have hqI:(k:Int)+1<(n:Int):=by omega
        obtain ⟨ad',e1,hcy⟩:=y2g hr hy;injection e1 with e1;subst e1;rw [y3l] at hcy;clear hz hy h34 g2 g3 b1 b2 b3;by_cases hneg:y<0
        ·rw [if_pos (.inl hneg)] at h0;injection h0 with h0;subst h0
         go_wp2_with fail
         go_ret;exact ⟨rfl,rfl⟩
        ·by_cases h10:y=10
         ·subst h10;rw [if_pos (.inr (.inl rfl))] at h0;injection h0 with h0;subst h0
          go_wp2_with fail
          go_ret;exact ⟨rfl,rfl⟩
         ·by_cases h13:y=13
          ·subst h13;rw [if_pos (.inr (.inr rfl))] at h0;injection h0 with h0;subst h0
           go_wp2_with fail
           go_ret;exact ⟨rfl,rfl⟩
          ·rw [if_neg (by omega)] at h0
           have c1:((y:Int)==10)=false:=by rw [Qa3];exact h10
           have c2:((y:Int)==13)=false:=by rw [Qa3];exact h13
           have H0:=hide h0;clear h0 h10 h13
           go_wp2_with fail
           go_roundg fu
           case rel=>exact ⟨k+2,by go_num,H0.out,rfl⟩
           case measure=>omega
      ·rw [if_neg h92] at h0
       have b4:((z:Int)==92)=false:=by rw [Qa3];exact h92
       have H0:=hide h0;clear h0 hz h34 h92 g2 g3
       go_wp2_with fail
       go_roundg fu
       case rel=>exact ⟨k+1,by go_num,H0.out,rfl⟩
       case measure=>omega
    ·rw [if_neg hgo] at h0;injection h0 with h0;subst h0;by_cases g1:0≤z
     ·by_cases g2:z=10
      ·subst g2;clear hgo hz
       go_wp2_with fail
       go_ret;exact ⟨rfl,rfl⟩
      ·have g3:z=13:=Qbl fun h=>hgo ⟨g1,g2,h⟩;subst g3;clear hgo hz g2
       go_wp2_with fail
       go_ret;exact ⟨rfl,rfl⟩
     ·clear hgo hz
      go_wp2_with fail
      go_ret;exact ⟨rfl,rfl⟩
def z14 (c:Int):Bool:=y7r c&&(c !=34)&&(c !=92)&&(c !=10)&&(c !=13)
set_option maxHeartbeats 2000000 in
theorem x8s (c:Int) (w:World) (h:z14 c=true):Calls Tryz.prog 217 #[.int .i32 c] w fun e w'=>e= .returned (.bool true)∧w'=w:=by
 unfold z14 at h;simp only [Qao] at h;obtain ⟨⟨⟨⟨h1,h2⟩,h3⟩,h4⟩,h5⟩:=h;have H1:=hide h1;clear h1;go_enter Tryz.func217,Tryz.ntmps217
 go_wp2_with fail
 refine (y56 c _).mono ?_;rintro e w' ⟨rfl,rfl⟩;rw [H1.out]
 go_wp2_with fail
 go_ret;exact ⟨rfl,rfl⟩
def y2j (st c:Int):Int:=
 if st=0∨st=1 then (if c=45∧st=0 then 1 else if c=48 then 2 else if 48≤c∧c≤57 then 3 else -1)
 else if st=2∨st=3 then (if (48≤c∧c≤57)∧st=3 then 3 else if c=46 then 4 else if c=101∨c=69 then 6 else -1)
 else if st=4 then (if 48≤c∧c≤57 then 5 else -1)
 else if st=5 then (if 48≤c∧c≤57 then 5 else if c=101∨c=69 then 6 else -1)
 else if st=6 then (if 48≤c∧c≤57 then 8 else if c=43∨c=45 then 7 else -1)
 else if st=7∨st=8 then (if 48≤c∧c≤57 then 8 else -1)
 else -1
def z6y (st:Int):Int:=if st=2∨st=3 then 1 else if st=5∨st=8 then 2 else 0
theorem x5s (st c:Int): -1≤y2j st c∧y2j st c≤8:=by
 unfold y2j
 repeat (first|omega|split)
theorem step_end {st c:Int} (h:0≤y2j st c):43≤c:=by
 unfold y2j at h
 repeat (first|omega|split at h)
set_option maxHeartbeats 16000000 in
theorem q3z (st c:Int) (w:World) (h0:0≤st) (h8:st≤8):Calls Tryz.prog 207 #[.int .i64 st,.int .i32 c] w fun e w'=>e= .returned (.int .i64 (y2j st c))∧w'=w:=by
 have hst:st=0∨st=1∨st=2∨st=3∨st=4∨st=5∨st=6∨st=7∨st=8:=by omega
 have hcc:c=45∨c=48∨c=46∨c=101∨c=69∨c=43∨(48<c∧c≤57)∨(c≠45∧c≠46∧c≠101∧c≠69∧c≠43∧ ¬(48≤c∧c≤57)):=by omega
 obtain ⟨r,hr⟩: ∃r,y2j st c=r:=⟨_,rfl⟩;rw [hr];have HR:=hide hr;clear hr h0 h8;rcases hcc with rfl|rfl|rfl|rfl|rfl|rfl|hd|hn
 case inr.inr.inr.inr.inr.inr.inl=>
  obtain ⟨d1,d2⟩:=hd
  have d0:48≤c:=by omega
  have b1:((c:Int)==45)=false:=by rw [Qa3];omega
  have b2:((c:Int)==48)=false:=by rw [Qa3];omega
  have b3:((c:Int)==46)=false:=by rw [Qa3];omega
  have b4:((c:Int)==101)=false:=by rw [Qa3];omega
  have b5:((c:Int)==69)=false:=by rw [Qa3];omega
  have b6:((c:Int)==43)=false:=by rw [Qa3];omega
  rcases hst with rfl|rfl|rfl|rfl|rfl|rfl|rfl|rfl|rfl
  all_goals
   go_enter Tryz.func207,Tryz.ntmps207
   go_wp2_with fail
   go_ret;refine ⟨?_,rfl⟩;rw [←HR.out];unfold y2j
   repeat (first|rw [if_pos (by omega)]|rw [if_neg (by omega)])
   rfl
 case inr.inr.inr.inr.inr.inr.inr=>
  obtain ⟨n1,n3,n4,n5,n6,nd⟩:=hn
  have n2:c≠48:=by omega
  have b1:((c:Int)==45)=false:=by rw [Qa3];omega
  have b2:((c:Int)==48)=false:=by rw [Qa3];omega
  have b3:((c:Int)==46)=false:=by rw [Qa3];omega
  have b4:((c:Int)==101)=false:=by rw [Qa3];omega
  have b5:((c:Int)==69)=false:=by rw [Qa3];omega
  have b6:((c:Int)==43)=false:=by rw [Qa3];omega
  by_cases d0:48≤c
  ·have d1: ¬c≤57:=by omega
   rcases hst with rfl|rfl|rfl|rfl|rfl|rfl|rfl|rfl|rfl
   all_goals
    go_enter Tryz.func207,Tryz.ntmps207
    go_wp2_with fail
    go_ret;refine ⟨?_,rfl⟩;rw [←HR.out];unfold y2j
    repeat (first|rw [if_pos (by omega)]|rw [if_neg (by omega)])
    rfl
  ·rcases hst with rfl|rfl|rfl|rfl|rfl|rfl|rfl|rfl|rfl
   all_goals
    go_enter Tryz.func207,Tryz.ntmps207
    go_wp2_with fail
    go_ret;refine ⟨?_,rfl⟩;rw [←HR.out];unfold y2j
    repeat (first|rw [if_pos (by omega)]|rw [if_neg (by omega)])
    rfl
 all_goals
  rcases hst with rfl|rfl|rfl|rfl|rfl|rfl|rfl|rfl|rfl
  all_goals
   go_enter Tryz.func207,Tryz.ntmps207
   go_wp2_with fail
   go_ret;refine ⟨?_,rfl⟩;rw [←HR.out];rfl
theorem q30 (st:Int) (w:World) (h0:0≤st) (h8:st≤8):Calls Tryz.prog 208 #[.int .i64 st] w fun e w'=>e= .returned (.int .i64 (z6y st))∧w'=w:=by
 have hst:st=0∨st=1∨st=2∨st=3∨st=4∨st=5∨st=6∨st=7∨st=8:=by omega
 rcases hst with rfl|rfl|rfl|rfl|rfl|rfl|rfl|rfl|rfl
 all_goals
  go_enter Tryz.func208,Tryz.ntmps208
  go_wp2_with fail
  go_ret;exact ⟨rfl,rfl⟩
def y1g:List Int→Nat→Int→Nat→Int→Nat×Nat×Int
 |[],k,st,e,f=>(e,k,f)
 |c::r,k,st,e,f=>
  if y2j st c<0 then (e,k,f)
  else if z6y (y2j st c)≠0 then y1g r (k+1) (y2j st c) (k+1) (z6y (y2j st c))
  else y1g r (k+1) (y2j st c) e f
theorem y99: ∀(l:List Int) (k:Nat) (st:Int) (e:Nat) (f:Int),e≤k→e≤(y1g l k st e f).1
 |[],k,st,e,f,h=>Qab _
 |c::r,k,st,e,f,h=>by
  rw [y1g];split
  ·exact Qab _
  ·split
   ·have:=y99 r (k+1) (y2j st c) (k+1) (z6y (y2j st c)) (Qab _);omega
   ·exact y99 r (k+1) (y2j st c) e f (by omega)
theorem z3d: ∀(l:List Int) (k:Nat) (st:Int) (e:Nat) (f:Int) (z:Int),e≤k→l.getLast?=some z→z<43→(y1g l k st e f).1<k+l.length
 |[],k,st,e,f,z,h,hz,hz2=>by simp at hz
 |[c],k,st,e,f,z,h,hz,hz2=>by
  simp only [List.getLast?_singleton,Option.some.injEq] at hz;subst hz;rw [y1g,if_pos (by by_cases h0:0≤y2j st c;have:=step_end h0;omega;omega)];simp only [Qbj];omega
 |c::d::r,k,st,e,f,z,h,hz,hz2=>by
  have hz':(d::r).getLast?=some z:=by rw [List.getLast?_cons_cons] at hz;exact hz
  rw [y1g];split
  ·simp only [List.length_cons];omega
  ·split
   ·have:=z3d (d::r) (k+1) (y2j st c) (k+1) (z6y (y2j st c)) z (Qab _) hz' hz2;simp only [List.length_cons] at this ⊢;omega
   ·have:=z3d (d::r) (k+1) (y2j st c) e f z (by omega) hz' hz2;simp only [List.length_cons] at this ⊢;omega
def y6p (s:List Int) (i:Nat):Nat×Nat×Int:=y1g (s.drop i) i 0 i 0
set_option maxHeartbeats 8000000 in
theorem x5t (A:Option Addr) (n c B:Nat) (s:List Int) (w:World) (hr:Rd w B A (s.map (Value.int .i32))) (hn:s.length=n) (h63:n≤1099511627776) (i:Nat) (hi:i≤n):
  Calls Tryz.prog 201 #[.slice A n c,.int .i64 i] w fun e w'=>e= .returned (.tuple #[.int .i64 (y6p s i).1,.int .i64 (y6p s i).2.1,.int .i64 (y6p s i).2.2])∧w'=w:=by
 obtain ⟨r1,r2,r3,hrr⟩: ∃r1 r2 r3,y6p s i=(r1,r2,r3):=⟨_,_,_,rfl⟩;rw [hrr];have HN:=hide hn;have HH:Hid (y1g (s.drop i) i 0 i 0=(r1,r2,r3)):=hrr;clear hn hrr
 have hiI: ¬(n:Int)<(i:Int):=by omega
 have hi0: ¬(i:Int)<0:=by omega
 go_enter Tryz.func201,Tryz.ntmps201
 go_wp2_with fail
 go_loopw [7,8,9,10,11] (fun ve vf vs vk _ wr=>∃(k e:Nat) (st f:Int),k≤n∧vk= .int .i64 k∧ve= .int .i64 e∧vs= .int .i64 st∧vf= .int .i64 f∧0≤st∧st≤8∧Hid (y1g (s.drop k) k st e f=(r1,r2,r3))∧wr=w) (fun _ _ _ vk _ _=>n - (intOf vk).toNat)
 case atStart=>exact ⟨i,i,0,0,hi,rfl,rfl,rfl,rfl,by omega,by omega,HH,rfl⟩
 case round=>
  obtain ⟨k,e,st,f,hk,rfl,rfl,rfl,rfl,hs0,hs8,hp,rfl⟩:=hrel;by_cases hlt:k<n
  ·have hkI:(k:Int)<(n:Int):=by omega
   obtain ⟨z,hz⟩: ∃z,s[k]?=some z:=⟨_,Qad (by rw [HN.out];exact hlt)⟩;obtain ⟨ad,rfl,hc⟩:=y2g hr hz;have h0:=hp.out;obtain ⟨hk',hzz⟩:=Qac.1 hz;rw [Qa1 hk',hzz,y1g] at h0;have hb:=x5s st z;obtain ⟨q,hq⟩: ∃q,y2j st z=q:=⟨_,rfl⟩;have hcall:=fun w=>q3z st z w hs0 hs8;rw [hq] at h0 hb hcall;clear hz hzz hq;by_cases hneg:q<0
   ·rw [if_pos hneg] at h0;injection h0 with e1 h0;injection h0 with e2 e3;subst e1 e2 e3
    go_wp2_with (first|(go_at_call 207;refine (hcall _).mono ?_;rintro e w' ⟨rfl,rfl⟩))
    go_ret3
    exact ⟨rfl,rfl⟩
   ·rw [if_neg hneg] at h0;have hcall2:=fun w=>q30 q w (by omega) hb.2;obtain ⟨g,hg⟩: ∃g,z6y q=g:=⟨_,rfl⟩;rw [hg] at h0 hcall2;by_cases hg0:g=0
    ·rw [if_neg (by omega)] at h0;have H0:=hide h0
     have b1:((g:Int) !=0)=false:=by rw [bne_eq_false_iff_eq];exact hg0
     clear h0 hg
     go_wp2_with (first|(go_at_call 207;refine (hcall _).mono ?_;rintro e w' ⟨rfl,rfl⟩)|(go_at_call 208;refine (hcall2 _).mono ?_;rintro e w' ⟨rfl,rfl⟩))
     go_roundw
     case rel=>exact ⟨k+1,e,q,f,by omega,by go_num,rfl,rfl,rfl,by omega,hb.2,H0,trivial⟩
     case measure=>simp [intOf];omega
    ·rw [if_pos hg0] at h0;have H0:=hide h0
     have b1:((g:Int) !=0)=true:=by rw [Qa8];exact hg0
     clear h0 hg
     go_wp2_with (first|(go_at_call 207;refine (hcall _).mono ?_;rintro e w' ⟨rfl,rfl⟩)|(go_at_call 208;refine (hcall2 _).mono ?_;rintro e w' ⟨rfl,rfl⟩))
     go_roundw
     case rel=>exact ⟨k+1,k+1,q,g,by omega,by go_num,by go_num,rfl,rfl,by omega,hb.2,H0,trivial⟩
     case measure=>simp [intOf];omega
  ·obtain rfl:k=n:=by omega
   have h0:=hp.out;rw [Qbo (by rw [HN.out];exact Qab _),y1g] at h0;injection h0 with e1 h0;injection h0 with e2 e3;subst e1 e2 e3;clear hp HN
   go_wp2_with fail
   go_ret3
   exact ⟨rfl,rfl⟩
def numF (s:List Int) (i:Nat):Nat×Int:=match s[(y6p s i).1]? with
 |none=>(i,1)
 |some z=>if (y6p s i).1=i∨z=46∨z3b z=true then (i,1) else ((y6p s i).1,if (y6p s i).2.2=1 then 4 else 5)
theorem x09 (A:Option Addr) (n c B:Nat) (s:List Int) (w:World) (hr:Rd w B A (s.map (Value.int .i32))) (hn:s.length=n) (h63:n≤1099511627776) (i:Nat) (hi:i<n) (z0:Int) (hlast:s.getLast?=some z0) (hz0:z0<43):
  Calls Tryz.prog 195 #[.slice A n c,.int .i64 i] w fun e w'=>e= .returned (.tuple #[.int .i64 (numF s i).1,.int .i64 (numF s i).2])∧w'=w:=by
 obtain ⟨q1,q2,hq⟩: ∃q1 q2,numF s i=(q1,q2):=⟨_,_,rfl⟩;rw [hq];unfold numF at hq;obtain ⟨p,p2,fm,hp⟩: ∃p p2 fm,y6p s i=(p,p2,fm):=⟨_,_,_,rfl⟩;have hcall:=fun w hr=>x5t A n c B s w hr hn h63 i (by omega)
 have hpi:i≤p∧p<n:=by
  have h1:=y99 (s.drop i) i 0 i 0 (Qab _)
  have hd:(s.drop i).getLast?=some z0:=by
   rw [List.getLast?_drop,if_neg (by omega)];exact hlast
  have h2:=z3d (s.drop i) i 0 i 0 z0 (Qab _) hd hz0;have h3:y1g (s.drop i) i 0 i 0=(p,p2,fm):=hp;rw [h3] at h1 h2;simp only [Qav] at h1 h2;omega
 rw [hp] at hq hcall;clear hp;simp only at hq hcall;obtain ⟨z,hz⟩: ∃z,s[p]?=some z:=⟨_,Qad (by omega)⟩;rw [hz] at hq;simp only at hq
 have hpI:(p:Int)<(n:Int):=by omega
 obtain ⟨ad,rfl,hc⟩:=y2g hr hz;obtain ⟨h1,h2⟩:=hpi;clear hn hz hlast;by_cases h0:p=i
 ·rw [if_pos (.inl h0)] at hq;injection hq with e1 e2;subst e1 e2 h0;go_enter Tryz.func195,Tryz.ntmps195
  go_wp2_with (first|(go_at_call 201;refine (hcall _ hr).mono ?_;rintro e w' ⟨rfl,rfl⟩))
  go_ret2
  exact ⟨rfl,rfl⟩
 have b0:((p:Int)==(i:Int))=false:=by rw [Qa3];omega
 by_cases h46:z=46
 ·rw [if_pos (.inr (.inl h46))] at hq;injection hq with e1 e2;subst e1 e2 h46;go_enter Tryz.func195,Tryz.ntmps195
  go_wp2_with (first|(go_at_call 201;refine (hcall _ hr).mono ?_;rintro e w' ⟨rfl,rfl⟩))
  go_ret2
  exact ⟨rfl,rfl⟩
 have b1:((z:Int)==46)=false:=by rw [Qa3];exact h46
 have hrest:=fun w=>z13 z w
 cases hrs:z3b z with
 |true=>
  rw [if_pos (.inr (.inr hrs))] at hq;injection hq with e1 e2;subst e1 e2;rw [hrs] at hrest;clear h46 hrs;go_enter Tryz.func195,Tryz.ntmps195
  go_wp2_with (first|(go_at_call 201;refine (hcall _ hr).mono ?_;rintro e w' ⟨rfl,rfl⟩)|(go_at_call 200;refine (hrest _).mono ?_;rintro e w' ⟨rfl,rfl⟩))
  go_ret2
  exact ⟨rfl,rfl⟩
 |false=>
  rw [if_neg (by rw [hrs];simp [h0,h46])] at hq;injection hq with e1 e2;subst e1;rw [hrs] at hrest;clear h46 hrs;by_cases h4:fm=1
  ·rw [if_pos h4] at e2;subst e2 h4;go_enter Tryz.func195,Tryz.ntmps195
   go_wp2_with (first|(go_at_call 201;refine (hcall _ hr).mono ?_;rintro e w' ⟨rfl,rfl⟩)|(go_at_call 200;refine (hrest _).mono ?_;rintro e w' ⟨rfl,rfl⟩))
   go_ret2
   exact ⟨rfl,rfl⟩
  ·rw [if_neg h4] at e2;subst e2
   have b4:((fm:Int)==1)=false:=by rw [Qa3];exact h4
   clear h4;go_enter Tryz.func195,Tryz.ntmps195
   go_wp2_with (first|(go_at_call 201;refine (hcall _ hr).mono ?_;rintro e w' ⟨rfl,rfl⟩)|(go_at_call 200;refine (hrest _).mono ?_;rintro e w' ⟨rfl,rfl⟩))
   go_ret2
   exact ⟨rfl,rfl⟩
def z5h (c:Int):Int:=if c=34 then 34 else if c=92 then 92 else if c=47 then 47 else if c=98 then 8 else if c=102 then 12 else if c=110 then 10 else if c=114 then 13 else if c=116 then 9 else -1
def hexF (c:Int):Int:=if 48≤c∧c≤57 then c - 48 else if 97≤c∧c≤102 then c - 87 else if 65≤c∧c≤70 then c - 55 else -1
set_option maxHeartbeats 16000000 in
theorem x8t (c:Int) (w:World):Calls Tryz.prog 218 #[.int .i32 c] w fun e w'=>e= .returned (.int .i32 (z5h c))∧w'=w:=by
 obtain ⟨r,hr⟩: ∃r,z5h c=r:=⟨_,rfl⟩;rw [hr];have HR:=hide hr;clear hr;go_enter Tryz.func218,Tryz.ntmps218
 go_wp2_with fail
 go_loopw [5] (fun i wr=>∃k:Nat,k≤8∧i= .int .i64 k∧Hid ((0<k→c≠34)∧(1<k→c≠92)∧(2<k→c≠47)∧(3<k→c≠98)∧(4<k→c≠102)∧(5<k→c≠110)∧(6<k→c≠114)∧(7<k→c≠116))∧wr=w) (fun i _=>8 - (intOf i).toNat)
 case atStart=>exact ⟨0,by omega,rfl,by refine ⟨?_,?_,?_,?_,?_,?_,?_,?_⟩<;>omega,rfl⟩
 case round=>
  obtain ⟨k,hk,rfl,hno,rfl⟩:=hrel
  have hcs:k=0∨k=1∨k=2∨k=3∨k=4∨k=5∨k=6∨k=7∨k=8:=by omega
  clear hk;rcases hcs with rfl|rfl|rfl|rfl|rfl|rfl|rfl|rfl|rfl
  ·have n1:wrap32 ((({data:= #[34,92,47,98,102,110,114,116]}:ByteArray)[0]'(by decide)).toNat:Int)=34:=by kernel_rfl
   have n2:wrap32 ((({data:= #[34,92,47,8,12,10,13,9]}:ByteArray)[0]'(by decide)).toNat:Int)=34:=by kernel_rfl
   by_cases heq:c=34
   ·subst heq;clear hno
    go_wp2_with fail
    go_ret;exact ⟨congrArg (fun z=>Ending.returned (.int .i32 z)) (n2.trans (show (34:Int)=r from HR.out)),rfl⟩
   ·have b1:((34:Int)==c)=false:=by rw [Qa3];omega
    have h1:Hid ((0<1→c≠34)∧(1<1→c≠92)∧(2<1→c≠47)∧(3<1→c≠98)∧(4<1→c≠102)∧(5<1→c≠110)∧(6<1→c≠114)∧(7<1→c≠116)):=by
     have h0:=hno.out
     refine ⟨?_,?_,?_,?_,?_,?_,?_,?_⟩<;>intro hx<;>first|omega|(intro hy;omega)
    clear hno heq
    go_wp2_with fail
    go_roundw
    case rel=>exact ⟨1,by omega,rfl,h1,trivial⟩
    case measure=>simp [intOf]
  ·have n1:wrap32 ((({data:= #[34,92,47,98,102,110,114,116]}:ByteArray)[1]'(by decide)).toNat:Int)=92:=by kernel_rfl
   have n2:wrap32 ((({data:= #[34,92,47,8,12,10,13,9]}:ByteArray)[1]'(by decide)).toNat:Int)=92:=by kernel_rfl
   by_cases heq:c=92
   ·subst heq;clear hno
    go_wp2_with fail
    go_ret;exact ⟨congrArg (fun z=>Ending.returned (.int .i32 z)) (n2.trans (show (92:Int)=r from HR.out)),rfl⟩
   ·have b1:((92:Int)==c)=false:=by rw [Qa3];omega
    have h1:Hid ((0<2→c≠34)∧(1<2→c≠92)∧(2<2→c≠47)∧(3<2→c≠98)∧(4<2→c≠102)∧(5<2→c≠110)∧(6<2→c≠114)∧(7<2→c≠116)):=by
     have h0:=hno.out
     refine ⟨?_,?_,?_,?_,?_,?_,?_,?_⟩<;>intro hx<;>first|omega|(intro hy;omega)
    clear hno heq
    go_wp2_with fail
    go_roundw
    case rel=>exact ⟨2,by omega,rfl,h1,trivial⟩
    case measure=>simp [intOf]
  ·have n1:wrap32 ((({data:= #[34,92,47,98,102,110,114,116]}:ByteArray)[2]'(by decide)).toNat:Int)=47:=by kernel_rfl
   have n2:wrap32 ((({data:= #[34,92,47,8,12,10,13,9]}:ByteArray)[2]'(by decide)).toNat:Int)=47:=by kernel_rfl
   by_cases heq:c=47
   ·subst heq;clear hno
    go_wp2_with fail
    go_ret;exact ⟨congrArg (fun z=>Ending.returned (.int .i32 z)) (n2.trans (show (47:Int)=r from HR.out)),rfl⟩
   ·have b1:((47:Int)==c)=false:=by rw [Qa3];omega
    have h1:Hid ((0<3→c≠34)∧(1<3→c≠92)∧(2<3→c≠47)∧(3<3→c≠98)∧(4<3→c≠102)∧(5<3→c≠110)∧(6<3→c≠114)∧(7<3→c≠116)):=by
     have h0:=hno.out
     refine ⟨?_,?_,?_,?_,?_,?_,?_,?_⟩<;>intro hx<;>first|omega|(intro hy;omega)
    clear hno heq
    go_wp2_with fail
    go_roundw
    case rel=>exact ⟨3,by omega,rfl,h1,trivial⟩
    case measure=>simp [intOf]
  ·have n1:wrap32 ((({data:= #[34,92,47,98,102,110,114,116]}:ByteArray)[3]'(by decide)).toNat:Int)=98:=by kernel_rfl
   have n2:wrap32 ((({data:= #[34,92,47,8,12,10,13,9]}:ByteArray)[3]'(by decide)).toNat:Int)=8:=by kernel_rfl
   by_cases heq:c=98
   ·subst heq;clear hno
    go_wp2_with fail
    go_ret;exact ⟨congrArg (fun z=>Ending.returned (.int .i32 z)) (n2.trans (show (8:Int)=r from HR.out)),rfl⟩
   ·have b1:((98:Int)==c)=false:=by rw [Qa3];omega
    have h1:Hid ((0<4→c≠34)∧(1<4→c≠92)∧(2<4→c≠47)∧(3<4→c≠98)∧(4<4→c≠102)∧(5<4→c≠110)∧(6<4→c≠114)∧(7<4→c≠116)):=by
     have h0:=hno.out
     refine ⟨?_,?_,?_,?_,?_,?_,?_,?_⟩<;>intro hx<;>first|omega|(intro hy;omega)
    clear hno heq
    go_wp2_with fail
    go_roundw
    case rel=>exact ⟨4,by omega,rfl,h1,trivial⟩
    case measure=>simp [intOf]
  ·have n1:wrap32 ((({data:= #[34,92,47,98,102,110,114,116]}:ByteArray)[4]'(by decide)).toNat:Int)=102:=by kernel_rfl
   have n2:wrap32 ((({data:= #[34,92,47,8,12,10,13,9]}:ByteArray)[4]'(by decide)).toNat:Int)=12:=by kernel_rfl
   by_cases heq:c=102
   ·subst heq;clear hno
    go_wp2_with fail
    go_ret;exact ⟨congrArg (fun z=>Ending.returned (.int .i32 z)) (n2.trans (show (12:Int)=r from HR.out)),rfl⟩
   ·have b1:((102:Int)==c)=false:=by rw [Qa3];omega
    have h1:Hid ((0<5→c≠34)∧(1<5→c≠92)∧(2<5→c≠47)∧(3<5→c≠98)∧(4<5→c≠102)∧(5<5→c≠110)∧(6<5→c≠114)∧(7<5→c≠116)):=by
     have h0:=hno.out
     refine ⟨?_,?_,?_,?_,?_,?_,?_,?_⟩<;>intro hx<;>first|omega|(intro hy;omega)
    clear hno heq
    go_wp2_with fail
    go_roundw
    case rel=>exact ⟨5,by omega,rfl,h1,trivial⟩
    case measure=>simp [intOf]
  ·have n1:wrap32 ((({data:= #[34,92,47,98,102,110,114,116]}:ByteArray)[5]'(by decide)).toNat:Int)=110:=by kernel_rfl
   have n2:wrap32 ((({data:= #[34,92,47,8,12,10,13,9]}:ByteArray)[5]'(by decide)).toNat:Int)=10:=by kernel_rfl
   by_cases heq:c=110
   ·subst heq;clear hno
    go_wp2_with fail
    go_ret;exact ⟨congrArg (fun z=>Ending.returned (.int .i32 z)) (n2.trans (show (10:Int)=r from HR.out)),rfl⟩
   ·have b1:((110:Int)==c)=false:=by rw [Qa3];omega
    have h1:Hid ((0<6→c≠34)∧(1<6→c≠92)∧(2<6→c≠47)∧(3<6→c≠98)∧(4<6→c≠102)∧(5<6→c≠110)∧(6<6→c≠114)∧(7<6→c≠116)):=by
     have h0:=hno.out
     refine ⟨?_,?_,?_,?_,?_,?_,?_,?_⟩<;>intro hx<;>first|omega|(intro hy;omega)
    clear hno heq
    go_wp2_with fail
    go_roundw
    case rel=>exact ⟨6,by omega,rfl,h1,trivial⟩
    case measure=>simp [intOf]
  ·have n1:wrap32 ((({data:= #[34,92,47,98,102,110,114,116]}:ByteArray)[6]'(by decide)).toNat:Int)=114:=by kernel_rfl
   have n2:wrap32 ((({data:= #[34,92,47,8,12,10,13,9]}:ByteArray)[6]'(by decide)).toNat:Int)=13:=by kernel_rfl
   by_cases heq:c=114
   ·subst heq;clear hno
    go_wp2_with fail
    go_ret;exact ⟨congrArg (fun z=>Ending.returned (.int .i32 z)) (n2.trans (show (13:Int)=r from HR.out)),rfl⟩
   ·have b1:((114:Int)==c)=false:=by rw [Qa3];omega
    have h1:Hid ((0<7→c≠34)∧(1<7→c≠92)∧(2<7→c≠47)∧(3<7→c≠98)∧(4<7→c≠102)∧(5<7→c≠110)∧(6<7→c≠114)∧(7<7→c≠116)):=by
     have h0:=hno.out
     refine ⟨?_,?_,?_,?_,?_,?_,?_,?_⟩<;>intro hx<;>first|omega|(intro hy;omega)
    clear hno heq
    go_wp2_with fail
    go_roundw
    case rel=>exact ⟨7,by omega,rfl,h1,trivial⟩
    case measure=>simp [intOf]
  ·have n1:wrap32 ((({data:= #[34,92,47,98,102,110,114,116]}:ByteArray)[7]'(by decide)).toNat:Int)=116:=by kernel_rfl
   have n2:wrap32 ((({data:= #[34,92,47,8,12,10,13,9]}:ByteArray)[7]'(by decide)).toNat:Int)=9:=by kernel_rfl
   by_cases heq:c=116
   ·subst heq;clear hno
    go_wp2_with fail
    go_ret;exact ⟨congrArg (fun z=>Ending.returned (.int .i32 z)) (n2.trans (show (9:Int)=r from HR.out)),rfl⟩
   ·have b1:((116:Int)==c)=false:=by rw [Qa3];omega
    have h1:Hid ((0<8→c≠34)∧(1<8→c≠92)∧(2<8→c≠47)∧(3<8→c≠98)∧(4<8→c≠102)∧(5<8→c≠110)∧(6<8→c≠114)∧(7<8→c≠116)):=by
     have h0:=hno.out
     refine ⟨?_,?_,?_,?_,?_,?_,?_,?_⟩<;>intro hx<;>first|omega|(intro hy;omega)
    clear hno heq
    go_wp2_with fail
    go_roundw
    case rel=>exact ⟨8,by omega,rfl,h1,trivial⟩
    case measure=>simp [intOf]
  ·have h0:=hno.out
   have hrr:r= -1:=by
    rw [←HR.out];unfold z5h
    repeat (first|rw [if_neg (by omega)]|rfl)
   subst hrr;clear hno h0
   go_wp2_with fail
   go_ret;exact ⟨rfl,rfl⟩
set_option maxHeartbeats 32000000 in
theorem q73 (c:Int) (w:World):Calls Tryz.prog 222 #[.int .i32 c] w fun e w'=>e= .returned (.int .i64 (hexF c))∧w'=w:=by
 obtain ⟨r,hr⟩: ∃r,hexF c=r:=⟨_,rfl⟩;rw [hr];have HR:=hide hr;clear hr;go_enter Tryz.func222,Tryz.ntmps222
 go_wp2_with fail
 go_loopw [5] (fun i wr=>∃k:Nat,k≤16∧i= .int .i64 k∧Hid (¬(48≤c∧c≤57∧c<48+k)∧ ¬(97≤c∧c+10<97+k)∧ ¬(65≤c∧c+10<65+k))∧wr=w) (fun i _=>16 - (intOf i).toNat)
 case atStart=>exact ⟨0,by omega,rfl,by refine ⟨?_,?_,?_⟩<;>omega,rfl⟩
 case round=>
  obtain ⟨k,hk,rfl,hno,rfl⟩:=hrel
  have hcs:k=0∨k=1∨k=2∨k=3∨k=4∨k=5∨k=6∨k=7∨k=8∨k=9∨k=10∨k=11∨k=12∨k=13∨k=14∨k=15∨k=16:=by omega
  clear hk;rcases hcs with rfl|rfl|rfl|rfl|rfl|rfl|rfl|rfl|rfl|rfl|rfl|rfl|rfl|rfl|rfl|rfl|rfl
  ·have n1:wrap32 ((({data:= #[48,49,50,51,52,53,54,55,56,57,97,98,99,100,101,102]}:ByteArray)[0]'(by decide)).toNat:Int)=48:=by kernel_rfl
   have n2:wrap32 ((({data:= #[48,49,50,51,52,53,54,55,56,57,65,66,67,68,69,70]}:ByteArray)[0]'(by decide)).toNat:Int)=48:=by kernel_rfl
   by_cases heq:c=48
   ·subst heq;clear hno
    go_wp2_with fail
    go_ret;refine ⟨?_,rfl⟩;rw [←HR.out];rfl
   have b1:((48:Int)==c)=false:=by rw [Qa3];omega
   have h1:Hid (¬(48≤c∧c≤57∧c<48+((1:Nat):Int))∧ ¬(97≤c∧c+10<97+((1:Nat):Int))∧ ¬(65≤c∧c+10<65+((1:Nat):Int))):=by
    have h0:=hno.out
    refine ⟨?_,?_,?_⟩<;>omega
   clear hno heq
   go_wp2_with fail
   go_roundw
   case rel=>exact ⟨1,by omega,rfl,h1,trivial⟩
   case measure=>simp [intOf]
  ·have n1:wrap32 ((({data:= #[48,49,50,51,52,53,54,55,56,57,97,98,99,100,101,102]}:ByteArray)[1]'(by decide)).toNat:Int)=49:=by kernel_rfl
   have n2:wrap32 ((({data:= #[48,49,50,51,52,53,54,55,56,57,65,66,67,68,69,70]}:ByteArray)[1]'(by decide)).toNat:Int)=49:=by kernel_rfl
   by_cases heq:c=49
   ·subst heq;clear hno
    go_wp2_with fail
    go_ret;refine ⟨?_,rfl⟩;rw [←HR.out];rfl
   have b1:((49:Int)==c)=false:=by rw [Qa3];omega
   have h1:Hid (¬(48≤c∧c≤57∧c<48+((2:Nat):Int))∧ ¬(97≤c∧c+10<97+((2:Nat):Int))∧ ¬(65≤c∧c+10<65+((2:Nat):Int))):=by
    have h0:=hno.out
    refine ⟨?_,?_,?_⟩<;>omega
   clear hno heq
   go_wp2_with fail
   go_roundw
   case rel=>exact ⟨2,by omega,rfl,h1,trivial⟩
   case measure=>simp [intOf]
  ·have n1:wrap32 ((({data:= #[48,49,50,51,52,53,54,55,56,57,97,98,99,100,101,102]}:ByteArray)[2]'(by decide)).toNat:Int)=50:=by kernel_rfl
   have n2:wrap32 ((({data:= #[48,49,50,51,52,53,54,55,56,57,65,66,67,68,69,70]}:ByteArray)[2]'(by decide)).toNat:Int)=50:=by kernel_rfl
   by_cases heq:c=50
   ·subst heq;clear hno
    go_wp2_with fail
    go_ret;refine ⟨?_,rfl⟩;rw [←HR.out];rfl
   have b1:((50:Int)==c)=false:=by rw [Qa3];omega
   have h1:Hid (¬(48≤c∧c≤57∧c<48+((3:Nat):Int))∧ ¬(97≤c∧c+10<97+((3:Nat):Int))∧ ¬(65≤c∧c+10<65+((3:Nat):Int))):=by
    have h0:=hno.out
    refine ⟨?_,?_,?_⟩<;>omega
   clear hno heq
   go_wp2_with fail
   go_roundw
   case rel=>exact ⟨3,by omega,rfl,h1,trivial⟩
   case measure=>simp [intOf]
  ·have n1:wrap32 ((({data:= #[48,49,50,51,52,53,54,55,56,57,97,98,99,100,101,102]}:ByteArray)[3]'(by decide)).toNat:Int)=51:=by kernel_rfl
   have n2:wrap32 ((({data:= #[48,49,50,51,52,53,54,55,56,57,65,66,67,68,69,70]}:ByteArray)[3]'(by decide)).toNat:Int)=51:=by kernel_rfl
   by_cases heq:c=51
   ·subst heq;clear hno
    go_wp2_with fail
    go_ret;refine ⟨?_,rfl⟩;rw [←HR.out];rfl
   have b1:((51:Int)==c)=false:=by rw [Qa3];omega
   have h1:Hid (¬(48≤c∧c≤57∧c<48+((4:Nat):Int))∧ ¬(97≤c∧c+10<97+((4:Nat):Int))∧ ¬(65≤c∧c+10<65+((4:Nat):Int))):=by
    have h0:=hno.out
    refine ⟨?_,?_,?_⟩<;>omega
   clear hno heq
   go_wp2_with fail
   go_roundw
   case rel=>exact ⟨4,by omega,rfl,h1,trivial⟩
   case measure=>simp [intOf]
  ·have n1:wrap32 ((({data:= #[48,49,50,51,52,53,54,55,56,57,97,98,99,100,101,102]}:ByteArray)[4]'(by decide)).toNat:Int)=52:=by kernel_rfl
   have n2:wrap32 ((({data:= #[48,49,50,51,52,53,54,55,56,57,65,66,67,68,69,70]}:ByteArray)[4]'(by decide)).toNat:Int)=52:=by kernel_rfl
   by_cases heq:c=52
   ·subst heq;clear hno
    go_wp2_with fail
    go_ret;refine ⟨?_,rfl⟩;rw [←HR.out];rfl
   have b1:((52:Int)==c)=false:=by rw [Qa3];omega
   have h1:Hid (¬(48≤c∧c≤57∧c<48+((5:Nat):Int))∧ ¬(97≤c∧c+10<97+((5:Nat):Int))∧ ¬(65≤c∧c+10<65+((5:Nat):Int))):=by
    have h0:=hno.out
    refine ⟨?_,?_,?_⟩<;>omega
   clear hno heq
   go_wp2_with fail
   go_roundw
   case rel=>exact ⟨5,by omega,rfl,h1,trivial⟩
   case measure=>simp [intOf]
  ·have n1:wrap32 ((({data:= #[48,49,50,51,52,53,54,55,56,57,97,98,99,100,101,102]}:ByteArray)[5]'(by decide)).toNat:Int)=53:=by kernel_rfl
   have n2:wrap32 ((({data:= #[48,49,50,51,52,53,54,55,56,57,65,66,67,68,69,70]}:ByteArray)[5]'(by decide)).toNat:Int)=53:=by kernel_rfl
   by_cases heq:c=53
   ·subst heq;clear hno
    go_wp2_with fail
    go_ret;refine ⟨?_,rfl⟩;rw [←HR.out];rfl
   have b1:((53:Int)==c)=false:=by rw [Qa3];omega
   have h1:Hid (¬(48≤c∧c≤57∧c<48+((6:Nat):Int))∧ ¬(97≤c∧c+10<97+((6:Nat):Int))∧ ¬(65≤c∧c+10<65+((6:Nat):Int))):=by
    have h0:=hno.out
    refine ⟨?_,?_,?_⟩<;>omega
   clear hno heq
   go_wp2_with fail
   go_roundw
   case rel=>exact ⟨6,by omega,rfl,h1,trivial⟩
   case measure=>simp [intOf]
  ·have n1:wrap32 ((({data:= #[48,49,50,51,52,53,54,55,56,57,97,98,99,100,101,102]}:ByteArray)[6]'(by decide)).toNat:Int)=54:=by kernel_rfl
   have n2:wrap32 ((({data:= #[48,49,50,51,52,53,54,55,56,57,65,66,67,68,69,70]}:ByteArray)[6]'(by decide)).toNat:Int)=54:=by kernel_rfl
   by_cases heq:c=54
   ·subst heq;clear hno
    go_wp2_with fail
    go_ret;refine ⟨?_,rfl⟩;rw [←HR.out];rfl
   have b1:((54:Int)==c)=false:=by rw [Qa3];omega
   have h1:Hid (¬(48≤c∧c≤57∧c<48+((7:Nat):Int))∧ ¬(97≤c∧c+10<97+((7:Nat):Int))∧ ¬(65≤c∧c+10<65+((7:Nat):Int))):=by
    have h0:=hno.out
    refine ⟨?_,?_,?_⟩<;>omega
   clear hno heq
   go_wp2_with fail
   go_roundw
   case rel=>exact ⟨7,by omega,rfl,h1,trivial⟩
   case measure=>simp [intOf]
  ·have n1:wrap32 ((({data:= #[48,49,50,51,52,53,54,55,56,57,97,98,99,100,101,102]}:ByteArray)[7]'(by decide)).toNat:Int)=55:=by kernel_rfl
   have n2:wrap32 ((({data:= #[48,49,50,51,52,53,54,55,56,57,65,66,67,68,69,70]}:ByteArray)[7]'(by decide)).toNat:Int)=55:=by kernel_rfl
   by_cases heq:c=55
   ·subst heq;clear hno
    go_wp2_with fail
    go_ret;refine ⟨?_,rfl⟩;rw [←HR.out];rfl
   have b1:((55:Int)==c)=false:=by rw [Qa3];omega
   have h1:Hid (¬(48≤c∧c≤57∧c<48+((8:Nat):Int))∧ ¬(97≤c∧c+10<97+((8:Nat):Int))∧ ¬(65≤c∧c+10<65+((8:Nat):Int))):=by
    have h0:=hno.out
    refine ⟨?_,?_,?_⟩<;>omega
   clear hno heq
   go_wp2_with fail
   go_roundw
   case rel=>exact ⟨8,by omega,rfl,h1,trivial⟩
   case measure=>simp [intOf]
  ·have n1:wrap32 ((({data:= #[48,49,50,51,52,53,54,55,56,57,97,98,99,100,101,102]}:ByteArray)[8]'(by decide)).toNat:Int)=56:=by kernel_rfl
   have n2:wrap32 ((({data:= #[48,49,50,51,52,53,54,55,56,57,65,66,67,68,69,70]}:ByteArray)[8]'(by decide)).toNat:Int)=56:=by kernel_rfl
   by_cases heq:c=56
   ·subst heq;clear hno
    go_wp2_with fail
    go_ret;refine ⟨?_,rfl⟩;rw [←HR.out];rfl
   have b1:((56:Int)==c)=false:=by rw [Qa3];omega
   have h1:Hid (¬(48≤c∧c≤57∧c<48+((9:Nat):Int))∧ ¬(97≤c∧c+10<97+((9:Nat):Int))∧ ¬(65≤c∧c+10<65+((9:Nat):Int))):=by
    have h0:=hno.out
    refine ⟨?_,?_,?_⟩<;>omega
   clear hno heq
   go_wp2_with fail
   go_roundw
   case rel=>exact ⟨9,by omega,rfl,h1,trivial⟩
   case measure=>simp [intOf]
  ·have n1:wrap32 ((({data:= #[48,49,50,51,52,53,54,55,56,57,97,98,99,100,101,102]}:ByteArray)[9]'(by decide)).toNat:Int)=57:=by kernel_rfl
   have n2:wrap32 ((({data:= #[48,49,50,51,52,53,54,55,56,57,65,66,67,68,69,70]}:ByteArray)[9]'(by decide)).toNat:Int)=57:=by kernel_rfl
   by_cases heq:c=57
   ·subst heq;clear hno
    go_wp2_with fail
    go_ret;refine ⟨?_,rfl⟩;rw [←HR.out];rfl
   have b1:((57:Int)==c)=false:=by rw [Qa3];omega
   have h1:Hid (¬(48≤c∧c≤57∧c<48+((10:Nat):Int))∧ ¬(97≤c∧c+10<97+((10:Nat):Int))∧ ¬(65≤c∧c+10<65+((10:Nat):Int))):=by
    have h0:=hno.out
    refine ⟨?_,?_,?_⟩<;>omega
   clear hno heq
   go_wp2_with fail
   go_roundw
   case rel=>exact ⟨10,by omega,rfl,h1,trivial⟩
   case measure=>simp [intOf]
  ·have n1:wrap32 ((({data:= #[48,49,50,51,52,53,54,55,56,57,97,98,99,100,101,102]}:ByteArray)[10]'(by decide)).toNat:Int)=97:=by kernel_rfl
   have n2:wrap32 ((({data:= #[48,49,50,51,52,53,54,55,56,57,65,66,67,68,69,70]}:ByteArray)[10]'(by decide)).toNat:Int)=65:=by kernel_rfl
   by_cases heq:c=97
   ·subst heq;clear hno
    go_wp2_with fail
    go_ret;refine ⟨?_,rfl⟩;rw [←HR.out];rfl
   by_cases heq2:c=65
   ·subst heq2;clear hno
    go_wp2_with fail
    go_ret;refine ⟨?_,rfl⟩;rw [←HR.out];rfl
   have b1:((97:Int)==c)=false:=by rw [Qa3];omega
   have b2:((65:Int)==c)=false:=by rw [Qa3];omega
   have h1:Hid (¬(48≤c∧c≤57∧c<48+((11:Nat):Int))∧ ¬(97≤c∧c+10<97+((11:Nat):Int))∧ ¬(65≤c∧c+10<65+((11:Nat):Int))):=by
    have h0:=hno.out
    refine ⟨?_,?_,?_⟩<;>omega
   clear hno heq heq2
   go_wp2_with fail
   go_roundw
   case rel=>exact ⟨11,by omega,rfl,h1,trivial⟩
   case measure=>simp [intOf]
  ·have n1:wrap32 ((({data:= #[48,49,50,51,52,53,54,55,56,57,97,98,99,100,101,102]}:ByteArray)[11]'(by decide)).toNat:Int)=98:=by kernel_rfl
   have n2:wrap32 ((({data:= #[48,49,50,51,52,53,54,55,56,57,65,66,67,68,69,70]}:ByteArray)[11]'(by decide)).toNat:Int)=66:=by kernel_rfl
   by_cases heq:c=98
   ·subst heq;clear hno
    go_wp2_with fail
    go_ret;refine ⟨?_,rfl⟩;rw [←HR.out];rfl
   by_cases heq2:c=66
   ·subst heq2;clear hno
    go_wp2_with fail
    go_ret;refine ⟨?_,rfl⟩;rw [←HR.out];rfl
   have b1:((98:Int)==c)=false:=by rw [Qa3];omega
   have b2:((66:Int)==c)=false:=by rw [Qa3];omega
   have h1:Hid (¬(48≤c∧c≤57∧c<48+((12:Nat):Int))∧ ¬(97≤c∧c+10<97+((12:Nat):Int))∧ ¬(65≤c∧c+10<65+((12:Nat):Int))):=by
    have h0:=hno.out
    refine ⟨?_,?_,?_⟩<;>omega
   clear hno heq heq2
   go_wp2_with fail
   go_roundw
   case rel=>exact ⟨12,by omega,rfl,h1,trivial⟩
   case measure=>simp [intOf]
  ·have n1:wrap32 ((({data:= #[48,49,50,51,52,53,54,55,56,57,97,98,99,100,101,102]}:ByteArray)[12]'(by decide)).toNat:Int)=99:=by kernel_rfl
   have n2:wrap32 ((({data:= #[48,49,50,51,52,53,54,55,56,57,65,66,67,68,69,70]}:ByteArray)[12]'(by decide)).toNat:Int)=67:=by kernel_rfl
   by_cases heq:c=99
   ·subst heq;clear hno
    go_wp2_with fail
    go_ret;refine ⟨?_,rfl⟩;rw [←HR.out];rfl
   by_cases heq2:c=67
   ·subst heq2;clear hno
    go_wp2_with fail
    go_ret;refine ⟨?_,rfl⟩;rw [←HR.out];rfl
   have b1:((99:Int)==c)=false:=by rw [Qa3];omega
   have b2:((67:Int)==c)=false:=by rw [Qa3];omega
   have h1:Hid (¬(48≤c∧c≤57∧c<48+((13:Nat):Int))∧ ¬(97≤c∧c+10<97+((13:Nat):Int))∧ ¬(65≤c∧c+10<65+((13:Nat):Int))):=by
    have h0:=hno.out
    refine ⟨?_,?_,?_⟩<;>omega
   clear hno heq heq2
   go_wp2_with fail
   go_roundw
   case rel=>exact ⟨13,by omega,rfl,h1,trivial⟩
   case measure=>simp [intOf]
  ·have n1:wrap32 ((({data:= #[48,49,50,51,52,53,54,55,56,57,97,98,99,100,101,102]}:ByteArray)[13]'(by decide)).toNat:Int)=100:=by kernel_rfl
   have n2:wrap32 ((({data:= #[48,49,50,51,52,53,54,55,56,57,65,66,67,68,69,70]}:ByteArray)[13]'(by decide)).toNat:Int)=68:=by kernel_rfl
   by_cases heq:c=100
   ·subst heq;clear hno
    go_wp2_with fail
    go_ret;refine ⟨?_,rfl⟩;rw [←HR.out];rfl
   by_cases heq2:c=68
   ·subst heq2;clear hno
    go_wp2_with fail
    go_ret;refine ⟨?_,rfl⟩;rw [←HR.out];rfl
   have b1:((100:Int)==c)=false:=by rw [Qa3];omega
   have b2:((68:Int)==c)=false:=by rw [Qa3];omega
   have h1:Hid (¬(48≤c∧c≤57∧c<48+((14:Nat):Int))∧ ¬(97≤c∧c+10<97+((14:Nat):Int))∧ ¬(65≤c∧c+10<65+((14:Nat):Int))):=by
    have h0:=hno.out
    refine ⟨?_,?_,?_⟩<;>omega
   clear hno heq heq2
   go_wp2_with fail
   go_roundw
   case rel=>exact ⟨14,by omega,rfl,h1,trivial⟩
   case measure=>simp [intOf]
  ·have n1:wrap32 ((({data:= #[48,49,50,51,52,53,54,55,56,57,97,98,99,100,101,102]}:ByteArray)[14]'(by decide)).toNat:Int)=101:=by kernel_rfl
   have n2:wrap32 ((({data:= #[48,49,50,51,52,53,54,55,56,57,65,66,67,68,69,70]}:ByteArray)[14]'(by decide)).toNat:Int)=69:=by kernel_rfl
   by_cases heq:c=101
   ·subst heq;clear hno
    go_wp2_with fail
    go_ret;refine ⟨?_,rfl⟩;rw [←HR.out];rfl
   by_cases heq2:c=69
   ·subst heq2;clear hno
    go_wp2_with fail
    go_ret;refine ⟨?_,rfl⟩;rw [←HR.out];rfl
   have b1:((101:Int)==c)=false:=by rw [Qa3];omega
   have b2:((69:Int)==c)=false:=by rw [Qa3];omega
   have h1:Hid (¬(48≤c∧c≤57∧c<48+((15:Nat):Int))∧ ¬(97≤c∧c+10<97+((15:Nat):Int))∧ ¬(65≤c∧c+10<65+((15:Nat):Int))):=by
    have h0:=hno.out
    refine ⟨?_,?_,?_⟩<;>omega
   clear hno heq heq2
   go_wp2_with fail
   go_roundw
   case rel=>exact ⟨15,by omega,rfl,h1,trivial⟩
   case measure=>simp [intOf]
  ·have n1:wrap32 ((({data:= #[48,49,50,51,52,53,54,55,56,57,97,98,99,100,101,102]}:ByteArray)[15]'(by decide)).toNat:Int)=102:=by kernel_rfl
   have n2:wrap32 ((({data:= #[48,49,50,51,52,53,54,55,56,57,65,66,67,68,69,70]}:ByteArray)[15]'(by decide)).toNat:Int)=70:=by kernel_rfl
   by_cases heq:c=102
   ·subst heq;clear hno
    go_wp2_with fail
    go_ret;refine ⟨?_,rfl⟩;rw [←HR.out];rfl
   by_cases heq2:c=70
   ·subst heq2;clear hno
    go_wp2_with fail
    go_ret;refine ⟨?_,rfl⟩;rw [←HR.out];rfl
   have b1:((102:Int)==c)=false:=by rw [Qa3];omega
   have b2:((70:Int)==c)=false:=by rw [Qa3];omega
   have h1:Hid (¬(48≤c∧c≤57∧c<48+((16:Nat):Int))∧ ¬(97≤c∧c+10<97+((16:Nat):Int))∧ ¬(65≤c∧c+10<65+((16:Nat):Int))):=by
    have h0:=hno.out
    refine ⟨?_,?_,?_⟩<;>omega
   clear hno heq heq2
   go_wp2_with fail
   go_roundw
   case rel=>exact ⟨16,by omega,rfl,h1,trivial⟩
   case measure=>simp [intOf]
  ·have h0:=hno.out
   have hrr:r= -1:=by
    rw [←HR.out];unfold hexF;rw [if_neg (by omega),if_neg (by omega),if_neg (by omega)]
   subst hrr;clear hno h0
   go_wp2_with fail
   go_ret;exact ⟨rfl,rfl⟩
end Go.Proofs.YtbpgkkoeehopjaaGreat.lex
