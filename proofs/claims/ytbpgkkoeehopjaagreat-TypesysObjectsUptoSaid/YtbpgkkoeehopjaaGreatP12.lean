/- Part 12 of 17 of a proof: see the last part. -/
import Derived.Test.YtbpgkkoeehopjaaGreatP10
import Derived.Test.YtbpgkkoeehopjaaGreatP11
import Derived.Laws.StructEq
import Derived.WalkSpells
import Derived.Deep.QuietTactic
import Derived.BigQuiet
set_option linter.unusedVariables false
set_option linter.unusedSimpArgs false
namespace Go.Proofs.YtbpgkkoeehopjaaGreat.hp
open Go.RowKit words enc tree gram lex rd dec dat held
section
variable {κ : Type} [DecidableEq κ]
def y0u (kv:κ→Value) (l:List (κ×Value)):List (Value×Value):=l.map fun p=>(kv p.1,p.2)
def y0z (l:List (κ×Value)) (x:κ):Option Value:=(l.find? (fun p=>decide (p.1=x))).map (·.2)
def kidx (l:List (κ×Value)) (x:κ):Option Nat:=l.findIdx? (fun p=>decide (p.1=x))
def kput:List (κ×Value)→κ→Value→List (κ×Value)
 |[],x,v=>[(x,v)]
 |p::r,x,v=>if p.1=x then (x,v)::r else p::kput r x v
theorem z1u {l:List (κ×Value)} {x:κ} {v:Value} (h:y0z l x=none):kput l x v=l++[(x,v)]:=by
 induction l with
 |nil=>rfl
 |cons p r ih=>
  by_cases hp:p.1=x
  ·simp [y0z,hp] at h
  ·have:y0z r x=none:=by simpa [y0z,hp] using h
   rw [kput,if_neg hp,ih this];rfl
structure Keys (P:Program) (kt:TypeId) (kv:κ→Value):Prop where
 find: ∀(w:World) (x:κ) (l:List (κ×Value)),(Instr.findKey kt (kv x) (y2m (y0u kv l))).run P w= .ok ((kidx l x).bind fun k=>(l[k]?).map fun p=>(k,p.2)) w
 check: ∀(w:World) (e:Bool) (x:κ),(Instr.checkKey e 10000 kt (kv x)).run P w= .ok () w
 stays: ∀(x:κ),Instr.sameBits 10000 (kv x) (kv x)=true
section
variable {P : Program} {w : World} {b t kt et : Nat} {l : List (κ × Value)} {kv : κ → Value}
theorem z8d (x:κ): ∀l:List (κ×Value),((kidx l x).bind fun k=>(l[k]?).map fun p=>(k,p.2)).map (·.2)=y0z l x
 |[]=>rfl
 |p::r=>by
  by_cases h:p.1=x
  ·simp [kidx,List.findIdx?_cons,h,y0z]
  ·have:=z8d x r;simp only [kidx,y0z,List.find?_cons,List.findIdx?_cons,h,decide_false,if_false,Bool.false_eq_true] at this ⊢;rw [←this]
   cases hq:r.findIdx? (fun p=>decide (p.1=x)) with
   |none=>simp
   |some k=>simp [Function.comp_def]
theorem y04 (ht:P.underlying t=some (.map kt et)) (hk:Keys P kt kv) (z:Value) (hz:(zeroValue et).run P w= .ok z w) (hb:w.heap[b]?=some (mobj (y0u kv l))) (x:κ) (ok:Bool):
  (Instr.lookup t (.map (some b)) (kv x) ok).run P w= .ok (if ok then .tuple #[(y0z l x).getD z,.bool (y0z l x).isSome] else (y0z l x).getD z) w:=by
 have hf:=hk.find w x l;have hi:=z8d x l;unfold Instr.lookup;simp only [Sem.run_bind,run_underlying ht w,Result.andThen_ok,z1t hb,Sem.run_pure,hk.check,hf]
 cases hq:((kidx l x).bind fun k=>(l[k]?).map fun p=>(k,p.2)) with
 |none=>
  rw [hq] at hi;have hi:y0z l x=none:=hi.symm;simp [hi,hz,Sem.run_bind]
 |some p=>
  rw [hq] at hi;have hi:y0z l x=some p.2:=hi.symm;simp [hi,Sem.run_bind]
theorem x2k (x:κ) (v:Value): ∀(l:List (κ×Value)),match kidx l x with
  |none=>kput l x v=l++[(x,v)]
  |some k=>k<l.length∧kput l x v=l.set k (x,v)∧(l[k]?).map (·.1)=some x
 |[]=>rfl
 |p::r=>by
  by_cases h:p.1=x
  ·simp [kidx,List.findIdx?_cons,h,kput]
  ·have ih:=x2k x v r;simp only [kidx,List.findIdx?_cons,h,decide_false,Bool.false_eq_true,if_false,kput] at ih ⊢
   cases hq:r.findIdx? (fun p=>decide (p.1=x)) with
   |none=>rw [hq] at ih;simp only [Option.map_none] at ih ⊢;simp [ih]
   |some k=>rw [hq] at ih;simp only [Option.map_some] at ih ⊢;exact ⟨by simpa using ih.1,by rw [ih.2.1];rfl,by simpa using ih.2.2⟩
omit [DecidableEq κ] in
theorem x44 (l:List (κ×Value)) (k:Nat) (hk:k<l.length) (p:κ×Value):y2m (y0u kv (l.set k p))=(y2m (y0u kv l)).modify k fun e=>{e with key:=kv p.1,val:=p.2}:=by
 apply Qbz;intro j;simp only [y2m,y0u,Qb0,List.getElem?_zipIdx,List.getElem?_modify,List.getElem?_set,List.map_set];by_cases hj:k=j
 ·subst hj;simp [hk]
 ·simp [hj]
theorem z8e (ht:P.underlying t=some (.map kt et)) (hk:Keys P kt kv) (hb:w.heap[b]?=some (mobj (y0u kv l))) (x:κ) (v:Value):
  (Instr.mapUpdate t (.map (some b)) (kv x) v).run P w= .ok () {w with heap:=w.heap.setIfInBounds b (mobj (y0u kv (kput l x v)))}:=by
 have hf:=hk.find w x l;have hi:=x2k x v l;have hs: ∀o',(setObj b o').run P w= .ok () {w with heap:=w.heap.setIfInBounds b o'}:=fun o'=>z42 hb (fun c e f h=>by cases h);unfold Instr.mapUpdate;simp only [Sem.run_bind,run_underlying ht w,Result.andThen_ok,z1t hb,hk.check,hf]
 cases hq:kidx l x with
 |none=>
  rw [hq] at hi;simp only [Option.bind_none];rw [hs,hi];simp [mobj,y0u,y2m,List.zipIdx_append]
 |some k=>
  rw [hq] at hi;obtain ⟨hkl,hsp,hkx⟩:=hi;obtain ⟨p,hp⟩: ∃p,l[k]?=some p:=⟨_,Qad hkl⟩
  have hpx:p.1=x:=by simpa [hp] using hkx
  have hes:((y2m (y0u kv l)).toArray[k]?).map (·.key)=some (kv x):=by simp [y2m,y0u,hp,hpx]
  have hst:(Instr.keyThatStays (kv x) (kv x)).run P w= .ok (kv x) w:=by
   unfold Instr.keyThatStays;rw [if_pos (hk.stays x)];rfl
  simp only [Option.bind_some,hp,Option.map_some,Sem.run_bind,hes,Option.getD_some,hst,Result.andThen_ok,hs];rw [hsp];have:=x44 (kv:=kv) l k hkl (x,v)
  have hob:Obj.map ((y2m (y0u kv l)).toArray.modify k fun e=>{e with key:=kv x,val:=v}) l.length=mobj (y0u kv (l.set k (x,v))):=by
   unfold mobj;rw [this];simp [y0u]
  rw [←hob];simp [y0u]
end
theorem x80 {l:List (κ×Value)} {x:κ} {v:Value} (h:y0z l x=some v):(x,v)∈l:=by
 unfold y0z at h
 cases hq:l.find? (fun p=>decide (p.1=x)) with
 |none=>rw [hq] at h;cases h
 |some p=>
  rw [hq] at h;injection h with h;have h1:=List.find?_some hq;have h2:=List.mem_of_find?_eq_some hq;have h1:p.1=x:=Qa6 h1;obtain ⟨a,c⟩:=p;simp only at h1 h;subst h1 h;exact h2
theorem z44 {l:List (κ×Value)} {x:κ} (h:y0z l x=none): ∀p∈l,p.1≠x:=by
 intro p hp he;unfold y0z at h
 cases hq:l.find? (fun p=>decide (p.1=x)) with
 |none=>rw [List.find?_eq_none] at hq;exact hq p hp (Qa5 he)
 |some p=>rw [hq] at h;cases h
end
abbrev ks (x:Txt):Value:=.string (str x)
abbrev kp (p:Txt×Txt):Value:=.agg #[.string (str p.1),.string (str p.2)]
section
variable {P : Program}
theorem y1g {kt:TypeId} (hk:P.underlying kt=some .string):Keys P kt ks:=by
 refine ⟨fun w x l=>?_,fun w e x=>y7r hk e x,fun x=>by simp [Instr.sameBits,str_eq]⟩;have h:=y9z (P:=P) (w:=w) (l:=l) hk x
 have e1:(fun p:Txt×Value=>p.1==x)=fun p=>decide (p.1=x):=by funext p;rw [Bool.eq_iff_iff];simp
 rw [e1] at h;exact h
theorem y5w (a b:Txt):((str a).toList==(str b).toList)=decide (a=b):=by
 rw [←beq_toListBytes,str_eq]
theorem z8f {d:TypeDesc} {k:Value} {e:MapEntry} {r:List MapEntry} {i:Nat} (h:Instr.sameNow d k e.key=none):Instr.findNow d k (e::r) i=none:=by
 unfold Instr.findNow;simp only [h]
structure PairT (P:Program) (kt st:TypeId):Prop where
 ht:P.underlying kt=some (.struct (P.fieldsOf kt))
 held:P.stoodInHeld kt=false
 flds:(P.fieldsOf kt).toList.map (fun f=>(f.type,f.offset,f.name== "_"))=[(st,0,false),(st,1,false)]
 hs:P.underlying st=some .string
theorem q44 {kt st:TypeId} (h:PairT P kt st) (w:World) (x y:Txt×Txt):(Op.equal kt (kp x) (kp y)).run P w= .ok (decide (x=y)) w:=by
 obtain ⟨f,g,hfg⟩: ∃f g,(P.fieldsOf kt).toList=[f,g]:=by
  have:=congrArg List.length h.flds;simp only [Qay,List.length_cons,List.length_nil] at this
  match hq:(P.fieldsOf kt).toList,this with
  |[f,g],_=>exact ⟨f,g,rfl⟩
 have hf:=h.flds;rw [hfg] at hf;simp only [List.map_cons,List.map_nil,List.cons.injEq,Prod.mk.injEq,Qa3,ne_eq,and_true] at hf;obtain ⟨⟨f1,f2,f3⟩,⟨g1,g2,g3⟩⟩:=hf
 have hpart: ∀(cs:Array Value) (j:Nat) (v:Value),cs[j]?=some v→(part st cs j).run P w= .ok v w:=by
  intro cs j v hv;unfold part
  have:(isAgg st).run P w= .ok false w:=by
   unfold isAgg;simp [Sem.run_bind,run_underlying h.hs,Result.andThen_ok]
  simp only [Sem.run_bind,this,Result.andThen_ok,Bool.false_eq_true,if_false,hv,Sem.run_pure]
 unfold Op.equal
 show (Op.equalIn (9999+1) kt (kp x) (kp y)).run P w=_
 rw [run_equalIn_struct w 9999 kt _ _ h.ht h.held,hfg];have p0: ∀a b:Value,(part st #[a,b] 0).run P w= .ok a w:=fun a b=>hpart _ 0 _ rfl;have p1: ∀a b:Value,(part st #[a,b] 1).run P w= .ok b w:=fun a b=>hpart _ 1 _ rfl;simp only [Op.eqFields,f1,f2,f3,g1,g2,g3,ne_eq,not_false_eq_true,if_true,Sem.run_bind,p0,p1,Result.andThen_ok,run_equalIn_string w 9998 st _ _ h.hs,y5w];obtain ⟨a,c⟩:=x;obtain ⟨a',c'⟩:=y;by_cases h1:a=a'
 ·by_cases h2:c=c'
  ·simp [h1,h2,Sem.run_pure,Sem.run_bind,p1,run_equalIn_string w 9998 st _ _ h.hs,y5w]
  ·simp [h1,h2,Sem.run_pure,Sem.run_bind,p1,run_equalIn_string w 9998 st _ _ h.hs,y5w]
 ·simp [h1,Sem.run_pure]
theorem x81 {kt st:TypeId} (h:PairT P kt st):Keys P kt kp:=by
 have hask: ∀(w:World) (x:Txt×Txt) (l:List ((Txt×Txt)×Value)) (j i:Nat),(Instr.findAsking kt (kp x) (((y0u kp l).zipIdx j).map fun p=>({key:=p.1.1,val:=p.1.2,born:=p.2}:MapEntry)) i).run P w= .ok ((kidx l x).bind fun k=>(l[k]?).map fun p=>(i+k,p.2)) w:=by
  intro w x l
  induction l with
  |nil=>intro j i;rfl
  |cons p r ih=>
   intro j i;simp only [y0u,List.map_cons,List.zipIdx_cons,Instr.findAsking,Sem.run_bind,q44 h,Result.andThen_ok];by_cases hx:p.1=x
   ·simp [kidx,List.findIdx?_cons,hx,Sem.run_pure]
   ·have hx': ¬x=p.1:=fun e=>hx e.symm;have:=ih (j+1) (i+1);simp only [y0u] at this;simp only [hx',decide_false,Bool.false_eq_true,if_false,this,kidx,List.findIdx?_cons,hx]
    cases hq:r.findIdx? (fun p=>decide (p.1=x)) with
    |none=>simp
    |some k=>simp [Nat.add_comm,Nat.add_left_comm,Nat.add_assoc]
 refine ⟨fun w x l=>?_,fun w e x=>?_,fun x=>by simp [Instr.sameBits,kp,str_eq]⟩
 ·have ha:=hask w x l 0 0;unfold Instr.findKey y2m;rw [Sem.run_bind,run_underlying h.ht w];simp only [Result.andThen_ok]
  cases l with
  |nil=>rfl
  |cons p r=>
   have hn:Instr.findNow (.struct (P.fieldsOf kt)) (kp x) (((y0u kp (p::r)).zipIdx 0).map fun p=>({key:=p.1.1,val:=p.1.2,born:=p.2}:MapEntry)) 0=none:=by
    simp only [y0u,List.map_cons,List.zipIdx_cons];exact z8f rfl
   simp only [Nat.zero_add] at ha;rw [hn];exact ha
 ·obtain ⟨f,g,hfg⟩: ∃f g,(P.fieldsOf kt).toList=[f,g]:=by
   have:=congrArg List.length h.flds;simp only [Qay,List.length_cons,List.length_nil] at this
   match hq:(P.fieldsOf kt).toList,this with
   |[f,g],_=>exact ⟨f,g,rfl⟩
  have hf:=h.flds;rw [hfg] at hf;simp only [List.map_cons,List.map_nil,List.cons.injEq,Prod.mk.injEq,Qa3,ne_eq,and_true] at hf;obtain ⟨⟨f1,f2,f3⟩,⟨g1,g2,g3⟩⟩:=hf
  have hpart: ∀(cs:Array Value) (j:Nat) (v:Value),cs[j]?=some v→(part st cs j).run P w= .ok v w:=by
   intro cs j v hv;unfold part
   have:(isAgg st).run P w= .ok false w:=by
    unfold isAgg;simp [Sem.run_bind,run_underlying h.hs,Result.andThen_ok]
   simp only [Sem.run_bind,this,Result.andThen_ok,Bool.false_eq_true,if_false,hv,Sem.run_pure]
  have hck: ∀(n:Nat) (v:ByteArray),(Instr.checkKey e (n+1) st (.string v)).run P w= .ok () w:=by
   intro n v;unfold Instr.checkKey;rw [Sem.run_bind,run_underlying h.hs w];rfl
  show (Instr.checkKey e (9999+1) kt (kp x)).run P w=_
  unfold Instr.checkKey;rw [Sem.run_bind,run_underlying h.ht w];simp only [Result.andThen_ok,kp];rw [←Array.forIn_toList,hfg];have p0: ∀a b:Value,(part st #[a,b] 0).run P w= .ok a w:=fun a b=>hpart _ 0 _ rfl;have p1: ∀a b:Value,(part st #[a,b] 1).run P w= .ok b w:=fun a b=>hpart _ 1 _ rfl;simp [f1,f2,f3,g1,g2,g3,Sem.run_bind,p0,p1,hck 9998,Sem.run_pure]
end
theorem q45:PairT Tryz.prog 125 9:=⟨by kernel_rfl,by kernel_rfl,by kernel_rfl,Tryz.underlying9⟩
def Kb (K:World) (g:Nat) (cs:List Value) (t:TypeId):Prop:=K.heap[g]?=some (.cells cs.toArray t (0,0))
def Km (K:World) (b:Nat) (l:List (Value×Value)):Prop:=K.heap[b]?=some (mobj l)
section
variable {P : Program} {w0 w K K' : World} {M : List Ent} {ops : Array Oper} {rest : List Oper} {o : Oper} {a : Act} {Q : Exit → Act → World → Prop} {i b t kt et : Nat}
theorem Kb.sat {g:Nat} {cs:List Value} {t:TypeId} (h:Kb K g cs t) (hs:Sat w K):Kb w g cs t:=hs.blk _ _ h x1n
theorem Km.sat {l:List (Value×Value)} (h:Km K b l) (hs:Sat w K):Km w b l:=hs.blk _ _ h (fun e=>by cases e)
theorem Kb.cell {g j:Nat} {cs:List Value} {t:TypeId} {v:Value} (h:Kb w g cs t) (hj:cs[j]?=some v):w.cell? ⟨g,j,none⟩=some v:=by
 have h:w.heap[g]?=some (.cells cs.toArray t (0,0)):=h;unfold World.cell?;simp only [h,Option.isSome_none,Bool.false_eq_true,if_false];simpa using hj
theorem Hp.kcell (H:Hp w0 w K M) {g j:Nat} {cs:List Value} {t:TypeId} {v:Value} (h:Kb K g cs t) (hj:cs[j]?=some v):w.cell? ⟨g,j,none⟩=some v:=(h.sat H.sat).cell hj
theorem Hp.kmap (H:Hp w0 w K M) {l:List (Value×Value)} (h:Km K b l):w.heap[b]?=some (mobj l):=h.sat H.sat
theorem Hp.freezeKb {g:Nat} {cs:List Value} {t:TypeId} (H:Hp w0 w K (.box g cs t::M)): ∃K',Sat K' K∧Hp w0 w K' M∧Kb K' g cs t:=by
 obtain ⟨K',h1,h2,h3,h4⟩:=H.freeze;exact ⟨K',h1,h2,(h3 g rfl).trans (H.blkAt (i:=0) rfl)⟩
theorem Hp.freezeKm {l:List (Value×Value)} (H:Hp w0 w K (.map b l::M)): ∃K',Sat K' K∧Hp w0 w K' M∧Km K' b l:=by
 obtain ⟨K',h1,h2,h3,h4⟩:=H.freeze;exact ⟨K',h1,h2,(h3 b rfl).trans (H.mapAt (i:=0) rfl)⟩
section
variable {κ : Type} [DecidableEq κ] {kv : κ → Value}
theorem y1j (hgd:o.guard=none) (m x:Operand) (t:TypeId) (c:Bool) (ho:o.op= .lookup t m x c) (ht:P.underlying t=some (.map kt et)) (hk:Keys P kt kv) (z:Value) (hz: ∀w,(zeroValue et).run P w= .ok z w)
  (b:Nat) (l:List (κ×Value)) (hb:w.heap[b]?=some (mobj (y0u kv l))) (hm:a.eval m= .map (some b)) (k:κ) (hx:a.eval x=kv k) (r:Value) (hr:(if c then .tuple #[(y0z l k).getD z,.bool (y0z l k).isSome] else (y0z l k).getD z)=r)
  (h:wpList P ops Q rest (a.put o.dst r) w):wpList P ops Q (o::rest) a w:=by
 refine wpList_plain hgd fun _ hK=>?_;have hrun:=y04 (w:=w) ht hk z (hz w) hb k c;rw [hr] at hrun;unfold Oper.wp execOp;simp only [ho,hm,hx,Sem.run_bind,hrun,Result.andThen_ok,Sem.run_pure];exact hK _ _ h
theorem y7s (hgd:o.guard=none) (m x y:Operand) (t:TypeId) (ho:o.op= .mapUpdate t m x y) (ht:P.underlying t=some (.map kt et)) (hk:Keys P kt kv)
  (H:Hp w0 w K M) (i:Nat) (b:Nat) (l:List (κ×Value)) (hi:M[i]?=some (.map b (y0u kv l))) (hm:a.eval m= .map (some b)) (k:κ) (hx:a.eval x=kv k) (v:Value) (hy:a.eval y=v) (l':List (κ×Value)) (hl:kput l k v=l')
  (h: ∀w',Hp w0 w' K (M.set i (.map b (y0u kv l')))→wpList P ops Q rest (a.put o.dst undef) w'):wpList P ops Q (o::rest) a w:=by
 refine wpList_plain hgd fun _ hK=>?_;have hrun:=z8e (w:=w) ht hk (H.mapAt hi) k v;rw [hl] at hrun;unfold Oper.wp execOp;simp only [ho,hm,hx,hy,Sem.run_bind,hrun,Result.andThen_ok,Sem.run_pure];exact hK _ _ (h _ (H.mapSet hi _))
end
theorem y3o (hgd:o.guard=none) (t:TypeId) (ho:o.op= .makeMap t none) (dst:Option Tmp) (hdst:o.dst=dst) (H:Hp w0 w K M)
  (h: ∀w' b,Hp w0 w' K (.map b []::M)→wpList P ops Q rest (a.put dst (.map (some b))) w'):wpList P ops Q (o::rest) a w:=by
 subst hdst;refine wpList_plain hgd fun _ hK=>?_
 have hrun:(Instr.makeMap t none).run P w= .ok (.map (some w.heap.size)) (w.alloc (.map #[] 0)):=by
  simp [Instr.makeMap,newObj];rfl
 unfold Oper.wp execOp;simp only [ho,Sem.run_bind,hrun,Result.andThen_ok,Sem.run_pure];exact hK _ _ (h _ _ H.allocMap)
end
end Go.Proofs.YtbpgkkoeehopjaaGreat.hp
namespace Go.Proofs.YtbpgkkoeehopjaaGreat.ty
open Go.RowKit lex gram dat hp
abbrev y0a (l:List DefD):List Txt:=l.map (·.name)
def addD (l:List DefD) (d:DefD):List DefD:=if d.name∈y0a l then l else l++[d]
abbrev IsTy (d:DefD):Prop:=2≤d.kind∧d.kind≤7∧d.ext=false
def y2b (p:List DefD×List DefD) (d:DefD):List DefD×List DefD:=
 if d.kind=8 then (p.1,if d.name∈y0a givenDirsD then p.2 else addD p.2 d)
 else if IsTy d then (if d.name∈y0a givenT then p.1 else addD p.1 d,p.2) else p
def y1f (l:List DefD) (x:Txt):Option Nat:=(y0a l).findIdx? (· ==x)
def step2 (l:List DefD) (d:DefD):List DefD:=
 match y1f l d.name with
 |none=>l
 |some i=>match l[i]? with
  |none=>l
  |some e=>if d.ext=true∧d.kind=e.kind∧d.kind≠1∧d.name∉y0a givenT then l.set i (y0y e d) else l
def bare (defs:List DefD):List DefD×List DefD:=defs.foldl y2b ([],[])
def y31 (defs:List DefD):List DefD:=givenT.foldl addD (bare defs).1
def y3i (defs:List DefD):List DefD:=givenDirsD.foldl addD (bare defs).2
def y0h (defs:List DefD):List DefD:=defs.foldl step2 (y31 defs)
def y0c (l:List DefD) (x:Txt):Int:=(((y1f l x).bind fun i=>l[i]?).map (·.kind)).getD 0
def y3p:DefD:={kind:=1,ext:=false,note:=y5j,name:=[],ifaces:=[],dirs:=[],fields:=[],inputs:=[],members:=[],values:=[],roots:=[],rep:=false,places:=[],line:=0,col:=0}
def y39:Txt:=[81,117,101,114,121]
def x82:Txt:=[77,117,116,97,116,105,111,110]
def z6k:Txt:=[83,117,98,115,99,114,105,112,116,105,111,110]
def rootN:List Txt:=[y39,x82,z6k]
def y40 (ts:List DefD):List RootD:=(rootN.zipIdx.filter fun p=>y0c ts p.1==3).map fun p=>⟨1+(p.2:Int),p.1,0,0⟩
def y1c (d:DefD):Bool:=d.kind==1&& !d.ext
def y3q (s d:DefD):DefD:=if d.kind=1∧d.ext=true then {s with dirs:=s.dirs++d.dirs,roots:=s.roots++d.roots} else s
def y2s (defs ts:List DefD):DefD:=
 match defs.find? y1c with
 |none=>{y3p with roots:=y40 ts}
 |some d=>defs.foldl y3q d
abbrev FMap:=List ((Txt×Txt)×Value)
def addF (m:FMap) (t f:Txt) (k:Nat):FMap:=if (y0z m (t,f)).isSome then m else m++[((t,f),.int .i64 (k:Int))]
def x45 (m:FMap) (d:DefD):FMap:=d.fields.zipIdx.foldl (fun m p=>addF m d.name p.1.name p.2) m
def fieldsOf (ts:List DefD):FMap:=ts.foldl x45 []
abbrev OMap:=List (Txt×List (Txt×Value))
def y1m (s:List (Txt×Value)) (x:Txt) (n:Nat):List (Txt×Value):=if (y0z s x).isSome then s else s++[(x,.int .i64 (n:Int))]
def addO:OMap→Txt→Txt→Nat→OMap
 |[],t,x,n=>[(t,[(x,.int .i64 (n:Int))])]
 |p::r,t,x,n=>if p.1=t then (t,y1m p.2 x n)::r else p::addO r t x n
def y38 (ts:List DefD) (m:OMap) (p:DefD×Nat):OMap:=
 if p.1.kind=3 then p.1.ifaces.foldl (fun m n=>if y0c ts n.name=4 then addO m n.name p.1.name p.2 else m) (addO m p.1.name p.1.name p.2)
 else if p.1.kind=5 then p.1.members.zipIdx.foldl (fun m q=>if y0c ts q.1.name=3 then addO m p.1.name q.1.name q.2 else m) m
 else m
def y2c (ts:List DefD):OMap:=ts.zipIdx.foldl (y38 ts) []
theorem z47 {l:List DefD} {i:Nat} {e e':DefD} (h:l[i]?=some e) (hn:e'.name=e.name):y0a (l.set i e')=y0a l:=by
 apply Qbz;intro j;simp only [y0a,Qb0,List.getElem?_set];by_cases hj:i=j
 ·subst hj;have hlt:=(Qac.1 h).1;rw [if_pos rfl,if_pos hlt,h];simp [hn]
 ·rw [if_neg hj]
theorem y7t {l:List DefD} {d:DefD} (h:(y0a l).Nodup):(y0a (addD l d)).Nodup:=by
 unfold addD;split
 ·exact h
 ·rename_i hn;simp only [y0a,Qas,List.map_cons,List.map_nil];rw [Qbr];refine ⟨h,by simp,?_⟩;intro a ha b hb he;simp only [Qax] at hb;subst hb he;exact hn ha
theorem y1d {l:List DefD} {x:Txt} {i:Nat} (h:y1f l x=some i): ∃d,l[i]?=some d∧d.name=x:=by
 unfold y1f at h;rw [Qbs] at h;obtain ⟨hi,h1,_⟩:=h
 have hi':i<l.length:=by simpa using hi
 exact ⟨l[i],Qad hi',by simpa using h1⟩
theorem y5x {l:List DefD} {x:Txt} (h:y1f l x=none):x∉y0a l:=by
 unfold y1f at h;rw [List.findIdx?_eq_none_iff] at h;intro hx;have:=h x hx;simp at this
theorem z3m {l:List DefD} {d:DefD}:y0a (step2 l d)=y0a l:=by
 unfold step2;split
 ·rfl
 ·split
  ·rfl
  ·split
   ·rename_i he _;exact z47 he rfl
   ·rfl
theorem x83 {α:Type} {f:α→Nat}: ∀{l:List α} {i:Nat} {e:α} (e':α),l[i]?=some e→sumN f (l.set i e')+f e=sumN f l+f e'
 |[],i,e,e',h=>by simp at h
 |x::r,0,e,e',h=>by simp only [List.getElem?_cons_zero] at h;injection h with h;subst h;simp only [List.set_cons_zero,sumN];omega
 |x::r,i+1,e,e',h=>by simp only [List.getElem?_cons_succ] at h;have:=x83 (f:=f) e' h;simp only [List.set_cons_succ,sumN];omega
theorem y91 {α:Type} {f:α→Nat} (l:List α) (k:Nat):sumN f (l.take k)≤sumN f l:=by
 have:=y8t (f:=f) (l.take k) (l.drop k);rw [List.take_append_drop] at this;omega
theorem z6l (e d:DefD):defN (y0y e d)≤defN e+defN d:=by
 simp only [defN,y0y,y8t,Qae];omega
theorem z1f (l:List DefD) (d:DefD):y0f (addD l d)≤y0f l+defN d:=by
 unfold addD;split
 ·omega
 ·unfold y0f;rw [y8t];simp only [sumN];omega
theorem x84 (l:List DefD) (d:DefD):y0f (step2 l d)≤y0f l+defN d:=by
 unfold step2;split
 ·omega
 ·split
  ·omega
  ·split
   ·rename_i e he _;have h1:=x83 (f:=defN) (y0y e d) he;have h2:=z6l e d;unfold y0f;omega
   ·omega
theorem y85 {f:List DefD→DefD→List DefD} (h: ∀l d,y0f (f l d)≤y0f l+defN d): ∀(l s:List DefD),y0f (l.foldl f s)≤y0f s+y0f l
 |[],s=>by simp [y0f,sumN]
 |d::r,s=>by
  have h1:=y85 h r (f s d);have h2:=h s d;simp only [List.foldl_cons,y0f,sumN] at h1 h2 ⊢;omega
theorem z8g: ∀(l:List DefD) (p:List DefD×List DefD),y0f (l.foldl y2b p).1≤y0f p.1+y0f l∧y0f (l.foldl y2b p).2≤y0f p.2+y0f l
 |[],p=>by simp [y0f,sumN]
 |d::r,p=>by
  have h1:=z8g r (y2b p d)
  have h2:y0f (y2b p d).1≤y0f p.1+defN d∧y0f (y2b p d).2≤y0f p.2+defN d:=by
   have a1:=z1f p.1 d;have a2:=z1f p.2 d;unfold y2b;split
   ·dsimp only;split<;>omega
   ·split
    ·dsimp only;split<;>omega
    ·omega
  simp only [List.foldl_cons,y0f,sumN] at h1 h2 ⊢;omega
theorem y4n {α β:Type} {Q:β→Prop} {f:β→α→β} (h: ∀b a,Q b→Q (f b a)): ∀(l:List α) (b:β),Q b→Q (l.foldl f b)
 |[],b,hb=>hb
 |a::r,b,hb=>y4n h r (f b a) (h b a hb)
theorem y7u (l:List DefD):(y0a (bare l).1).Nodup∧(y0a (bare l).2).Nodup:=by
 refine y4n (Q:=fun p:List DefD×List DefD=>(y0a p.1).Nodup∧(y0a p.2).Nodup) ?_ l ([],[]) ⟨List.nodup_nil,List.nodup_nil⟩;intro p d h;have a1:=y7t (d:=d) h.1;have a2:=y7t (d:=d) h.2;unfold y2b;split
 ·dsimp only;split
  ·exact h
  ·exact ⟨h.1,a2⟩
 ·split
  ·dsimp only;split
   ·exact h
   ·exact ⟨a1,h.2⟩
  ·exact h
theorem z1g (l:List DefD):(y0a (y31 l)).Nodup:=y4n (Q:=fun p:List DefD=>(y0a p).Nodup) (fun p d h=>y7t h) givenT _ (y7u l).1
theorem x46 (l:List DefD):(y0a (y3i l)).Nodup:=y4n (Q:=fun p:List DefD=>(y0a p).Nodup) (fun p d h=>y7t h) givenDirsD _ (y7u l).2
theorem z3n: ∀(l s:List DefD),y0a (l.foldl step2 s)=y0a s
 |[],s=>rfl
 |d::r,s=>by rw [List.foldl_cons,z3n r,z3m]
theorem x0r (l:List DefD):y0a (y0h l)=y0a (y31 l):=z3n l _
theorem y41 (l:List DefD):(y0a (y0h l)).Nodup:=by rw [x0r];exact z1g l
theorem q46 (l:List DefD):y0f (y0h l)≤2*y0f l+y0f givenT:=by
 have h1:=y85 x84 l (y31 l);have h2:=y85 z1f givenT (bare l).1;have h3:=(z8g l ([],[])).1;simp only [y0h,y31,bare,y0f,sumN] at h1 h2 h3 ⊢;omega
theorem q63 (l:List DefD):y0f (y3i l)≤y0f l+y0f givenDirsD:=by
 have h2:=y85 z1f givenDirsD (bare l).2;have h3:=(z8g l ([],[])).2;simp only [y3i,bare,y0f,sumN] at h2 h3 ⊢;omega
theorem x85 (s d:DefD):defN (y3q s d)≤defN s+defN d:=by
 unfold y3q;split
 ·simp only [defN,y8t,Qae];omega
 ·omega
theorem z3o: ∀(l:List DefD) (s:DefD),defN (l.foldl y3q s)≤defN s+y0f l
 |[],s=>by simp [y0f,sumN]
 |d::r,s=>by
  have h1:=z3o r (y3q s d);have h2:=x85 s d;simp only [List.foldl_cons,y0f,sumN] at h1 ⊢;omega
theorem y5y {α β:Type} {Q:β→Prop} {f:β→α→β}: ∀(l:List α) (b:β),(∀b a,a∈l→Q b→Q (f b a))→Q b→Q (l.foldl f b)
 |[],b,_,hb=>hb
 |a::r,b,h,hb=>y5y r (f b a) (fun b' a' ha=>h b' a' (Qa2 _ ha)) (h b a (Qaz ..) hb)
theorem y7v {α:Type} {l:List α} {p:α×Nat} (h:p∈l.zipIdx):l[p.2]?=some p.1:=by
 rw [Qb1] at h;exact h
def FOk (ts:List DefD) (m:FMap):Prop:=∀p∈m,∃(i:Nat) (d:DefD) (k:Nat) (f:FieldD),ts[i]?=some d∧d.name=p.1.1∧d.fields[k]?=some f∧f.name=p.1.2∧p.2= .int .i64 ((k:Nat):Int)
theorem q47 {ts:List DefD} {m:FMap} {i k:Nat} {d:DefD} {f:FieldD} (h:FOk ts m) (hd:ts[i]?=some d) (hf:d.fields[k]?=some f):FOk ts (addF m d.name f.name k):=by
 unfold addF;split
 ·exact h
 ·intro p hp;rcases Qbf.1 hp with hp|hp
  ·exact h p hp
  ·obtain rfl:=Qax.1 hp;exact ⟨i,d,k,f,hd,rfl,hf,rfl,rfl⟩
theorem x0s (ts:List DefD):FOk ts (fieldsOf ts):=by
 refine y5y (Q:=FOk ts) ts [] ?_ (fun _ h=>by cases h);intro m d hd h;obtain ⟨i,hi⟩:=Qbp.1 hd;refine y5y (Q:=FOk ts) d.fields.zipIdx m ?_ h;intro m p hp h;exact q47 h hi (y7v hp)
theorem z1v {ts:List DefD} {i:Nat} {d:DefD} (hn:(y0a ts).Nodup) (h:ts[i]?=some d):y1f ts d.name=some i:=by
 unfold y1f
 have hi:i<(y0a ts).length:=by have:=(Qac.1 h).1;simpa using this
 have hx:(y0a ts)[i]=d.name:=by
  have h2:(y0a ts)[i]?=some d.name:=by simp [y0a,h]
  rw [Qad hi] at h2;injection h2
 rw [Qbs];refine ⟨hi,by simp [hx],?_⟩;intro j hj;have hne:(y0a ts)[j]≠(y0a ts)[i]:=List.pairwise_iff_getElem.1 hn j i (by omega) hi hj;rw [hx] at hne;simpa using hne
theorem z8h {ts:List DefD} {i:Nat} {d:DefD} (hn:(y0a ts).Nodup) (h:ts[i]?=some d):y0c ts d.name=d.kind:=by
 simp [y0c,z1v hn h,h]
theorem y86 {ts:List DefD} {i:Nat} {x:Txt} {d:DefD} (h:y1f ts x=some i) (hd:ts[i]?=some d):y0c ts x=d.kind:=by
 simp [y0c,h,hd]
theorem y42 {ts:List DefD} {x:Txt} (h:y1f ts x=none):y0c ts x=0:=by
 simp [y0c,h]
def nmAt (ts:List DefD) (t:Txt) (n:Nat):Option Txt:=
 if y0c ts t=5 then (((y1f ts t).bind fun i=>ts[i]?).bind fun d=>d.members[n]?).map (·.name) else (ts[n]?).map (·.name)
def SOk (f:Nat→Option Txt) (s:List (Txt×Value)):Prop:=(s.map (·.1)).Nodup∧ ∀q∈s,∃n:Nat,q.2= .int .i64 (n:Int)∧f n=some q.1
def OOk (ts:List DefD) (om:OMap):Prop:=∀p∈om,SOk (nmAt ts p.1) p.2
theorem x86 {f:Nat→Option Txt} {s:List (Txt×Value)} {x:Txt} {n:Nat} (h:SOk f s) (hx:f n=some x):SOk f (y1m s x n):=by
 unfold y1m;split
 ·exact h
 ·rename_i hs
  have hs:y0z s x=none:=by simpa using hs
  refine ⟨?_,?_⟩
  ·rw [Qas,Qbr];refine ⟨h.1,by simp,?_⟩;intro a ha b hb he;simp only [List.map_cons,List.map_nil,Qax] at hb;subst hb he;obtain ⟨p,hp,rfl⟩:=Qbe.1 ha;exact z44 hs p hp rfl
  ·intro q hq;rcases Qbf.1 hq with hq|hq
   ·exact h.2 q hq
   ·obtain rfl:=Qax.1 hq;exact ⟨n,rfl,hx⟩
theorem z6m {ts:List DefD}: ∀{om:OMap} {t x:Txt} {n:Nat},OOk ts om→nmAt ts t n=some x→OOk ts (addO om t x n)
 |[],t,x,n,_,hx=>by
  intro p hp;obtain rfl:=Qax.1 hp;exact ⟨by simp,fun q hq=>by obtain rfl:=Qax.1 hq;exact ⟨n,rfl,hx⟩⟩
 |p::r,t,x,n,h,hx=>by
  unfold addO;split
  ·rename_i hp;intro q hq;rcases Qbd.1 hq with rfl|hq
   ·have:=h p (Qaz ..);rw [hp] at this;exact x86 this hx
   ·exact h q (Qa2 _ hq)
  ·intro q hq;rcases Qbd.1 hq with rfl|hq
   ·exact h _ (Qaz ..)
   ·exact z6m (fun a ha=>h a (Qa2 _ ha)) hx q hq
theorem z1h {ts:List DefD} (hn:(y0a ts).Nodup):OOk ts (y2c ts):=by
 refine y5y (Q:=OOk ts) ts.zipIdx [] ?_ (fun _ h=>by cases h);rintro m ⟨d,i⟩ hd h;have hd:ts[i]?=some d:=y7v hd;have hk:=z8h hn hd
 have hi: ∀t,y0c ts t≠5→nmAt ts t i=some d.name:=fun t ht=>by simp [nmAt,ht,hd]
 unfold y38;dsimp only;split
 ·rename_i h3;refine y5y (Q:=OOk ts) d.ifaces _ ?_ (z6m h (hi _ (by omega)));intro m n _ hm;split
  ·exact z6m hm (hi _ (by omega))
  ·exact hm
 ·split
  ·rename_i h5;refine y5y (Q:=OOk ts) d.members.zipIdx m ?_ h;rintro m ⟨n,k⟩ hnk hm;have hnk:d.members[k]?=some n:=y7v hnk;dsimp only;split
   ·refine z6m hm ?_;simp [nmAt,hk,h5,z1v hn hd,hd,hnk]
   ·exact hm
  ·exact h
def y1o (om:OMap) (t:Txt):List (Txt×Value):=((om.find? (fun p=>decide (p.1=t))).map (·.2)).getD []
theorem x2l {ts:List DefD} {om:OMap} (h:OOk ts om) (t:Txt):SOk (nmAt ts t) (y1o om t):=by
 unfold y1o
 cases hq:om.find? (fun p=>decide (p.1=t)) with
 |none=>exact ⟨List.nodup_nil,fun _ h=>by cases h⟩
 |some p=>
  have h1:=List.find?_some hq;have h1:p.1=t:=Qa6 h1;have:=h p (List.mem_of_find?_eq_some hq);rw [h1] at this;exact this
theorem q48 {ts:List DefD} {t x:Txt} {n:Nat} (h:nmAt ts t n=some x):n<ts.length∨ ∃d∈ts,n<d.members.length:=by
 unfold nmAt at h;split at h
 ·right
  cases hi:y1f ts t with
  |none=>simp [hi] at h
  |some i=>
   cases hd:ts[i]? with
   |none=>simp [hi,hd] at h
   |some d=>
    refine ⟨d,Qaf hd,?_⟩;rcases Qbm n d.members.length with hl|hl
    ·exact hl
    ·simp [hi,hd,Qbg hl] at h
 ·left;rcases Qbm n ts.length with hl|hl
  ·exact hl
  ·simp [Qbg hl] at h
def y87 (s:List (Txt×Value)) (x:Txt):Int:=match y0z s x with|some (.int .i64 n)=>n|_=>0
theorem x2m {f:Nat→Option Txt} {s:List (Txt×Value)} (h:SOk f s) (x:Txt):(y0z s x=none∧ ∀p∈s,p.1≠x)∨ ∃n:Nat,y0z s x=some (.int .i64 (n:Int))∧f n=some x∧(x,.int .i64 (n:Int))∈s:=by
 cases hq:y0z s x with
 |none=>exact .inl ⟨rfl,z44 hq⟩
 |some v=>
  have hm:=x80 hq;obtain ⟨n,h1,h2⟩:=h.2 _ hm;simp only at h1 h2;subst h1;exact .inr ⟨n,rfl,h2,hm⟩
theorem x87 {f:Nat→Option Txt} {s:List (Txt×Value)} (h:SOk f s) (x:Txt):(y0z s x).getD (.int .i64 0)= .int .i64 (y87 s x):=by
 unfold y87
 rcases x2m h x with ⟨h1,_⟩|⟨n,h1,_⟩<;>rw [h1]<;>rfl
theorem x2n {α:Type} {l:List α} {k:Nat} {x:α} (hx:l[k]?=some x):(l.take (k+1)).zipIdx=(l.take k).zipIdx++[(x,k)]:=by
 have hk:=(Qac.1 hx).1
 have h1:l.take (k+1)=l.take k++[x]:=by rw [List.take_add_one,hx];rfl
 have h2:(l.take k).length=k:=by rw [Qau];omega
 rw [h1,List.zipIdx_append,h2];simp
theorem y32 {α β:Type} {l:List α} {k:Nat} {x:α} (hx:l[k]?=some x) (f:β→α→β) (b:β):(l.take (k+1)).foldl f b=f ((l.take k).foldl f b) x:=by
 have h1:l.take (k+1)=l.take k++[x]:=by rw [List.take_add_one,hx];rfl
 rw [h1,List.foldl_append];rfl
theorem y3e {α β:Type} {l:List α} {k:Nat} {x:α} (hx:l[k]?=some x) (f:β→α×Nat→β) (b:β):(l.take (k+1)).zipIdx.foldl f b=f ((l.take k).zipIdx.foldl f b) (x,k):=by
 rw [x2n hx,List.foldl_append];rfl
theorem y3r {ts:List DefD} {i:Nat} {d:DefD} (h:ts[i]?=some d):defN d≤y0f ts:=by
 have h1:ts=ts.take i++d::ts.drop (i+1):=by
  obtain ⟨hi,rfl⟩:=Qac.1 h;simp
 rw [h1];unfold y0f;rw [y8t];simp only [sumN];omega
theorem z0q (d:DefD):d.members.length≤defN d:=by unfold defN;omega
theorem z3p (d:DefD):d.ifaces.length≤defN d:=by unfold defN;omega
theorem x88 (d:DefD):d.fields.length≤defN d:=by have:=y0p y24 d.fields;unfold defN;omega
theorem x89 {ts:List DefD} {t x:Txt} {n:Nat} (h:nmAt ts t n=some x):n<y0f ts:=by
 have hl:ts.length≤y0f ts:=y0p y1x ts;rcases q48 h with h|⟨d,hd,h⟩
 ·omega
 ·obtain ⟨i,hi⟩:=Qbp.1 hd;have:=y3r hi;have:=z0q d;omega
open rd tree
def y6k (t:Txt) (d:DefD):Bool:=(d.kind==3)&&d.ifaces.any fun n=>decide (n.name=t)
def addN (l:List Txt) (x:Txt):List Txt:=if x∈l then l else l++[x]
def x0t (ts:List DefD) (t:Txt):Option DefD:=(y1f ts t).bind fun i=>ts[i]?
def memO (ts:List DefD) (ms:List NamedD):List Txt:=ms.foldl (fun l m=>if y0c ts m.name=3 then addN l m.name else l) []
def posL (ts:List DefD) (t:Txt):List Txt:=
 if y0c ts t=3 then [t]
 else if y0c ts t=4 then (ts.filter (y6k t)).map (·.name)
 else if y0c ts t=5 then memO ts (((x0t ts t).map (·.members)).getD [])
 else []
def memS (ts:List DefD) (ms:List NamedD) (s:List (Txt×Value)):List (Txt×Value):=ms.zipIdx.foldl (fun s q=>if y0c ts q.1.name=3 then y1m s q.1.name q.2 else s) s
def setL (ts:List DefD) (t:Txt):List (Txt×Value):=
 if y0c ts t=3 then [(t,.int .i64 (((y1f ts t).getD 0:Nat):Int))]
 else if y0c ts t=4 then (ts.zipIdx.filter fun p=>y6k t p.1).map fun p=>(p.1.name,.int .i64 ((p.2:Nat):Int))
 else if y0c ts t=5 then memS ts (((x0t ts t).map (·.members)).getD []) []
 else []
theorem y7w (x:Txt) (n:Nat) (t t':Txt): ∀om:OMap,y1o (addO om t' x n) t=if t'=t then y1m (y1o om t) x n else y1o om t
 |[]=>by
  by_cases h:t'=t
  ·subst h;simp [addO,y1o,y1m,y0z]
  ·simp [addO,y1o,h]
 |p::r=>by
  have ih:=y7w x n t t' r;unfold addO;by_cases hp:p.1=t'
  ·rw [if_pos hp];by_cases h:t'=t
   ·subst h;rw [if_pos rfl];simp [y1o,hp]
   ·rw [if_neg h];have hpt: ¬p.1=t:=fun e=>h (hp▸e);simp [y1o,h,hpt]
  ·rw [if_neg hp];by_cases h:p.1=t
   ·have h': ¬t'=t:=fun e=>hp (h.trans e.symm);rw [if_neg h'];simp [y1o,h]
   ·have e1:y1o (p::addO r t' x n) t=y1o (addO r t' x n) t:=by simp [y1o,h]
    have e2:y1o (p::r) t=y1o r t:=by simp [y1o,h]
    rw [e1,e2,ih]
def stp (ts:List DefD) (t:Txt) (s:List (Txt×Value)) (p:DefD×Nat):List (Txt×Value):=
 if p.1.kind=3 then p.1.ifaces.foldl (fun s n=>if y0c ts n.name=4∧n.name=t then y1m s p.1.name p.2 else s) (if p.1.name=t then y1m s p.1.name p.2 else s)
 else if p.1.kind=5 then p.1.members.zipIdx.foldl (fun s q=>if y0c ts q.1.name=3∧p.1.name=t then y1m s q.1.name q.2 else s) s
 else s
theorem y5d {α β γ:Type} (g:β→γ) {f:β→α→β} {f':γ→α→γ} (h: ∀b a,g (f b a)=f' (g b) a): ∀(l:List α) (b:β),g (l.foldl f b)=l.foldl f' (g b)
 |[],b=>rfl
 |a::r,b=>by rw [List.foldl_cons,List.foldl_cons,y5d g h r,h]
theorem x47 (ts:List DefD) (t:Txt) (m:OMap) (p:DefD×Nat):y1o (y38 ts m p) t=stp ts t (y1o m t) p:=by
 unfold y38 stp;split
 ·rw [y5d (fun m=>y1o m t) (f':=fun s (n:NamedD)=>if y0c ts n.name=4∧n.name=t then y1m s p.1.name p.2 else s),y7w];intro b a;split
  ·rename_i h;rw [y7w];by_cases h2:a.name=t
   ·rw [if_pos h2,if_pos ⟨h,h2⟩]
   ·rw [if_neg h2,if_neg (fun h=>h2 h.2)]
  ·rename_i h;rw [if_neg (fun h2=>h h2.1)]
 ·split
  ·rw [y5d (fun m=>y1o m t) (f':=fun s (q:NamedD×Nat)=>if y0c ts q.1.name=3∧p.1.name=t then y1m s q.1.name q.2 else s)];intro b a;split
   ·rename_i h;rw [y7w];by_cases h2:p.1.name=t
    ·rw [if_pos h2,if_pos ⟨h,h2⟩]
    ·rw [if_neg h2,if_neg (fun h=>h2 h.2)]
   ·rename_i h;rw [if_neg (fun h2=>h h2.1)]
  ·rfl
theorem x48 (ts:List DefD) (t:Txt):y1o (y2c ts) t=ts.zipIdx.foldl (stp ts t) []:=by
 unfold y2c;rw [y5d (fun m=>y1o m t) (f':=stp ts t) (fun b a=>x47 ts t b a)];rfl
theorem z8i (s:List (Txt×Value)) (x:Txt) (n:Nat):y1m (y1m s x n) x n=y1m s x n:=by
 by_cases h:(y0z s x).isSome=true
 ·have e:y1m s x n=s:=by unfold y1m;rw [if_pos h]
  rw [e,e]
 ·have e:y1m s x n=s++[(x,.int .i64 (n:Int))]:=by unfold y1m;rw [if_neg h]
  have h2:(y0z (s++[(x,.int .i64 (n:Int))]) x).isSome=true:=by
   unfold y0z;rw [Qby]
   cases hq:s.find? (fun p=>decide (p.1=x))<;>simp
  rw [e];unfold y1m;rw [if_pos h2]
theorem x2o {α:Type} (s0:List (Txt×Value)) (x:Txt) (n:Nat) (p:α→Prop) [DecidablePred p]: ∀(l:List α) (s:List (Txt×Value)),l.foldl (fun s a=>if p a then y1m s x n else s) s=if l.any (fun a=>decide (p a))=true then y1m s x n else s
 |[],s=>by simp
 |a::r,s=>by
  rw [List.foldl_cons,x2o s0 x n p r,List.any_cons];by_cases h:p a
  ·rw [if_pos h,Qa5 h,Bool.true_or,if_pos rfl,z8i]
   split<;>rfl
  ·rw [if_neg h,Qa4 h,Bool.false_or]
theorem x0u {α β:Type} (f:β→α→β) (h: ∀b a,f b a=b): ∀(l:List α) (b:β),l.foldl f b=b
 |[],b=>rfl
 |a::r,b=>by rw [List.foldl_cons,h,x0u f h r]
theorem x2p {ts:List DefD} (hn:(y0a ts).Nodup) {i:Nat} {d:DefD} (hd:ts[i]?=some d) (t:Txt) (s:List (Txt×Value)):stp ts t s (d,i)=
  if y0c ts t=3 then (if d.name=t then y1m s t i else s)
  else if y0c ts t=4 then (if y6k t d=true then y1m s d.name i else s)
  else if y0c ts t=5 then (if d.name=t then memS ts d.members s else s)
  else s:=by
 have hk:=z8h hn hd
 have hkt:d.name=t→y0c ts t=d.kind:=fun e=>by rw [←e];exact hk
 unfold stp;dsimp only;by_cases h3:d.kind=3
 ·rw [if_pos h3];by_cases k4:y0c ts t=4
  ·have hne: ¬d.name=t:=fun e=>by have:=hkt e;omega
   rw [if_neg (by omega: ¬y0c ts t=3),if_pos k4,if_neg hne,x2o []]
   have:(d.ifaces.any fun a=>decide (y0c ts a.name=4∧a.name=t))=y6k t d:=by
    unfold y6k;rw [h3];simp only [beq_self_eq_true,Bool.true_and]
    congr 1
    funext a
    by_cases e:a.name=t
    ·rw [e];simp [k4]
    ·simp [e]
   rw [this]
  ·rw [x0u _ (fun b a=>by rw [if_neg];rintro ⟨h1,h2⟩;rw [h2] at h1;exact k4 h1)];by_cases k3:y0c ts t=3
   ·rw [if_pos k3];by_cases e:d.name=t
    ·rw [if_pos e,if_pos e,e]
    ·rw [if_neg e,if_neg e]
   ·have hne: ¬d.name=t:=fun e=>by have:=hkt e;omega
    rw [if_neg k3,if_neg k4,if_neg hne,if_neg hne]
    split<;>rfl
 ·rw [if_neg h3]
  have hi:y6k t d=false:=by unfold y6k;simp [h3]
  by_cases h5:d.kind=5
  ·rw [if_pos h5];by_cases e:d.name=t
   ·have k5:=hkt e;rw [if_neg (by omega),if_neg (by omega),if_pos (by omega),if_pos e];unfold memS
    congr 1
    funext s q
    by_cases hq:y0c ts q.1.name=3
    ·rw [if_pos ⟨hq,e⟩,if_pos hq]
    ·rw [if_neg (fun h=>hq h.1),if_neg hq]
   ·rw [x0u _ (fun b a=>by rw [if_neg (fun h=>e h.2)]),hi];simp [e]
  ·rw [if_neg h5,hi];by_cases e:d.name=t
   ·have:=hkt e
    have k3: ¬y0c ts t=3:=by omega
    have k5: ¬y0c ts t=5:=by omega
    rw [if_neg k3,if_neg k5];simp
   ·simp [e]
theorem z1w {ts:List DefD} (hn:(y0a ts).Nodup) {i j:Nat} {d e:DefD} (hd:ts[i]?=some d) (he:ts[j]?=some e) (h:d.name=e.name):i=j:=by
 have h1:=z1v hn hd;have h2:=z1v hn he;rw [h,h2] at h1;injection h1 with h1;exact h1.symm
theorem x9a {ts:List DefD} (hn:(y0a ts).Nodup) (t:Txt):y1o (y2c ts) t=setL ts t:=by
 rw [x48];have hstep: ∀k d,ts[k]?=some d→(ts.take (k+1)).zipIdx.foldl (stp ts t) []=stp ts t ((ts.take k).zipIdx.foldl (stp ts t) []) (d,k):=fun k d h=>y3e h _ _
 have hall:ts.zipIdx.foldl (stp ts t) []=(ts.take ts.length).zipIdx.foldl (stp ts t) []:=by rw [List.take_length]
 rw [hall];have hget: ∀k,k<ts.length→ ∃d,ts[k]?=some d:=fun k hk=>⟨_,Qad hk⟩;unfold setL;by_cases k3:y0c ts t=3
 ·rw [if_pos k3]
  obtain ⟨i0,hi0⟩: ∃i0,y1f ts t=some i0:=by
   cases h:y1f ts t with
   |none=>have:=y42 h;omega
   |some i=>exact ⟨i,rfl⟩
  obtain ⟨d0,hd0,e0⟩:=y1d hi0
  have key: ∀k,k≤ts.length→(ts.take k).zipIdx.foldl (stp ts t) []=if i0<k then [(t,.int .i64 ((i0:Nat):Int))] else []:=by
   intro k
   induction k with
   |zero=>intro _;rw [List.take_zero,if_neg (by omega)];rfl
   |succ k ih=>
    intro hk;obtain ⟨d,hd⟩:=hget k (by omega);rw [hstep k d hd,ih (by omega),x2p hn hd,if_pos k3];by_cases e:d.name=t
    ·have:k=i0:=z1w hn hd hd0 (e.trans e0.symm);subst this;rw [if_pos e,if_neg (by omega),if_pos (by omega)];rfl
    ·have:k≠i0:=fun h=>e (by subst h;rw [hd] at hd0;injection hd0 with hd0;rw [hd0];exact e0);rw [if_neg e];by_cases hlt:i0<k
     ·rw [if_pos hlt,if_pos (by omega)]
     ·rw [if_neg hlt,if_neg (by omega)]
  rw [key _ (Qab _),if_pos (Qac.1 hd0).1,hi0];rfl
 ·rw [if_neg k3];by_cases k4:y0c ts t=4
  ·rw [if_pos k4]
   have key: ∀k,k≤ts.length→(ts.take k).zipIdx.foldl (stp ts t) []=((ts.take k).zipIdx.filter fun p=>y6k t p.1).map fun p=>(p.1.name,.int .i64 ((p.2:Nat):Int)):=by
    intro k
    induction k with
    |zero=>intro _;rfl
    |succ k ih=>
     intro hk;obtain ⟨d,hd⟩:=hget k (by omega);rw [hstep k d hd,ih (by omega),x2p hn hd,if_neg k3,if_pos k4,x2n hd,List.filter_append];by_cases h:y6k t d=true
     ·rw [if_pos h]
      have hno:y0z (((ts.take k).zipIdx.filter fun p=>y6k t p.1).map fun p=>((p.1.name,.int .i64 ((p.2:Nat):Int)):Txt×Value)) d.name=none:=by
       unfold y0z;rw [Option.map_eq_none_iff,List.find?_eq_none];intro q hq;obtain ⟨p,hp,rfl⟩:=Qbe.1 hq;have hp1:=y7v (List.mem_filter.1 hp).1;rw [Qbb] at hp1;split at hp1
       ·rename_i hlt;simp only [decide_eq_true_eq];intro e;have:=z1w hn hp1 hd e;omega
       ·cases hp1
      unfold y1m;rw [hno];simp [h]
     ·rw [if_neg h];simp [h]
   rw [key _ (Qab _),List.take_length]
  ·rw [if_neg k4];by_cases k5:y0c ts t=5
   ·rw [if_pos k5]
    obtain ⟨i0,hi0⟩: ∃i0,y1f ts t=some i0:=by
     cases h:y1f ts t with
     |none=>have:=y42 h;omega
     |some i=>exact ⟨i,rfl⟩
    obtain ⟨d0,hd0,e0⟩:=y1d hi0
    have key: ∀k,k≤ts.length→(ts.take k).zipIdx.foldl (stp ts t) []=if i0<k then memS ts d0.members [] else []:=by
     intro k
     induction k with
     |zero=>intro _;rw [List.take_zero,if_neg (by omega)];rfl
     |succ k ih=>
      intro hk;obtain ⟨d,hd⟩:=hget k (by omega);rw [hstep k d hd,ih (by omega),x2p hn hd,if_neg k3,if_neg k4,if_pos k5];by_cases e:d.name=t
      ·have:k=i0:=z1w hn hd hd0 (e.trans e0.symm);subst this;rw [hd] at hd0;injection hd0 with hd0;subst hd0;rw [if_pos e,if_neg (by omega),if_pos (by omega)]
      ·have:k≠i0:=fun h=>e (by subst h;rw [hd] at hd0;injection hd0 with hd0;rw [hd0];exact e0);rw [if_neg e];by_cases hlt:i0<k
       ·rw [if_pos hlt,if_pos (by omega)]
       ·rw [if_neg hlt,if_neg (by omega)]
    rw [key _ (Qab _),if_pos (Qac.1 hd0).1];unfold x0t;rw [hi0];simp [hd0]
   ·rw [if_neg k5]
    have key: ∀k,k≤ts.length→(ts.take k).zipIdx.foldl (stp ts t) []=[]:=by
     intro k
     induction k with
     |zero=>intro _;rfl
     |succ k ih=>
      intro hk;obtain ⟨d,hd⟩:=hget k (by omega);rw [hstep k d hd,ih (by omega),x2p hn hd,if_neg k3,if_neg k4,if_neg k5]
    exact key _ (Qab _)
def q49 (s:List (Txt×Value)):Prop:=∃ns:List Nat,s.map (·.2)=ns.map (fun n=>Value.int .i64 ((n:Nat):Int))∧ns.Pairwise (· < ·)
theorem x49 (ts:List DefD) (ms:List NamedD):q49 (memS ts ms [])∧(memS ts ms []).map (·.1)=memO ts ms:=by
 have key: ∀k,k≤ms.length→ ∃ns:List Nat,((ms.take k).zipIdx.foldl (fun s (q:NamedD×Nat)=>if y0c ts q.1.name=3 then y1m s q.1.name q.2 else s) []).map (·.2)=ns.map (fun n=>Value.int .i64 ((n:Nat):Int))∧ns.Pairwise (· < ·)∧(∀n∈ns,n<k)∧
   ((ms.take k).zipIdx.foldl (fun s (q:NamedD×Nat)=>if y0c ts q.1.name=3 then y1m s q.1.name q.2 else s) []).map (·.1)=(ms.take k).foldl (fun l m=>if y0c ts m.name=3 then addN l m.name else l) []:=by
  intro k
  induction k with
  |zero=>intro _;exact ⟨[],rfl,List.Pairwise.nil,by simp,rfl⟩
  |succ k ih=>
   intro hk;obtain ⟨ns,h1,h2,h3,h4⟩:=ih (by omega);obtain ⟨m,hm⟩: ∃m,ms[k]?=some m:=⟨_,Qad (by omega)⟩;rw [y3e hm,y32 hm];generalize (ms.take k).zipIdx.foldl (fun s (q:NamedD×Nat)=>if y0c ts q.1.name=3 then y1m s q.1.name q.2 else s) []=s at h1 h4 ⊢;generalize (ms.take k).foldl (fun l m=>if y0c ts m.name=3 then addN l m.name else l) []=l at h4 ⊢;dsimp only;by_cases h:y0c ts m.name=3
   ·rw [if_pos h,if_pos h]
    have hin:(y0z s m.name).isSome=true↔m.name∈l:=by
     rw [←h4];unfold y0z;rw [Option.isSome_map,List.find?_isSome];simp only [decide_eq_true_eq,Qbe]
    unfold y1m addN;by_cases hs:(y0z s m.name).isSome=true
    ·rw [if_pos hs,if_pos (hin.1 hs)];exact ⟨ns,h1,h2,fun n hn=>by have:=h3 n hn;omega,h4⟩
    ·rw [if_neg hs,if_neg (fun h=>hs (hin.2 h))];refine ⟨ns++[k],by rw [Qas,Qas,h1];rfl,?_,fun n hn=>?_,by rw [Qas,h4];rfl⟩
     ·rw [List.pairwise_append];exact ⟨h2,by simp,fun a ha b hb=>by obtain rfl:=Qax.1 hb;exact h3 a ha⟩
     ·rcases Qbf.1 hn with hn|hn
      ·have:=h3 n hn;omega
      ·obtain rfl:=Qax.1 hn;omega
   ·rw [if_neg h,if_neg h];exact ⟨ns,h1,h2,fun n hn=>by have:=h3 n hn;omega,h4⟩
 obtain ⟨ns,h1,h2,_,h4⟩:=key ms.length (Qab _);rw [List.take_length] at h1 h4;exact ⟨⟨ns,h1,h2⟩,h4⟩
theorem z8j {α:Type}: ∀(l:List α) (k:Nat),(l.zipIdx k).Pairwise (fun p q=>p.2<q.2)∧ ∀p∈l.zipIdx k,k≤p.2
 |[],k=>⟨List.Pairwise.nil,by simp⟩
 |a::r,k=>by
  obtain ⟨h1,h2⟩:=z8j r (k+1);rw [List.zipIdx_cons];refine ⟨List.pairwise_cons.2 ⟨fun p hp=>?_,h1⟩,fun p hp=>?_⟩
  ·have:=h2 p hp;dsimp only;omega
  ·rcases Qbd.1 hp with rfl|hp
   ·exact Qab _
   ·have:=h2 p hp;omega
theorem z0r (ts:List DefD) (t:Txt):q49 (setL ts t)∧(setL ts t).map (·.1)=posL ts t:=by
 unfold setL posL;split
 ·exact ⟨⟨[(y1f ts t).getD 0],rfl,by simp⟩,rfl⟩
 ·split
  ·refine ⟨⟨(ts.zipIdx.filter fun p=>y6k t p.1).map (·.2),by rw [List.map_map,List.map_map];rfl,?_⟩,?_⟩
   ·rw [List.pairwise_map];exact (z8j ts 0).1.filter _
   ·rw [List.map_map]
    have: ∀(l:List DefD) (k:Nat),((l.zipIdx k).filter fun p=>y6k t p.1).map (fun p=>p.1.name)=(l.filter (y6k t)).map (·.name):=by
     intro l
     induction l with
     |nil=>intro k;rfl
     |cons a r ih=>
      intro k;rw [List.zipIdx_cons,List.filter_cons,List.filter_cons];dsimp only;split
      ·rw [List.map_cons,List.map_cons,ih]
      ·exact ih _
    exact this ts 0
  ·split
   ·exact x49 ts _
   ·exact ⟨⟨[],rfl,List.Pairwise.nil⟩,rfl⟩
theorem z3q {α:Type} (f:α→Int): ∀{l m:List α},l.Perm m→l.Pairwise (fun a b=>f a≤f b)→m.Pairwise (fun a b=>f a<f b)→l=m
 |[],m,h,_,_=>(List.nil_perm.1 h).symm
 |a::r,[],h,_,_=>absurd h.length_eq (by simp)
 |a::r,b::s,h,h1,h2=>by
  rw [List.pairwise_cons] at h1 h2
  have hab:a=b:=by
   have hb:b∈a::r:=h.mem_iff.2 (by simp);rcases Qbd.1 hb with hb|hb
   ·exact hb.symm
   ·have ha:a∈b::s:=h.mem_iff.1 (by simp);rcases Qbd.1 ha with ha|ha
    ·exact ha
    ·have:=h1.1 b hb;have:=h2.1 a ha;omega
  subst hab;rw [z3q f ((List.perm_cons a).1 h) h1.2 h2.2]
theorem x0v {s:List (Txt×Value)} (hn:(s.map (·.1)).Nodup) (hr:q49 s):(s.map (·.1)).Pairwise (fun a b=>y87 s a<y87 s b):=by
 obtain ⟨ns,h1,h2⟩:=hr
 have hfind: ∀(i:Nat) (x:Txt) (v:Value),s[i]?=some (x,v)→y0z s x=some v:=by
  intro i x v hi;unfold y0z
  have:s.find? (fun p=>decide (p.1=x))=some (x,v):=by
   rw [List.find?_eq_some_iff_getElem];obtain ⟨hl,he⟩:=Qac.1 hi;refine ⟨by simp,i,hl,he,fun j hj=>?_⟩;have:=List.pairwise_iff_getElem.1 hn j i (by simpa using (by omega:j<s.length)) (by simpa using hl) hj;simp only [List.getElem_map,he] at this;simpa using this
  rw [this];rfl
 rw [List.pairwise_iff_getElem];intro i j hi hj hij;simp only [Qay] at hi hj
 have hlen:ns.length=s.length:=by have:=congrArg List.length h1;simpa using this.symm
 have hval: ∀k (hk:k<s.length),s[k].2=Value.int .i64 ((ns[k]'(by omega):Nat):Int):=by
  intro k hk;have:=congrArg (·[k]?) h1;simp only [Qb0] at this;rw [Qad hk,Qad (by omega:k<ns.length)] at this;simpa using this
 have hnum: ∀k (hk:k<s.length),y87 s s[k].1=((ns[k]'(by omega):Nat):Int):=by
  intro k hk;unfold y87;rw [hfind k s[k].1 s[k].2 (Qad hk),hval k hk]
 simp only [List.getElem_map];rw [hnum i hi,hnum j hj];have:=List.pairwise_iff_getElem.1 h2 i j (by omega) (by omega) hij;omega
theorem q64 {ts:List DefD} (hn:(y0a ts).Nodup) {t:Txt} {l:List Txt} (h:l.Perm ((y1o (y2c ts) t).map (·.1))) (hs:l.Pairwise (fun a b=>y87 (y1o (y2c ts) t) a≤y87 (y1o (y2c ts) t) b)):l=posL ts t:=by
 have hso:=(x2l (z1h hn) t).1;rw [x9a hn] at h hs hso;obtain ⟨hr,hp⟩:=z0r ts t;rw [←hp];exact z3q _ h hs (x0v hso hr)
end Go.Proofs.YtbpgkkoeehopjaaGreat.ty
namespace Go.Proofs.YtbpgkkoeehopjaaGreat.hp
open Go.RowKit words enc tree gram lex rd dec dat held
section
variable {P : Program} {w0 w w' K K' : World} {M : List Ent} {ops : Array Oper} {rest : List Oper} {o : Oper} {a : Act} {Q : Exit → Act → World → Prop} {i : Nat}
theorem y26 (g j:Nat):(⟨g,0,none⟩:Addr).add j=⟨g,j,none⟩:=by unfold Addr.add;split<;>simp_all
theorem Hp.rowAt (H:Hp w0 w K M) {e:TypeId} {m n:Nat} {v:Value} {vs:List Value} (hi:M[i]?=some (.row e m v n vs)) (hne:0<n):
  ∃g c,v= .slice (some ⟨g,0,none⟩) n c∧n≤c∧c≤maxLen∧vs.length=n*m:=by
 have ho:w.ownsRow 0 e m v n vs:=H.ok _ (Qaf hi);rcases ho.2 with ⟨_,h⟩|⟨g,c,cur,rfl,_,hb,h1,h2,h3,h4⟩
 ·omega
 ·exact ⟨g,c,rfl,h1,h2,ho.1⟩
theorem Hp.rowCell (H:Hp w0 w K M) {e:TypeId} {m n g c:Nat} {vs:List Value} (hi:M[i]?=some (.row e m (.slice (some ⟨g,0,none⟩) n c) n vs)) {j:Nat} {u:Value} (hu:vs[j]?=some u):w.cell? ⟨g,j,none⟩=some u:=by
 have ho:w.ownsRow 0 e m _ n vs:=H.ok _ (Qaf hi);have:=World.ownsRow.cells ho (g:=g) rfl j u hu;rwa [y26] at this
theorem Hp.rowFrozen (H:Hp w0 w K M) {e:TypeId} {m n g c:Nat} {vs:List Value} (hi:M[i]?=some (.row e m (.slice (some ⟨g,0,none⟩) n c) n vs)) (j:Nat):w.frozen? ⟨g,j,none⟩=false:=by
 have ho:w.ownsRow 0 e m _ n vs:=H.ok _ (Qaf hi);rcases ho.2 with ⟨h,_⟩|⟨g',c',cur,he,_,hb,_⟩
 ·cases h
 ·injection he with e1 _ e3;injection e1 with e1;injection e1 with e1;subst e1;exact frozen_of_row w _ j _ _ hb
theorem x9b {vs us:List Value} {j:Nat} (hj:j+us.length≤vs.length):(vs.take j++us++vs.drop (j+us.length)).length=vs.length:=by
 simp only [Qae,Qau,Qav];omega
theorem Hp.rowSet (H:Hp w0 w K M) {e:TypeId} {m n g c:Nat} {vs us:List Value} (hi:M[i]?=some (.row e m (.slice (some ⟨g,0,none⟩) n c) n vs)) (j:Nat) (hj:j+us.length≤vs.length):
  Hp w0 (w.setCells g j us) K (M.set i (.row e m (.slice (some ⟨g,0,none⟩) n c) n (vs.take j++us++vs.drop (j+us.length)))):=by
 refine H.setAt hi y8c ?_ (.inl rfl);have ho:w.ownsRow 0 e m _ n vs:=H.ok _ (Qaf hi);refine ⟨(x9b hj).trans ho.1,?_⟩;rcases ho.2 with ⟨h,_⟩|⟨g',c',cur,he,hb0,hb,h1,h2,h3,h4⟩
 ·cases h
 ·injection he with e1 _ e3;injection e1 with e1;injection e1 with e1;subst e1 e3
  have hpost:cur.toList=vs++cur.toList.drop (n*m):=by rw [←h4,List.take_append_drop]
  generalize cur.toList.drop (n*m)=post at hpost
  have hvs:vs=vs.take j++(vs.drop j).take us.length++vs.drop (j+us.length):=by
   rw [Qat,←List.drop_drop,List.take_append_drop,List.take_append_drop]
  have hcur:cur=(vs.take j++(vs.drop j).take us.length++(vs.drop (j+us.length)++post)).toArray:=by
   apply Qal.1;rw [hpost]
   show vs++post=vs.take j++(vs.drop j).take us.length++(vs.drop (j+us.length)++post)
   rw [←Qat,←hvs]
  rw [hcur] at hb;have h5:=z9y (us:=us) (i:=j) hb (by simp;omega) (by simp;omega);have hl:(vs.take j++us++vs.drop (j+us.length)).length=n*m:=(x9b hj).trans ho.1;refine .inr ⟨g,c,_,rfl,hb0,by rw [y57];exact h5,h1,h2,?_,?_⟩
  ·have:=congrArg List.length hpost;simp only [Array.length_toList,Qae] at this
   have hl2:(vs.take j++us++(vs.drop (j+us.length)++post)).length=n*m+post.length:=by rw [←Qat,Qae,hl]
   simp only [List.size_toArray,hl2];rw [ho.1] at this;omega
  ·show ((vs.take j++us++(vs.drop (j+us.length)++post))).take (n*m)=_
   rw [←Qat,List.take_append_of_le_length (by omega),Qaj (by omega)]
theorem z8k {Kc:Act→World→Prop} (ty:TypeId) (x y:Operand) (ho:o.op= .store ty x y) (g j:Nat) (hx:a.eval x= .pointer (some ⟨g,j,none⟩)) (v:Value) (hy:a.eval y=v) (us:List Value) (hv:v.cells=us.toArray)
  (hone: ∀u∈us,u.oneCell'=true) (hsz:(P.info? ty).map (·.size)=some us.length) (H:Hp w0 w K M) (i:Nat) (e:TypeId) (m n c:Nat) (vs vs':List Value) (hi:M[i]?=some (.row e m (.slice (some ⟨g,0,none⟩) n c) n vs)) (hj:j+us.length≤vs.length) (hn:vs.take j++us++vs.drop (j+us.length)=vs')
  (h: ∀w',Hp w0 w' K (M.set i (.row e m (.slice (some ⟨g,0,none⟩) n c) n vs'))→Kc (a.put o.dst undef) w'):Oper.wp P o a w Kc Q:=by
 have hrun:(storeVar ty ⟨g,j,none⟩ v).run P w= .ok () (w.setCells g j us):=by
  have:=run_storeCells_cells (P:=P) g j us 0 w (fun k hk=>by
    have hk':j+k<vs.length:=by omega
    rw [Nat.add_zero,H.rowCell hi (Qad hk')];rfl) (fun k hk=>H.rowFrozen hi _) hone
  cases hq:P.info? ty with
  |none=>simp [hq] at hsz
  |some ti=>
   have hs:us.length=ti.size:=by simp [hq] at hsz;omega
   simp only [Nat.add_zero] at this;simp [storeVar,sizeOf,typeInfo,hq,hv,hs,this]
 unfold Oper.wp execOp;simp only [ho,hx,hy,Instr.storeAt,Instr.sureAddr,Sem.run_bind,Sem.run_pure,Result.andThen_ok,hrun];have:=H.rowSet hi j hj;rw [hn] at this;exact h _ this
theorem z0s {E:Prop} {Kc:Act→World→Prop} (hgd:o.guard=none) (ty:TypeId) (x y:Operand) (ho:o.op= .store ty x y) (g j:Nat) (hx:a.eval x= .pointer (some ⟨g,j,none⟩)) (v:Value) (hy:a.eval y=v) (us:List Value) (hv:v.cells=us.toArray)
  (hone: ∀u∈us,u.oneCell'=true) (hsz:(P.info? ty).map (·.size)=some us.length) (H:Hp w0 w K M) (i:Nat) (e:TypeId) (m n c:Nat) (vs vs':List Value) (hi:M[i]?=some (.row e m (.slice (some ⟨g,0,none⟩) n c) n vs)) (hj:j+us.length≤vs.length) (hn:vs.take j++us++vs.drop (j+us.length)=vs')
  (h: ∀w',Hp w0 w' K (M.set i (.row e m (.slice (some ⟨g,0,none⟩) n c) n vs'))→Kc (a.put o.dst undef) w'):if Region.wanted o (yielded ops a.tmps)=true then Oper.wp P o a w Kc Q else E:=by
 have hw:Region.wanted o (yielded ops a.tmps)=true:=by simp [Region.wanted,hgd]
 rw [if_pos hw];exact z8k ty x y ho g j hx v hy us hv hone hsz H i e m n c vs vs' hi hj hn h
end
def y1e (TS:List (DefD×DV)):List Ent:=TS.flatMap fun p=>DV.rows p.1 p.2
def y07 (TS:List (DefD×DV)):List Value:=TS.flatMap fun p=>DV.cells p.1 p.2
def tok (K:World) (TS:List (DefD×DV)):Prop:=∀p∈TS,p.2.ok K p.1
section
variable {w0 w w' K K' : World} {M : List Ent}
theorem tok.sat {TS:List (DefD×DV)} (h:tok K TS) (hs:Sat K' K):tok K' TS:=fun p hp=>(h p hp).sat hs
theorem z0t: ∀(TS:List (DefD×DV)),(y07 TS).length=TS.length*17
 |[]=>rfl
 |p::r=>by
  have h:y07 (p::r)=DV.cells p.1 p.2++y07 r:=by simp [y07]
  have h2:(DV.cells p.1 p.2).length=17:=rfl;rw [h,Qae,z0t r,h2,List.length_cons];omega
theorem z0u (A B:List (DefD×DV)):y07 (A++B)=y07 A++y07 B:=by simp [y07]
theorem z8l (A B:List (DefD×DV)):y1e (A++B)=y1e A++y1e B:=by simp [y1e]
theorem Hp.freezeDef {d:DefD} {V:DV} (H:Hp w0 w K (DV.rows d V++M)) (hV:V.ok K d): ∃K',Sat K' K∧Hp w0 w K' M∧RL K' (defL d) (DV.cells d V):=by
 obtain ⟨K1,s1,H,f8⟩:=H.freezeRow hV.r8;replace hV:=hV.sat s1;obtain ⟨K2,s2,H,f11⟩:=H.freezeRow hV.r11;replace hV:=hV.sat s2;replace f8:=f8.sat s2;obtain ⟨K3,s3,H,f6⟩:=H.freezeRow hV.r6;replace hV:=hV.sat s3;replace f8:=f8.sat s3;replace f11:=f11.sat s3;obtain ⟨K4,s4,H,f10⟩:=H.freezeRow hV.r10;replace hV:=hV.sat s4;replace f8:=f8.sat s4;replace f11:=f11.sat s4;replace f6:=f6.sat s4;obtain ⟨K5,s5,H,f14⟩:=H.freezeRow hV.r14;replace hV:=hV.sat s5;replace f8:=f8.sat s5;replace f11:=f11.sat s5;replace f6:=f6.sat s5;replace f10:=f10.sat s5;obtain ⟨K6,s6,H,f12⟩:=H.freezeRow hV.r12;replace hV:=hV.sat s6;replace f8:=f8.sat s6;replace f11:=f11.sat s6;replace f6:=f6.sat s6;replace f10:=f10.sat s6;replace f14:=f14.sat s6;obtain ⟨K7,s7,H,f9⟩:=H.freezeRow hV.r9;replace hV:=hV.sat s7;replace f8:=f8.sat s7;replace f11:=f11.sat s7;replace f6:=f6.sat s7;replace f10:=f10.sat s7;replace f14:=f14.sat s7;replace f12:=f12.sat s7;obtain ⟨K8,s8,H,f7⟩:=H.freezeRow hV.r7;replace f8:=f8.sat s8;replace f11:=f11.sat s8;replace f6:=f6.sat s8;replace f10:=f10.sat s8;replace f14:=f14.sat s8;replace f12:=f12.sat s8;replace f9:=f9.sat s8
 exact ⟨K8,s8.trans (s7.trans (s6.trans (s5.trans (s4.trans (s3.trans (s2.trans s1)))))),H,by
  unfold defL DV.cells
  exact .lit (.lit (.lit (.lit (.lit (.lit (.cons f6 (.cons f7 (.cons f8 (.cons f9 (.cons f10 (.cons f11 (.cons f12 (.lit (.cons f14 (.lit (.lit RL.z))))))))))))))))⟩
theorem Hp.freezeDefs: ∀{TS:List (DefD×DV)} {K:World},Hp w0 w K (y1e TS++M)→tok K TS→ ∃K',Sat K' K∧Hp w0 w K' M∧RL K' (y0q (TS.map (·.1))) (y07 TS)
 |[],K,H,_=>⟨K,Sat.refl K,H,RL.z⟩
 |p::TS,K,H,hok=>by
  have H:Hp w0 w K (DV.rows p.1 p.2++(y1e TS++M)):=by
   have:y1e (p::TS)++M=DV.rows p.1 p.2++(y1e TS++M):=by simp [y1e]
   rw [←this];exact H
  obtain ⟨K1,s1,H,h1⟩:=H.freezeDef (hok p (Qaz ..));obtain ⟨K2,s2,H,h2⟩:=Hp.freezeDefs (TS:=TS) H (fun q hq=>(hok q (Qa2 _ hq)).sat s1);exact ⟨K2,s2.trans s1,H,(h1.sat s2).app h2⟩
end
open ty
section
variable {w0 w w' K K' : World} {M : List Ent}
theorem Hp.rotAt (C A B:List Ent) (H:Hp w0 w K (C++(A++(B++M)))):Hp w0 w K (C++(B++(A++M))):=
 H.perm (List.Perm.append_left C (by rw [←Qat,←Qat];exact (List.perm_append_comm).append_right M))
def Bst (g ga gd gf go:Nat) (ts ds:List DefD) (w0 w K:World) (M:List Ent):Prop:=
 ∃TS VT VD xD,ts=TS.map (·.1)∧tok K TS∧RL K (y0q ds) xD∧
  Hp w0 w K (tbox g ga gd gf go VT VD:: .map ga (y02 (nmap (y0a ts))):: .row 43 17 VT ts.length (y07 TS):: .map gd (y02 (nmap (y0a ds))):: .row 43 17 VD ds.length xD::(y1e TS++M))
theorem x5a {l:List DefD} {d:DefD} {xs ys:List Value} (h:RL K (y0q l) xs) (h':RL K (defL d) ys):RL K (y0q (l++[d])) (xs++ys):=by
 have:y0q (l++[d])=y0q l++defL d:=by simp [y0q]
 rw [this];exact h.app h'
theorem x0w (d:DefD) (cs:Array Value) (g ga gd gf go:Nat) (ts ds:List DefD) (H:Bst g ga gd gf go ts ds w0 w K M) (hd:RL K (defL d) cs.toList) (hm:defN d≤9000000) (hk:ts.length≤9000000):
  Calls Tryz.prog 59 #[.pointer (some ⟨g,0,none⟩),.agg cs] w fun e w'=>∃K',e= .returned (.tuple #[])∧Sat K' K∧Bst g ga gd gf go (addD ts d) ds w0 w' K' M:=by
 obtain ⟨TS,VT,VD,xD,hts,hok,hxD,H⟩:=H;have hlen:(y0a ts).length=ts.length:=Qay ..;by_cases hin:d.name∈y0a ts
 ·refine (x0p d cs (y0a ts) g ga gd gf go VT VD w0 w K _ H hd hin).mono ?_;rintro e w' ⟨rfl,H⟩;have hadd:addD ts d=ts:=if_pos hin;rw [hadd];exact ⟨K,rfl,Sat.refl K,TS,VT,VD,xD,hts,hok,hxD,H⟩
 ·have H1:Hp w0 w K (tbox g ga gd gf go VT VD:: .map ga (y02 (nmap (y0a ts))):: .row 43 17 VT (y0a ts).length (y07 TS)::(.map gd (y02 (nmap (y0a ds))):: .row 43 17 VD ds.length xD::(y1e TS++M))):=by rw [hlen];exact H
  refine (x0q d cs (y0a ts) g ga gd gf go VT VD (y07 TS) w0 w K _ H1 hd hin hm (by omega)).mono ?_;rintro e w' ⟨K',V,VT',rfl,hle,H2,hV⟩;have hadd:addD ts d=ts++[d]:=if_neg hin;rw [hadd];refine ⟨K',rfl,hle,TS++[(d,V)],VT',VD,xD,by rw [Qas,←hts];rfl,?_,hxD.sat hle,?_⟩
  ·intro p hp;rcases Qbf.1 hp with hp|hp
   ·exact (hok p hp).sat hle
   ·obtain rfl:=Qax.1 hp;exact hV
  ·have H3:=Hp.rotAt [tbox g ga gd gf go VT' VD,.map ga (y02 (nmap (y0a ts++[d.name]))),.row 43 17 VT' ((y0a ts).length+1) (y07 TS++DV.cells d V)] (DV.rows d V) (.map gd (y02 (nmap (y0a ds))):: .row 43 17 VD ds.length xD::y1e TS) (M:=M) H2
   have e1:y07 (TS++[(d,V)])=y07 TS++DV.cells d V:=by rw [z0u];simp [y07]
   have e2:y1e (TS++[(d,V)])=y1e TS++DV.rows d V:=by rw [z8l];simp [y1e]
   have e3:y0a (ts++[d])=y0a ts++[d.name]:=by simp [y0a]
   have e4:(ts++[d]).length=(y0a ts).length+1:=by rw [hlen];simp
   rw [e1,e2,e3,e4,Qat];exact H3
theorem x5b (d:DefD) (cs:Array Value) (g ga gd gf go:Nat) (ts ds:List DefD) (H:Bst g ga gd gf go ts ds w0 w K M) (hd:RL K (defL d) cs.toList) (hm:defN d≤9000000) (hk:ds.length≤9000000):
  Calls Tryz.prog 58 #[.pointer (some ⟨g,0,none⟩),.agg cs] w fun e w'=>∃K',e= .returned (.tuple #[])∧Sat K' K∧Bst g ga gd gf go ts (addD ds d) w0 w' K' M:=by
 obtain ⟨TS,VT,VD,xD,hts,hok,hxD,H⟩:=H;have hlen:(y0a ds).length=ds.length:=Qay ..
 have H1:Hp w0 w K (tbox g ga gd gf go VT VD:: .map gd (y02 (nmap (y0a ds))):: .row 43 17 VD (y0a ds).length xD::(.map ga (y02 (nmap (y0a ts))):: .row 43 17 VT ts.length (y07 TS)::(y1e TS++M))):=by
  rw [hlen];exact Hp.rotAt [tbox g ga gd gf go VT VD] [.map ga (y02 (nmap (y0a ts))),.row 43 17 VT ts.length (y07 TS)] [.map gd (y02 (nmap (y0a ds))),.row 43 17 VD ds.length xD] (M:=y1e TS++M) H
 by_cases hin:d.name∈y0a ds
 ·refine (x42 d cs (y0a ds) g ga gd gf go VT VD w0 w K _ H1 hd hin).mono ?_;rintro e w' ⟨rfl,H⟩;have hadd:addD ds d=ds:=if_pos hin;rw [hadd];refine ⟨K,rfl,Sat.refl K,TS,VT,VD,xD,hts,hok,hxD,?_⟩;rw [hlen] at H;exact Hp.rotAt [tbox g ga gd gf go VT VD] [.map gd (y02 (nmap (y0a ds))),.row 43 17 VD ds.length xD] [.map ga (y02 (nmap (y0a ts))),.row 43 17 VT ts.length (y07 TS)] (M:=y1e TS++M) H
 ·refine (x43 d cs (y0a ds) g ga gd gf go VT VD xD w0 w K _ H1 hd hin hm (by omega)).mono ?_;rintro e w' ⟨K',xs,VD',rfl,hle,H2,hxs⟩;have hadd:addD ds d=ds++[d]:=if_neg hin;rw [hadd];refine ⟨K',rfl,hle,TS,VT,VD',xD++xs,hts,hok.sat hle,x5a (hxD.sat hle) hxs,?_⟩
  have e3:y0a (ds++[d])=y0a ds++[d.name]:=by simp [y0a]
  have e4:(ds++[d]).length=(y0a ds).length+1:=by rw [hlen];simp
  rw [e3,e4];exact Hp.rotAt [tbox g ga gd gf go VT VD'] [.map gd (y02 (nmap (y0a ds++[d.name]))),.row 43 17 VD' ((y0a ds).length+1) (xD++xs)] [.map ga (y02 (nmap (y0a ts))),.row 43 17 VT ts.length (y07 TS)] (M:=y1e TS++M) H2
end
def y1t (OB:List (Txt×Nat×List (Txt×Value))):List Ent:=OB.map fun p=>.map p.2.1 (y02 p.2.2)
def y1u (OB:List (Txt×Nat×List (Txt×Value))):List (Txt×Value):=OB.map fun p=>(p.1,.map (some p.2.1))
def omap (OB:List (Txt×Nat×List (Txt×Value))):OMap:=OB.map fun p=>(p.1,p.2.2)
def Ost (go:Nat) (om:OMap) (w0 w K:World) (M:List Ent):Prop:=∃OB,om=omap OB∧Hp w0 w K (.map go (y02 (y1u OB))::(y1t OB++M))
theorem z48 (x:Txt): ∀OB:List (Txt×Nat×List (Txt×Value)),(y0z (y1u OB) x=none∧ ∀n m,addO (omap OB) x n m=omap OB++[(x,[(n,.int .i64 (m:Int))])])∨ ∃A b s B,OB=A++(x,b,s)::B∧y0z (y1u OB) x=some (.map (some b))∧ ∀n m,addO (omap OB) x n m=omap A++(x,y1m s n m)::omap B
 |[]=>.inl ⟨rfl,fun _ _=>rfl⟩
 |p::r=>by
  by_cases h:p.1=x
  ·obtain ⟨a,b,s⟩:=p;simp only at h;subst h;exact .inr ⟨[],b,s,r,rfl,by simp [y0z,y1u],fun n m=>by simp [addO,omap]⟩
  ·have hk:y0z (y1u (p::r)) x=y0z (y1u r) x:=by simp [y0z,y1u,h]
   have ha: ∀n m,addO (omap (p::r)) x n m=(p.1,p.2.2)::addO (omap r) x n m:=fun n m=>by simp [addO,omap,h]
   rcases z48 x r with ⟨h1,h2⟩|⟨A,b,s,B,rfl,h1,h2⟩
   ·exact .inl ⟨hk.trans h1,fun n m=>by rw [ha,h2];simp [omap]⟩
   ·exact .inr ⟨p::A,b,s,B,rfl,hk.trans h1,fun n m=>by rw [ha,h2];simp [omap]⟩
structure TysD where
 schema:DefD
 types:List DefD
 dirs:List DefD
 fields:FMap
 objects:OMap
def y12 (defs:List DefD):TysD:=⟨y2s defs (y0h defs),y0h defs,y3i defs,fieldsOf (y0h defs),y2c (y0h defs)⟩
structure TyA (K:World) (g ga gd gf go:Nat) (sch:List Value) (VT VD:Value) (s:DefD) (ts ds:List DefD):Prop where
 box:Kb K g (sch++[VT,.map (some ga),VD,.map (some gd),.map (some gf),.map (some go)]) 91
 sch:RL K (defL s) sch
 types:RD K (.list ts.length (y0q ts)) VT
 dirs:RD K (.list ds.length (y0q ds)) VD
 at_:Km K ga (y0u ks (nmap (y0a ts)))
 dirAt:Km K gd (y0u ks (nmap (y0a ds)))
theorem ty_c {sch:List Value} (h:sch.length=17) (l:List Value) (k:Nat):(sch++l)[17+k]?=l[k]?:=by
 rw [Qba (by omega),h];congr 1;omega
section
variable {K K' : World} {g ga gd gf go : Nat} {sch : List Value} {VT VD : Value} {s : DefD} {ts ds : List DefD}
theorem TyA.len (h:TyA K g ga gd gf go sch VT VD s ts ds):sch.length=17:=h.sch.len
theorem TyA.c17 (h:TyA K g ga gd gf go sch VT VD s ts ds):(sch++[VT,.map (some ga),VD,.map (some gd),.map (some gf),.map (some go)])[17]?=some VT:=ty_c h.len _ 0
theorem TyA.c18 (h:TyA K g ga gd gf go sch VT VD s ts ds):(sch++[VT,.map (some ga),VD,.map (some gd),.map (some gf),.map (some go)])[18]?=some (.map (some ga)):=ty_c h.len _ 1
theorem TyA.c21 (h:TyA K g ga gd gf go sch VT VD s ts ds):(sch++[VT,.map (some ga),VD,.map (some gd),.map (some gf),.map (some go)])[21]?=some (.map (some gf)):=ty_c h.len _ 4
theorem TyA.c22 (h:TyA K g ga gd gf go sch VT VD s ts ds):(sch++[VT,.map (some ga),VD,.map (some gd),.map (some gf),.map (some go)])[22]?=some (.map (some go)):=ty_c h.len _ 5
theorem TyA.sat (h:TyA K g ga gd gf go sch VT VD s ts ds) (hs:Sat K' K):TyA K' g ga gd gf go sch VT VD s ts ds:=
 ⟨h.box.sat hs,h.sch.sat hs,h.types.sat hs,h.dirs.sat hs,h.at_.sat hs,h.dirAt.sat hs⟩
end
structure Tys (K:World) (g:Nat) (D:TysD) (ga gd gf go:Nat) (sch:List Value) (VT VD:Value) (OB:List (Txt×Nat×List (Txt×Value))):Prop where
 a:TyA K g ga gd gf go sch VT VD D.schema D.types D.dirs
 fields:Km K gf (y0u kp D.fields)
 objects:Km K go (y0u ks (y1u OB))
 om:D.objects=omap OB
 sets: ∀p∈OB,Km K p.2.1 (y0u ks p.2.2)
def TysK (K:World) (g:Nat) (D:TysD):Prop:=∃ga gd gf go sch VT VD OB,Tys K g D ga gd gf go sch VT VD OB
section
variable {K K' : World} {g : Nat} {D : TysD}
theorem Tys.sat {ga gd gf go:Nat} {sch:List Value} {VT VD:Value} {OB:List (Txt×Nat×List (Txt×Value))} (h:Tys K g D ga gd gf go sch VT VD OB) (hs:Sat K' K):Tys K' g D ga gd gf go sch VT VD OB:=
 ⟨h.a.sat hs,h.fields.sat hs,h.objects.sat hs,h.om,fun p hp=>(h.sets p hp).sat hs⟩
theorem TysK.sat (h:TysK K g D) (hs:Sat K' K):TysK K' g D:=by
 obtain ⟨ga,gd,gf,go,sch,VT,VD,OB,h⟩:=h;exact ⟨ga,gd,gf,go,sch,VT,VD,OB,h.sat hs⟩
end
set_option maxRecDepth 100000
attribute [local go_sem ↓] Go.wp_at_zero Go.wp_at_succ
theorem x9c (l:List (Txt×Value)) (x:Txt):y0z l x=y4z l x:=by
 have e1:(fun p:Txt×Value=>p.1==x)=fun p=>decide (p.1=x):=by funext p;rw [Bool.eq_iff_iff];simp
 unfold y0z y4z;rw [e1]
theorem y2l (ts:List DefD) (x:Txt):y0z (nmap (y0a ts)) x=(y1f ts x).map fun i=>.int .i64 ((i:Nat):Int):=(x9c _ x).trans (y90 (y0a ts) x)
theorem y7x {ts:List DefD} {x:Txt} {i:Nat} (h:y1f ts x=some i):i<ts.length:=by
 obtain ⟨d,hd,_⟩:=y1d h;exact (Qac.1 hd).1
section
variable {K : World} {g ga gd gf go : Nat} {sch : List Value} {VT VD : Value} {s : DefD} {ts ds : List DefD}
theorem y5e {n:Nat} {l:List Leaf} {v:Value} (h:RD K (.list n l) v): ∃A c,v= .slice A n c∧n≤c∧c≤maxLen:=by
 obtain ⟨A,c,vs,h1,h2,h3,_⟩:=y0m h.reads;exact ⟨A,c,h1,h2,h3⟩
theorem y33 {α:Type} {f:α→List Leaf} {m n c k:Nat} {A:Option Addr} {l:List α} {x:α} (hf: ∀x,(f x).length=m) (h:RD K (.list n (l.flatMap f)) (.slice A n c)) (hk:l[k]?=some x) (hm:0<m):
  ∃ad vs,A=some ad∧RL K (f x) vs∧vs.length=m∧At K (ad.add (k*m)) vs:=by
 obtain ⟨ad,vs,h1,h2,h3,_,h5,h6⟩:=y8u hf h hk hm;exact ⟨ad,vs,h1,h2,h3,⟨h5,h6⟩⟩
end
set_option maxHeartbeats 4000000 in
theorem q5a (x:Txt) (g ga gd gf go:Nat) (sch:List Value) (VT VD:Value) (s:DefD) (ts ds:List DefD) (w0 w K:World) (M:List Ent) (H:Hp w0 w K M) (T:TyA K g ga gd gf go sch VT VD s ts ds):
  Calls Tryz.prog 79 #[.pointer (some ⟨g,0,none⟩),.string (str x)] w fun e w'=>e= .returned (.int .i64 (y0c ts x))∧Hp w0 w' K M:=by
 have hq:=y2l ts x;have h18:=T.c18
 cases hi:y1f ts x with
 |none=>
  rw [hi] at hq;have hk:y0c ts x=0:=y42 hi;go_enter Tryz.func79,Tryz.ntmps79;have cf1:(w).cell? ⟨g,18,none⟩=some (.map (some ga)):=H.kcell T.box h18
  go_upto_region 2 with (first
   |(refine y1j (by rfl) (.tmp 11) (.tmp 12) 87 true (by rfl) Tryz.underlying87 (y1g Tryz.underlying9) (.int .i64 0) y0v ga (nmap (y0a ts)) (H.kmap T.at_) (by first|rfl|simp [Act.eval,Act.put]) (x) (by first|rfl|simp [Act.eval,Act.put]) (.tuple #[.int .i64 0,.bool false]) (by rw [hq];rfl) ?_))
  go_wp2_with fail
  go_ret;exact ⟨by rw [hk];rfl,H⟩
 |some i=>
  rw [hi] at hq;obtain ⟨d,hd,-⟩:=y1d hi;have hlt:=y7x hi;have hk:y0c ts x=d.kind:=y86 hi hd;obtain ⟨A,c,rfl,hc1,hc2⟩:=y5e T.types;obtain ⟨ad,vs,rfl,hxd,_,hat⟩:=y6z (m:=17) (f:=defL) y0x H T.types hd (by omega);obtain ⟨A6,c6,A7,c7,A8,c8,A9,c9,A10,c10,A11,c11,A12,c12,A14,c14,rfl,-,-,-,-,-,-,-,-⟩:=y0e hxd;have hcell:=hat.1 _ rfl;clear hat hxd
  have hltI:(i:Int)<(ts.length:Int):=by omega
  have h17:=H.kcell T.box T.c17;go_enter Tryz.func79,Tryz.ntmps79;have cf2:(w).cell? ⟨g,18,none⟩=some (.map (some ga)):=H.kcell T.box h18
  go_upto_region 2 with (first
   |(refine y1j (by rfl) (.tmp 11) (.tmp 12) 87 true (by rfl) Tryz.underlying87 (y1g Tryz.underlying9) (.int .i64 0) y0v ga (nmap (y0a ts)) (H.kmap T.at_) (by first|rfl|simp [Act.eval,Act.put]) (x) (by first|rfl|simp [Act.eval,Act.put]) (.tuple #[.int .i64 (i:Int),.bool true]) (by rw [hq];rfl) ?_))
  go_wp2_with fail
  go_ret;exact ⟨by rw [hk];rfl,H⟩
theorem x9d (d:DefD) (cs:Array Value) (w0 w K:World) (M:List Ent) (H:Hp w0 w K M) (hd:RL K (defL d) cs.toList):
  Calls Tryz.prog 107 #[.agg cs] w fun e w'=>e= .returned (.bool (y1c d))∧Hp w0 w' K M:=by
 obtain ⟨A6,c6,A7,c7,A8,c8,A9,c9,A10,c10,A11,c11,A12,c12,A14,c14,hcs,-,-,-,-,-,-,-,-⟩:=y0e hd;clear hd;have hs:y1c d=(decide (d.kind=1)&& !d.ext):=rfl;obtain ⟨kd,hkd⟩: ∃kd,d.kind=kd:=⟨_,rfl⟩;obtain ⟨ex,hex⟩: ∃ex,d.ext=ex:=⟨_,rfl⟩;rw [hs];clear hs;rw [hkd,hex] at hcs ⊢;clear hkd hex;obtain rfl:cs= #[.int .i64 kd,.bool ex,.bool d.note.has,.bool d.note.block,.string (str d.note.text),.string (str d.name),.slice A6 d.ifaces.length c6,.slice A7 d.dirs.length c7,.slice A8 d.fields.length c8,.slice A9 d.inputs.length c9,.slice A10 d.members.length c10,.slice A11 d.values.length c11,.slice A12 d.roots.length c12,.bool d.rep,.slice A14 d.places.length c14,.int .i64 d.line,.int .i64 d.col]:=Qal.1 hcs;clear hcs;by_cases h1:kd=1
 ·subst h1;go_enter Tryz.func107,Tryz.ntmps107
  go_wp2_with (first
   |(refine z08 (by rfl) 43 (.tmp 0) (by rfl) [.int .i64 1,.bool ex,.bool d.note.has,.bool d.note.block,.string (str d.note.text),.string (str d.name),.slice A6 d.ifaces.length c6,.slice A7 d.dirs.length c7,.slice A8 d.fields.length c8,.slice A9 d.inputs.length c9,.slice A10 d.members.length c10,.slice A11 d.values.length c11,.slice A12 d.roots.length c12,.bool d.rep,.slice A14 d.places.length c14,.int .i64 d.line,.int .i64 d.col] _ (by rfl) (by rfl) (some 1) (by rfl) H ?_;clear H;intro w1 g1 H hg2;clear hg2;have:=H.c 0 0;have:=H.c 0 1))
  replace H:=H.sub (Qai _ (Qam _));go_ret;exact ⟨by simp,H⟩
 ·skip
  go_enter Tryz.func107,Tryz.ntmps107
  go_wp2_with (first
   |(refine z08 (by rfl) 43 (.tmp 0) (by rfl) [.int .i64 kd,.bool ex,.bool d.note.has,.bool d.note.block,.string (str d.note.text),.string (str d.name),.slice A6 d.ifaces.length c6,.slice A7 d.dirs.length c7,.slice A8 d.fields.length c8,.slice A9 d.inputs.length c9,.slice A10 d.members.length c10,.slice A11 d.values.length c11,.slice A12 d.roots.length c12,.bool d.rep,.slice A14 d.places.length c14,.int .i64 d.line,.int .i64 d.col] _ (by rfl) (by rfl) (some 1) (by rfl) H ?_;clear H;intro w3 g1 H hg4;clear hg4;have:=H.c 0 0;have:=H.c 0 1))
  replace H:=H.sub (Qai _ (Qam _));go_ret;exact ⟨by simp [h1],H⟩
theorem z0v {α:Type} {p:α→Bool}: ∀{l:List α} {k:Nat} {x:α},(∀y∈l.take k,p y=false)→l[k]?=some x→p x=true→l.findIdx? p=some k
 |[],k,x,_,h,_=>by simp at h
 |a::r,0,x,_,h,hp=>by
  simp only [List.getElem?_cons_zero,Option.some.injEq] at h;subst h;simp [List.findIdx?_cons,hp]
 |a::r,k+1,x,h0,h,hp=>by
  have ha:p a=false:=h0 a (by simp);have:=z0v (l:=r) (k:=k) (fun y hy=>h0 y (by rw [List.take_succ_cons];exact Qa2 _ hy)) (by simpa using h) hp;simp [List.findIdx?_cons,ha,this]
theorem z49 {α:Type} {p:α→Bool} {l:List α} (h: ∀y∈l,p y=false):l.findIdx? p=none:=by
 rw [List.findIdx?_eq_none_iff];exact h
def idxI (o:Option Nat):Int:=match o with|none=> -1|some i=>i
set_option maxHeartbeats 4000000 in
theorem z8m (defs:List DefD) (n c:Nat) (A:Option Addr) (w0 w K:World) (M:List Ent) (H:Hp w0 w K M) (hn:defs.length=n) (hd:RD K (.list n (y0q defs)) (.slice A n c)) (hm:n≤20000000):
  Calls Tryz.prog 106 #[.slice A n c,.func (.func 107) #[] #[]] w fun e w'=>e= .returned (.int .i64 (idxI (defs.findIdx? y1c)))∧Hp w0 w' K M:=by
 have HN:=hide hn;clear hn;go_enter Tryz.func106,Tryz.ntmps106
 go_wp2_with fail
 go_loopw [8] (fun i wr=>∃k:Nat,k≤n∧i= .int .i64 k∧Hp w0 wr K M∧ ∀y∈defs.take k,y1c y=false) (fun i _=>n - (intOf i).toNat)
 case atStart=>exact ⟨0,Qak _,rfl,H,by simp⟩
 case round=>
  clear H;obtain ⟨k,hk,rfl,H,hno⟩:=hrel;by_cases hlt:k<n
  ·have hkI:(k:Int)<(n:Int):=by omega
   obtain ⟨x,hx⟩: ∃x,defs[k]?=some x:=⟨_,Qad (by rw [HN.out];exact hlt)⟩;have HX:=hide hx;obtain ⟨ad,xs,rfl,hxd,_,hat⟩:=y6z (m:=17) (f:=defL) y0x H hd hx (by omega);clear hx;have hsz:(Tryz.prog.info? 43).map (·.size)=some 17:=y9m;have hxl:xs.length=17:=hxd.len;have hno:=hide hno
   cases hb:y1c x with
   |true=>
    go_wp2_with (first
     |((with_reducible show wpList _ _ _ (_::_) _ _);refine y0d (by rfl) 43 (.tmp 14) (by rfl) (ad.add (k*17)) (by simp [Act.eval,Act.put]) _ _ hat Tryz.underlying43 rfl (by rw [hxl];exact hsz) ?_)
     |(go_at_call 107;refine (x9d x xs.toArray _ _ _ _ H hxd).mono ?_;clear H;rintro e w1 ⟨rfl,H⟩;rw [hb]))
    go_ret;exact ⟨by rw [z0v hno.out HX.out hb];rfl,H⟩
   |false=>
    go_wp2_with (first
     |((with_reducible show wpList _ _ _ (_::_) _ _);refine y0d (by rfl) 43 (.tmp 14) (by rfl) (ad.add (k*17)) (by simp [Act.eval,Act.put]) _ _ hat Tryz.underlying43 rfl (by rw [hxl];exact hsz) ?_)
     |(go_at_call 107;refine (x9d x xs.toArray _ _ _ _ H hxd).mono ?_;clear H;rintro e w1 ⟨rfl,H⟩;rw [hb]))
    go_roundw
    case rel=>exact ⟨k+1,by omega,by go_num,H,by
     intro y hy;rw [y0k HX.out] at hy;rcases Qbf.1 hy with hy|hy
     ·exact hno.out y hy
     ·obtain rfl:=Qax.1 hy;exact hb⟩
    case measure=>simp [intOf];omega
  ·obtain rfl:n=k:=by omega
   have htk:defs.take n=defs:=by rw [←HN.out];exact List.take_length
   rw [htk] at hno;have hno:=hide hno
   go_wp2_with fail
   go_ret;exact ⟨by rw [z49 hno.out];rfl,H⟩
def y92 (ts:List DefD) (k:Nat):List RootD:=((rootN.zipIdx.take k).filter fun p=>y0c ts p.1==3).map fun p=>⟨1+(p.2:Int),p.1,0,0⟩
theorem x5c (ts:List DefD):y92 ts 3=y40 ts:=rfl
theorem x0x (ts:List DefD) {k:Nat} {x:Txt} (h:rootN[k]?=some x):y92 ts (k+1)=y92 ts k++if y0c ts x=3 then [⟨1+(k:Int),x,0,0⟩] else []:=by
 have h1:rootN.zipIdx[k]?=some (x,k):=by rw [List.getElem?_zipIdx,h];simp
 unfold y92;rw [List.take_add_one,h1,List.filter_append,Qas]
 congr 1
 by_cases h3:y0c ts x=3
 ·simp [h3]
 ·simp [h3]
theorem x5d {K:World} {l:List RootD} {r:RootD} {vs:List Value} (h:RL K (y2a l) vs):RL K (y2a (l++[r])) (vs++[.int .i64 r.op,.string (str r.type),.int .i64 r.line,.int .i64 r.col]):=by
 rw [y21];exact h.app (by simp only [y2a,List.flatMap_cons,List.flatMap_nil,List.append_nil];exact .lit (.lit (.lit (.lit RL.z))))
def SchP (s:DefD) (w0 K:World) (M:List Ent) (e:Ending) (w':World):Prop:=
 ∃K' cs,e= .returned (.agg cs)∧Sat K' K∧Hp w0 w' K' M∧RL K' (defL s) cs.toList
set_option maxHeartbeats 16000000 in
theorem x5e (defs ts:List DefD) (n c nt ct:Nat) (A Aty:Option Addr) (g ga gd gf go:Nat) (VD:Value) (w0 w K:World) (M:List Ent) (H:Hp w0 w K (tbox g ga gd gf go (.slice Aty nt ct) VD::M)) (hn:defs.length=n) (hd:RD K (.list n (y0q defs)) (.slice A n c)) (hm:n≤20000000)
  (hnt:ts.length=nt) (ht:RD K (.list nt (y0q ts)) (.slice Aty nt ct)) (hat:Km K ga (y0u ks (nmap (y0a ts)))) (hno:defs.findIdx? y1c=none):
  Calls Tryz.prog 61 #[.pointer (some ⟨g,0,none⟩),.slice A n c] w (SchP {y3p with roots:=y40 ts} w0 K (tbox g ga gd gf go (.slice Aty nt ct) VD::M)):=by
 have HN:=hide hn;have HNT:=hide hnt;clear hn hnt;obtain ⟨k0,hk0,k0z,k0s,k0b⟩:=info_parts z2h;have hM: ∃M',(tbox g ga gd gf go (.slice Aty nt ct) VD::M)=M':=⟨_,rfl⟩;go_enter Tryz.func61,Tryz.ntmps61;replace H:Hp _ _ _ (.box _ [_,_,_,_,_,_,_,_,_,_,_,_,_,_,_,_,_,_,_,_,_,_,_] _::M):=H
 try dsimp only at H
 have hK:=Sat.refl K
 go_upto_region 4 with (first
  |(go_at_call 106;refine (z8m defs n c A _ _ _ _ H HN.out hd hm).mono ?_;clear H;rintro e w5 ⟨rfl,H⟩;rw [hno];clear hno;simp only [idxI])
  |((with_reducible refine isL ?_);first
   |(refine al z43 4 H ?_;clear H;intro w1 g4 H)
   |(refine al z43 6 H ?_;clear H;intro w4 g6 H)
   |(refine sA 6 0 H ?_;clear H;intro w6 H)))
 go_upto_region 5 with (first
  |(refine y2k (by rfl) 27 9 3 _ (by rfl) (some 20) (by rfl) Tryz.underlying27 [.string ⟨#[81,117,101,114,121]⟩,.string ⟨#[77,117,116,97,116,105,111,110]⟩,.string ⟨#[83,117,98,115,99,114,105,112,116,105,111,110]⟩] (by kernel_rfl) H ?_;clear H;intro w7 g20 H;obtain ⟨K2,hle8,H,hnames⟩:=H.freezeBox (n:=3) (ls:=y0t rootN) ((rt_s (rt_s (rt_s RL.z)))) (by simp only [maxLen];omega);replace hd:=hd.sat hle8;replace ht:=ht.sat hle8;replace hat:=hat.sat hle8;replace hK:=hle8.trans hK))
 go_wp2_with fail
 go_loopw [22] (fun i wr=>∃(k:Nat) (V:Value) (vs:List Value),k≤3∧i= .int .i64 k∧Hp w0 wr K2 (.row 100 4 V (y92 ts k).length vs:: .box g6 [.int .i64 1,.bool false,.bool false,.bool false,.string ⟨#[]⟩,.string ⟨#[]⟩,.slice none 0 0,.slice none 0 0,.slice none 0 0,.slice none 0 0,.slice none 0 0,.slice none 0 0,V,.bool false,.slice none 0 0,.int .i64 0,.int .i64 0] 43:: .box g4 [.int .i64 0,.bool false,.bool false,.bool false,.string ⟨#[]⟩,.string ⟨#[]⟩,.slice none 0 0,.slice none 0 0,.slice none 0 0,.slice none 0 0,.slice none 0 0,.slice none 0 0,.slice none 0 0,.bool false,.slice none 0 0,.int .i64 0,.int .i64 0] 43::tbox g ga gd gf go (.slice Aty nt ct) VD::M)∧RL K2 (y2a (y92 ts k)) vs) (fun i _=>3 - (intOf i).toNat)
 case atStart=>exact ⟨0,_,[],Qak _,rfl,H.nilRow 100 4,RL.z⟩
 case round=>
  clear H;obtain ⟨k,V,vs,hk,rfl,H,hvs⟩:=hrel;obtain ⟨Av,cv,rfl,_,_⟩:=H.slice (i:=0) rfl
  have hrl:(y92 ts k).length≤3:=by unfold y92;rw [Qay];exact Qah (Qb4 _ _) (by rw [Qau];exact Nat.min_le_right _ _)
  obtain ⟨rs,hrs⟩: ∃rs,y92 ts k=rs:=⟨_,rfl⟩;by_cases hlt:k<3
  ·have hkI:(k:Int)<(3:Int):=by omega
   obtain ⟨x,hx⟩: ∃x,rootN[k]?=some x:=⟨_,Qad hlt⟩;have HE:=hide (x0x ts hx);rw [hrs] at H hvs HE hrl;clear hrs;obtain ⟨ad,had,hc⟩:=z3k H hnames hx;injection had with had;subst had;rw [y26] at hc;clear hx;have hq:=y2l ts x;obtain ⟨m,hmr⟩: ∃m,rs.length=m:=⟨_,rfl⟩;have HM:=hide hmr;rw [hmr] at H hrl;clear hmr;replace H:Hp _ _ _ (_:: .box _ [_,_,_,_,_,_,_,_,_,_,_,_,_,_,_,_,_] _:: .box _ [_,_,_,_,_,_,_,_,_,_,_,_,_,_,_,_,_] _:: .box _ [_,_,_,_,_,_,_,_,_,_,_,_,_,_,_,_,_,_,_,_,_,_,_] _::M):=H
   try dsimp only at H
   cases hi:y1f ts x with
   |none=>
    rw [hi] at hq;have hk0:y0c ts x=0:=y42 hi;rw [if_neg (by omega),List.append_nil] at HE;have:=H.c 3 18
    go_upto_region 8 with (first
     |(refine y1j (by rfl) (.tmp 31) (.tmp 32) 87 true (by rfl) Tryz.underlying87 (y1g Tryz.underlying9) (.int .i64 0) y0v ga (nmap (y0a ts)) (H.kmap hat) (by first|rfl|simp [Act.eval,Act.put]) (x) (by first|rfl|simp [Act.eval,Act.put]) (.tuple #[.int .i64 0,.bool false]) (by rw [hq];rfl) ?_))
    go_wp2_with fail
    go_roundw
    case rel=>exact ⟨k+1,_,vs,by omega,by go_num,by rw [HE.out,HM.out];exact H,by rw [HE.out];exact hvs⟩
    case measure=>simp [intOf];omega
   |some i=>
    rw [hi] at hq;obtain ⟨d,hd1,-⟩:=y1d hi;have hil:=y7x hi;rw [HNT.out] at hil;have hkk:y0c ts x=d.kind:=y86 hi hd1;obtain ⟨ad2,xs,rfl,hxd,_,hat2⟩:=y6z (m:=17) (f:=defL) y0x H ht hd1 (by omega);obtain ⟨A6,c6,A7,c7,A8,c8,A9,c9,A10,c10,A11,c11,A12,c12,A14,c14,rfl,-,-,-,-,-,-,-,-⟩:=y0e hxd;have hcell:=hat2.1 _ rfl;clear hat2 hxd hd1;rw [hkk] at HE;clear hkk;obtain ⟨kd,hkd⟩: ∃kd,d.kind=kd:=⟨_,rfl⟩;rw [hkd] at hcell HE;clear hkd
    have hiI:(i:Int)<(nt:Int):=by omega
    by_cases h3:kd=3
    ·subst h3;rw [if_pos rfl] at HE;have:=H.c 3 18
     go_upto_region 8 with (first
      |(refine y1j (by rfl) (.tmp 31) (.tmp 32) 87 true (by rfl) Tryz.underlying87 (y1g Tryz.underlying9) (.int .i64 0) y0v ga (nmap (y0a ts)) (H.kmap hat) (by first|rfl|simp [Act.eval,Act.put]) (x) (by first|rfl|simp [Act.eval,Act.put]) (.tuple #[.int .i64 (i:Int),.bool true]) (by rw [hq];rfl) ?_))
     have:=H.c 3 17
     go_upto_region 9 with (fail)
     have:=H.c 1 12
     go_upto_region 10 with (first
      |(refine y2k (by rfl) 39 100 1 _ (by rfl) (some 54) (by rfl) Tryz.underlying39 [.int .i64 (1+(k:Int)),.string (str x),.int .i64 0,.int .i64 0] (by kernel_rfl) H ?_;clear H;intro w9 g54 H;have:=H.c 2 12)
      |(at_builtin;refine y4v (by rfl) _ _ 39 (by rfl) 100 k0 _ 4 40 Tryz.underlying39 hk0 k0z k0s k0b (by rfl) (by decide) H 1 (.slice Av m cv) (m) (vs) (by rfl) (by first|rfl|simp [Act.eval,Act.put]) (some ⟨g54,0,none⟩) 1 1 [.int .i64 (1+(k:Int)),.string (str x),.int .i64 0,.int .i64 0] (by first|rfl|simp [Act.eval,Act.put]) (by rfl) (H.rd (i:=0) rfl) (by simp [Value.oneCell']) (by simp only [maxLen];omega) (by omega) ?_;clear H;intro V2 w2 H;replace H:Hp w0 w2 K2 (.box g54 [.int .i64 (1+(k:Int)),.string (str x),.int .i64 0,.int .i64 0] 100:: .row 100 4 (V2) (m+1) (vs++[.int .i64 (1+(k:Int)),.string (str x),.int .i64 0,.int .i64 0]):: .box g6 [.int .i64 1,.bool false,.bool false,.bool false,.string ⟨#[]⟩,.string ⟨#[]⟩,.slice none 0 0,.slice none 0 0,.slice none 0 0,.slice none 0 0,.slice none 0 0,.slice none 0 0,.slice Av m cv,.bool false,.slice none 0 0,.int .i64 0,.int .i64 0] 43:: .box g4 [.int .i64 0,.bool false,.bool false,.bool false,.string ⟨#[]⟩,.string ⟨#[]⟩,.slice none 0 0,.slice none 0 0,.slice none 0 0,.slice none 0 0,.slice none 0 0,.slice none 0 0,.slice none 0 0,.bool false,.slice none 0 0,.int .i64 0,.int .i64 0] 43:: .box g [.int .i64 0,.bool false,.bool false,.bool false,.string ⟨#[]⟩,.string ⟨#[]⟩,.slice none 0 0,.slice none 0 0,.slice none 0 0,.slice none 0 0,.slice none 0 0,.slice none 0 0,.slice none 0 0,.bool false,.slice none 0 0,.int .i64 0,.int .i64 0,.slice (some ad2) nt ct,.map (some ga),VD,.map (some gd),.map (some gf),.map (some go)] 91::M):=H;obtain ⟨V2A,V2c,rfl,V2l,V2m⟩:=H.slice (i:=1) rfl;have:=H.c 2 12)
      |((with_reducible refine isL ?_);first
       |(refine s1 56 2 (.slice V2A (m+1) V2c) H ?_;clear H;intro w10 H;have:=H.c 2 12)))
     replace H:=H.sub (Qai _ (Qaa _ (Qaa _ (Qaa _ (Qaa _ (Qam _))))))
     go_wp2_with fail
     go_roundw
     case rel=>exact ⟨k+1,_,_,by omega,by go_num,by rw [HE.out];simp only [Qae,List.length_cons,List.length_nil,HM.out];exact H,by rw [HE.out];exact x5d hvs⟩
     case measure=>simp [intOf];omega
    ·rw [if_neg h3,List.append_nil] at HE;have:=H.c 3 18
     go_upto_region 8 with (first
      |(refine y1j (by rfl) (.tmp 31) (.tmp 32) 87 true (by rfl) Tryz.underlying87 (y1g Tryz.underlying9) (.int .i64 0) y0v ga (nmap (y0a ts)) (H.kmap hat) (by first|rfl|simp [Act.eval,Act.put]) (x) (by first|rfl|simp [Act.eval,Act.put]) (.tuple #[.int .i64 (i:Int),.bool true]) (by rw [hq];rfl) ?_))
     have:=H.c 3 17
     go_upto_region 9 with (fail)
     go_wp2_with fail
     go_roundw
     case rel=>exact ⟨k+1,_,vs,by omega,by go_num,by rw [HE.out,HM.out];exact H,by rw [HE.out];exact hvs⟩
     case measure=>simp [intOf];omega
  ·obtain rfl:k=3:=by omega
   rw [x5c] at H hvs hrs;clear hrs;replace H:Hp _ _ _ (_:: .box _ [_,_,_,_,_,_,_,_,_,_,_,_,_,_,_,_,_] _:: .box _ [_,_,_,_,_,_,_,_,_,_,_,_,_,_,_,_,_] _:: .box _ [_,_,_,_,_,_,_,_,_,_,_,_,_,_,_,_,_,_,_,_,_,_,_] _::M):=H
   try dsimp only at H
   go_upto_region 11 with (fail)
   go_wp2_with (first
    |((with_reducible refine isL ?_);first
     |(refine ld 6 1 17 Tryz.underlying43 H ?_)
     |(refine sA 4 2 H ?_;clear H;intro w11 H)))
   refine bodyPost_ret (v:=.agg #[.int .i64 1,.bool false,.bool false,.bool false,.string ⟨#[]⟩,.string ⟨#[]⟩,.slice none 0 0,.slice none 0 0,.slice none 0 0,.slice none 0 0,.slice none 0 0,.slice none 0 0,.slice Av (y40 ts).length cv,.bool false,.slice none 0 0,.int .i64 0,.int .i64 0]) (results_cell_row rfl _ _ g4 43 _ (0,0) _ (by rfl) (H.blkAt (i:=2) rfl) Tryz.underlying43 rfl (by kernel_rfl)) rfl ?_;replace H:=H.sub (Qaa _ (Qai _ (Qai _ (Qaa _ (Qam _)))));obtain ⟨K',hle,H,hv⟩:=H.freezeRow hvs;exact ⟨K',_,rfl,hle.trans hK,H,.lit (.lit (.lit (.lit (.lit (.lit (.cons RD.z (.cons RD.z (.cons RD.z (.cons RD.z (.cons RD.z (.cons RD.z (.cons hv (.lit (.cons RD.z (.lit (.lit RL.z))))))))))))))))⟩
set_option maxHeartbeats 16000000 in
theorem x5f (defs:List DefD) (d:DefD) (i0 n c:Nat) (A:Option Addr) (g:Nat) (w0 w K:World) (M:List Ent) (H:Hp w0 w K M) (hn:defs.length=n) (hd:RD K (.list n (y0q defs)) (.slice A n c)) (hm:y0f defs≤3000000)
  (hat0:defs[i0]?=some d) (hi0:defs.findIdx? y1c=some i0):
  Calls Tryz.prog 61 #[.pointer (some ⟨g,0,none⟩),.slice A n c] w (SchP (defs.foldl y3q d) w0 K M):=by
 have hnl:n≤3000000:=by have:=y0p y1x defs;unfold y0f at hm;omega
 have hdn:=y3r hat0
 have hlt0:i0<n:=by have:=(Qac.1 hat0).1;omega
 have hlt0I:(i0:Int)<(n:Int):=by omega
 have hneg: ¬((i0:Int)<0):=by omega
 have HN:=hide hn;clear hn;obtain ⟨k1,hk1,k1z,k1s,k1b⟩:=info_parts x1m;obtain ⟨k6,hk6,k6z,k6s,k6b⟩:=info_parts z2h;have hsz:(Tryz.prog.info? 43).map (·.size)=some 17:=y9m;obtain ⟨ad,xs,rfl,hxd,hxl,hatK⟩:=y33 (m:=17) (f:=defL) y0x hd hat0 (by omega)
 have hdm:defN d≤9000000:=by omega
 go_enter Tryz.func61,Tryz.ntmps61;have hK:=Sat.refl K
 go_upto_region 2 with (first
  |(go_at_call 106;refine (z8m defs n c (some ad) _ _ _ _ H HN.out hd (by omega)).mono ?_;clear H;rintro e w5 ⟨rfl,H⟩;rw [hi0];simp only [idxI])
  |((with_reducible refine isL ?_);first
   |(refine al z43 4 H ?_;clear H;intro w1 g4 H)))
 go_upto_region 12 with (fail)
 go_upto_region 13 with (first
  |(go_at_call 65;refine (y60 d xs.toArray H hdm hxd).mono ?_;clear H;rintro e w6 ⟨K6,V,rfl,hle,H,hV⟩;replace hd:=hd.sat hle;replace hK:=hle.trans hK;have ho:=y8f H;replace H:Hp _ _ _ (_::_::_::_::_::_::_::_::_::M):=H)
  |((with_reducible show wpList _ _ _ (_::_) _ _);refine y0d (by rfl) 43 (.tmp 61) (by rfl) (ad.add (i0*17)) (by simp [Act.eval,Act.put]) _ _ (At.sat hatK H.sat) Tryz.underlying43 rfl (by rw [hxl];exact hsz) ?_)
  |((with_reducible refine isL ?_);first
   |(refine al z43 11 H ?_;clear H;intro w5 g11 H)
   |(refine sA 11 0 H ?_;clear H;intro w7 H)))
 clear hatK hxd ho
 go_wp2_with fail
 go_loopw [66] (fun i wr=>∃(k:Nat) (K7:World) (s:DefD) (V:DV),k≤n∧i= .int .i64 k∧(defs.take k).foldl y3q d=s∧Sat K7 K∧V.ok K7 s∧RD K7 (.list n (y0q defs)) (.slice (some ad) n c)∧Hp w0 wr K7 (.box g11 (DV.cells s V) 43::(DV.rows s V++(.box g4 [.int .i64 0,.bool false,.bool false,.bool false,.string ⟨#[]⟩,.string ⟨#[]⟩,.slice none 0 0,.slice none 0 0,.slice none 0 0,.slice none 0 0,.slice none 0 0,.slice none 0 0,.slice none 0 0,.bool false,.slice none 0 0,.int .i64 0,.int .i64 0] 43::M)))) (fun i _=>n - (intOf i).toNat)
 case atStart=>exact ⟨0,K6,d,V,Qak _,rfl,rfl,hK,hV,hd,H⟩
 case round=>
  clear H hV hd hK;obtain ⟨k,K7,s,V,hk,rfl,hs,hK,hV,hd,H⟩:=hrel
  have hsN:defN s≤9000000:=by
   have h1:=z3o (defs.take k) d;have h2:=y91 (f:=defN) defs k;rw [hs] at h1;unfold y0f at h1 hm hdn;omega
  by_cases hlt:k<n
  ·have hkI:(k:Int)<(n:Int):=by omega
   obtain ⟨x,hx⟩: ∃x,defs[k]?=some x:=⟨_,Qad (by rw [HN.out];exact hlt)⟩;have HE:=hide (y32 hx y3q d);rw [hs] at HE;clear hs;obtain ⟨ad',xs,had,hxd,hxl,hatK⟩:=y33 (m:=17) (f:=defL) y0x hd hx (by omega);injection had with had;subst had;have hxN:=y3r hx;clear hx
   have hxm:defN x≤9000000:=by omega
   have hxdK:=hxd;obtain ⟨A6,c6,A7,c7,A8,c8,A9,c9,A10,c10,A11,c11,A12,c12,A14,c14,hxs,-,-,-,-,-,-,-,-⟩:=y0e hxdK;clear hxdK;obtain ⟨kd,hkd⟩: ∃kd,x.kind=kd:=⟨_,rfl⟩;obtain ⟨ex,hex⟩: ∃ex,x.ext=ex:=⟨_,rfl⟩;rw [hkd,hex] at hxs;have HS:=hide (show y3q s x=if kd=1∧ex=true then {s with dirs:=s.dirs++x.dirs,roots:=s.roots++x.roots} else s by rw [←hkd,←hex];rfl);have HKD:=hide hkd;have HEX:=hide hex;clear hkd hex;subst hxs;obtain ⟨V8,V11,V6,V10,V14,V12,V9,V7,x8,x11,x6,x10,x14,x12,x9,x7⟩:=V;replace H:Hp _ _ _ (.box _ [_,_,_,_,_,_,_,_,_,_,_,_,_,_,_,_,_] _::_::_::_::_::_::_::_::_:: .box _ [_,_,_,_,_,_,_,_,_,_,_,_,_,_,_,_,_] _::M):=H
   try dsimp only at H
   by_cases h1:kd=1
   ·subst h1
    cases ex with
    |true=>
     have HS2:=hide (HS.out.trans (if_pos ⟨rfl,rfl⟩));clear HS
     go_upto_region 17 with (first
      |((with_reducible show wpList _ _ _ (_::_) _ _);refine y0d (by rfl) 43 (.tmp 68) (by rfl) (ad.add (k*17)) (by simp [Act.eval,Act.put]) _ _ (At.sat hatK H.sat) Tryz.underlying43 rfl hsz ?_)
      |((with_reducible refine isL ?_);first
       |(refine al z43 13 H ?_;clear H;intro w8 g13 H;have:=H.c 0 0;have:=H.c 0 1)
       |(refine sA 13 0 H ?_;clear H;intro w10 H;have:=H.c 0 0;have:=H.c 0 1)))
     go_upto_region 18 with (first
      |(go_at_call 65;refine (y7m x _ H hxm hxd).mono ?_;clear H;rintro e w8 ⟨K8,cs8,rfl,hle,H,hd8⟩;replace hd:=hd.sat hle;replace hV:=hV.sat hle;replace hxd:=hxd.sat hle;replace hK:=hle.trans hK;obtain ⟨D6,f6,D7,f7,D8,f8,D9,f9,D10,f10,D11,f11,D12,f12,D14,f14,hcs5,e6,e7,e8,e9,e10,e11,e12,e14⟩:=y0e hd8;obtain rfl:cs8= #[.int .i64 x.kind,.bool x.ext,.bool x.note.has,.bool x.note.block,.string (str x.note.text),.string (str x.name),.slice D6 x.ifaces.length f6,.slice D7 x.dirs.length f7,.slice D8 x.fields.length f8,.slice D9 x.inputs.length f9,.slice D10 x.members.length f10,.slice D11 x.values.length f11,.slice D12 x.roots.length f12,.bool x.rep,.slice D14 x.places.length f14,.int .i64 x.line,.int .i64 x.col]:=Qal.1 hcs5;clear hcs5 hd8)
      |((with_reducible refine isL ?_);first
       |(refine ld 13 0 17 Tryz.underlying43 H ?_)
       |(refine al z43 14 H ?_;clear H;intro w12 g14 H)
       |(refine sA 14 0 H ?_;clear H;intro w14 H)))
     clear hatK;have hl7:=y0p y4d s.dirs;have hx7:=y0p y4d x.dirs
     have hb7:s.dirs.length+x.dirs.length≤20000000:=by unfold defN at hsN hxm;omega
     have hb12:s.roots.length+x.roots.length≤20000000:=by unfold defN at hsN hxm;omega
     clear hl7 hx7;have:=H.c 2 7;have:=H.c 0 7
     go_upto_region 19 with (first
      |(at_builtin;refine ap 10 e35 e7 (y9o x.dirs) H ?_;clear H;intro us15 U7A U7c u7 hus15 lus15 _ _ H;dsimp only [List.set] at H;have:=H.c 2 7;have:=H.c 0 7)
      |((with_reducible refine isL ?_);first
       |(refine s1 84 2 (.slice U7A (s.dirs.length+x.dirs.length) U7c) H ?_;clear H;intro w16 H;have:=H.c 2 7;have:=H.c 0 7)))
     have:=H.c 2 12;have:=H.c 0 12
     go_upto_region 20 with (first
      |(at_builtin;refine ap 8 e39 e12 (y4l x.roots) H ?_;clear H;intro us17 U12A U12c u12 hus17 lus17 _ _ H;dsimp only [List.set] at H;have:=H.c 2 12;have:=H.c 0 12)
      |((with_reducible refine isL ?_);first
       |(refine s1 90 2 (.slice U12A (s.roots.length+x.roots.length) U12c) H ?_;clear H;intro w18 H;have:=H.c 2 12;have:=H.c 0 12)))
     replace H:=H.sub (Qai _ (Qai _ (Qaa _ (Qaa _ (Qaa _ (Qaa _ (Qaa _ (Qaa _ (Qaa _ (Qaa _ (Qaa _ (Qaa _ (Qam _)))))))))))))
     go_wp2_with fail
     go_roundw
     case rel=>
      simp only [←Qae] at H;refine ⟨k+1,K8,{s with dirs:=s.dirs++x.dirs,roots:=s.roots++x.roots},⟨_,_,_,_,_,_,_,_,_,_,_,_,_,_,_,_⟩,by omega,by go_num,by rw [HE.out,HS2.out],hK,?_,hd,H⟩;exact ⟨hV.r8,hV.r11,hV.r6,hV.r10,hV.r14,by dsimp only;rw [y21];exact hV.r12.app (by assumption),hV.r9,by dsimp only;rw [y4t];exact hV.r7.app (by assumption)⟩
     case measure=>simp [intOf];omega
    |false=>
     have HS2:=hide (HS.out.trans (if_neg (by simp)));clear HS
     go_upto_region 17 with (first
      |((with_reducible show wpList _ _ _ (_::_) _ _);refine y0d (by rfl) 43 (.tmp 68) (by rfl) (ad.add (k*17)) (by simp [Act.eval,Act.put]) _ _ (At.sat hatK H.sat) Tryz.underlying43 rfl hsz ?_)
      |((with_reducible refine isL ?_);first
       |(refine al z43 13 H ?_;clear H;intro w19 g13 H;have:=H.c 0 0;have:=H.c 0 1)
       |(refine sA 13 0 H ?_;clear H;intro w21 H;have:=H.c 0 0;have:=H.c 0 1)))
     replace H:=H.sub (Qai _ (Qaa _ (Qaa _ (Qaa _ (Qaa _ (Qaa _ (Qaa _ (Qaa _ (Qaa _ (Qaa _ (Qaa _ (Qam _))))))))))))
     go_wp2_with fail
     go_roundw
     case rel=>exact ⟨k+1,K7,s,⟨V8,V11,V6,V10,V14,V12,V9,V7,x8,x11,x6,x10,x14,x12,x9,x7⟩,by omega,by go_num,by rw [HE.out,HS2.out],hK,hV,hd,H⟩
     case measure=>simp [intOf];omega
   ·have HS2:=hide (HS.out.trans (if_neg (fun h=>h1 h.1)));clear HS
    go_upto_region 17 with (first
     |((with_reducible show wpList _ _ _ (_::_) _ _);refine y0d (by rfl) 43 (.tmp 68) (by rfl) (ad.add (k*17)) (by simp [Act.eval,Act.put]) _ _ (At.sat hatK H.sat) Tryz.underlying43 rfl hsz ?_)
     |((with_reducible refine isL ?_);first
      |(refine al z43 13 H ?_;clear H;intro w22 g13 H;have:=H.c 0 0;have:=H.c 0 1)
      |(refine sA 13 0 H ?_;clear H;intro w24 H;have:=H.c 0 0;have:=H.c 0 1)))
    replace H:=H.sub (Qai _ (Qaa _ (Qaa _ (Qaa _ (Qaa _ (Qaa _ (Qaa _ (Qaa _ (Qaa _ (Qaa _ (Qaa _ (Qam _))))))))))))
    go_wp2_with fail
    go_roundw
    case rel=>exact ⟨k+1,K7,s,⟨V8,V11,V6,V10,V14,V12,V9,V7,x8,x11,x6,x10,x14,x12,x9,x7⟩,by omega,by go_num,by rw [HE.out,HS2.out],hK,hV,hd,H⟩
    case measure=>simp [intOf];omega
  ·obtain rfl:n=k:=by omega
   have htk:defs.take n=defs:=by rw [←HN.out];exact List.take_length
   rw [htk] at hs;clear htk;have HS:=hide hs;clear hs;have ho:=y8f H.tail;obtain ⟨V8,V11,V6,V10,V14,V12,V9,V7,x8,x11,x6,x10,x14,x12,x9,x7⟩:=V;replace H:Hp _ _ _ (.box _ [_,_,_,_,_,_,_,_,_,_,_,_,_,_,_,_,_] _::_::_::_::_::_::_::_::_:: .box _ [_,_,_,_,_,_,_,_,_,_,_,_,_,_,_,_,_] _::M):=H
   try dsimp only at H
   go_upto_region 21 with (fail)
   go_wp2_with (first
    |((with_reducible refine isL ?_);first
     |(refine ld 11 0 17 Tryz.underlying43 H ?_)
     |(refine sA 4 9 H ?_;clear H;intro w25 H)))
   refine bodyPost_ret (v:=.agg #[.int .i64 s.kind,.bool s.ext,.bool s.note.has,.bool s.note.block,.string (str s.note.text),.string (str s.name),V6,V7,V8,V9,V10,V11,V12,.bool s.rep,V14,.int .i64 s.line,.int .i64 s.col]) (results_cell_row rfl _ _ g4 43 _ (0,0) _ (by rfl) (H.blkAt (i:=9) rfl) Tryz.underlying43 rfl (by kernel_rfl)) rfl ?_;replace H:=H.sub (Qai _ (Qaa _ (Qaa _ (Qaa _ (Qaa _ (Qaa _ (Qaa _ (Qaa _ (Qaa _ (Qai _ (Qam _)))))))))));obtain ⟨K',hle,H,hv⟩:=Hp.freezeDef H hV;exact ⟨K',_,rfl,hle.trans hK,H,by rw [HS.out];exact hv⟩
end Go.Proofs.YtbpgkkoeehopjaaGreat.hp
