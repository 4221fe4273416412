/- Part 10 of a proof: see the text that holds the statement. -/
import Derived.Test.YtbpgkkoeehopjaaGreatP5
import Derived.Test.YtbpgkkoeehopjaaGreatP9
import Derived.Laws.StructEq
import Derived.WalkSpells
import Derived.Deep.QuietTactic
import Derived.BigQuiet
set_option linter.unusedVariables false
set_option linter.unusedSimpArgs false
namespace Go.Proofs.YtbpgkkoeehopjaaGreat.hp
open Go.RowKit words enc tree gram lex rd dec dat held
section
variable {κ : Type} [DecidableEq κ]
def y0s (kv:κ→Value) (l:List (κ×Value)):List (Value×Value):=l.map fun p=>(kv p.1,p.2)
def y00 (l:List (κ×Value)) (x:κ):Option Value:=(l.find? (fun p=>decide (p.1=x))).map (·.2)
def kidx (l:List (κ×Value)) (x:κ):Option Nat:=l.findIdx? (fun p=>decide (p.1=x))
def kput:List (κ×Value)→κ→Value→List (κ×Value)
 |[],x,v=>[(x,v)]
 |p::r,x,v=>if p.1=x then (x,v)::r else p::kput r x v
theorem z2s {l:List (κ×Value)} {x:κ} {v:Value} (h:y00 l x=none):kput l x v=l++[(x,v)]:=by
 induction l with
 |nil=>rfl
 |cons p r ih=>
  by_cases hp:p.1=x
  ·simp [y00,hp] at h
  ·have:y00 r x=none:=by simpa [y00,hp] using h
   rw [kput,if_neg hp,ih this];rfl
structure Keys (P:Program) (kt:TypeId) (kv:κ→Value):Prop where
 find: ∀(w:World) (x:κ) (l:List (κ×Value)),(Instr.findKey kt (kv x) (y20 (y0s kv l))).run P w= .ok ((kidx l x).bind fun k=>(l[k]?).map fun p=>(k,p.2)) w
 check: ∀(w:World) (e:Bool) (x:κ),(Instr.checkKey e 10000 kt (kv x)).run P w= .ok () w
 stays: ∀(x:κ),Instr.sameBits 10000 (kv x) (kv x)=true
section
variable {P : Program} {w : World} {b t kt et : Nat} {l : List (κ × Value)} {kv : κ → Value}
theorem z9h (x:κ): ∀l:List (κ×Value),((kidx l x).bind fun k=>(l[k]?).map fun p=>(k,p.2)).map (·.2)=y00 l x
 |[]=>rfl
 |p::r=>by
  by_cases h:p.1=x
  ·simp [kidx,List.findIdx?_cons,h,y00]
  ·have:=z9h x r;simp only [kidx,y00,List.find?_cons,List.findIdx?_cons,h,decide_false,if_false,Bool.false_eq_true] at this ⊢;rw [←this]
   cases hq:r.findIdx? (fun p=>decide (p.1=x)) with
   |none=>simp
   |some k=>simp [Function.comp_def]
theorem y04 (ht:P.underlying t=some (.map kt et)) (hk:Keys P kt kv) (z:Value) (hz:(zeroValue et).run P w= .ok z w) (hb:w.heap[b]?=some (mobj (y0s kv l))) (x:κ) (ok:Bool):
  (Instr.lookup t (.map (some b)) (kv x) ok).run P w= .ok (if ok then .tuple #[(y00 l x).getD z,.bool (y00 l x).isSome] else (y00 l x).getD z) w:=by
 have hf:=hk.find w x l;have hi:=z9h x l;unfold Instr.lookup;simp only [Sem.run_bind,run_underlying ht w,Result.andThen_ok,z2r hb,Sem.run_pure,hk.check,hf]
 cases hq:((kidx l x).bind fun k=>(l[k]?).map fun p=>(k,p.2)) with
 |none=>
  rw [hq] at hi;have hi:y00 l x=none:=hi.symm;simp [hi,hz,Sem.run_bind]
 |some p=>
  rw [hq] at hi;have hi:y00 l x=some p.2:=hi.symm;simp [hi,Sem.run_bind]
theorem x37 (x:κ) (v:Value): ∀(l:List (κ×Value)),match kidx l x with
  |none=>kput l x v=l++[(x,v)]
  |some k=>k<l.length∧kput l x v=l.set k (x,v)∧(l[k]?).map (·.1)=some x
 |[]=>rfl
 |p::r=>by
  by_cases h:p.1=x
  ·simp [kidx,List.findIdx?_cons,h,kput]
  ·have ih:=x37 x v r;simp only [kidx,List.findIdx?_cons,h,decide_false,Bool.false_eq_true,if_false,kput] at ih ⊢
   cases hq:r.findIdx? (fun p=>decide (p.1=x)) with
   |none=>rw [hq] at ih;simp only [Option.map_none] at ih ⊢;simp [ih]
   |some k=>rw [hq] at ih;simp only [Option.map_some] at ih ⊢;exact ⟨by simpa using ih.1,by rw [ih.2.1];rfl,by simpa using ih.2.2⟩
omit [DecidableEq κ] in
theorem x6s (l:List (κ×Value)) (k:Nat) (hk:k<l.length) (p:κ×Value):y20 (y0s kv (l.set k p))=(y20 (y0s kv l)).modify k fun e=>{e with key:=kv p.1,val:=p.2}:=by
 apply Qby;intro j;simp only [y20,y0s,Qbz,List.getElem?_zipIdx,List.getElem?_modify,List.getElem?_set,List.map_set];by_cases hj:k=j
 ·subst hj;simp [hk]
 ·simp [hj]
theorem z9i (ht:P.underlying t=some (.map kt et)) (hk:Keys P kt kv) (hb:w.heap[b]?=some (mobj (y0s kv l))) (x:κ) (v:Value):
  (Instr.mapUpdate t (.map (some b)) (kv x) v).run P w= .ok () {w with heap:=w.heap.setIfInBounds b (mobj (y0s kv (kput l x v)))}:=by
 have hf:=hk.find w x l;have hi:=x37 x v l;have hs: ∀o',(setObj b o').run P w= .ok () {w with heap:=w.heap.setIfInBounds b o'}:=fun o'=>z5x hb (fun c e f h=>by cases h);unfold Instr.mapUpdate;simp only [Sem.run_bind,run_underlying ht w,Result.andThen_ok,z2r hb,hk.check,hf]
 cases hq:kidx l x with
 |none=>
  rw [hq] at hi;simp only [Option.bind_none];rw [hs,hi];simp [mobj,y0s,y20,List.zipIdx_append]
 |some k=>
  rw [hq] at hi;obtain ⟨hkl,hsp,hkx⟩:=hi;obtain ⟨p,hp⟩: ∃p,l[k]?=some p:=⟨_,Qad hkl⟩
  have hpx:p.1=x:=by simpa [hp] using hkx
  have hes:((y20 (y0s kv l)).toArray[k]?).map (·.key)=some (kv x):=by simp [y20,y0s,hp,hpx]
  have hst:(Instr.keyThatStays (kv x) (kv x)).run P w= .ok (kv x) w:=by
   unfold Instr.keyThatStays;rw [if_pos (hk.stays x)];rfl
  simp only [Option.bind_some,hp,Option.map_some,Sem.run_bind,hes,Option.getD_some,hst,Result.andThen_ok,hs];rw [hsp];have:=x6s (kv:=kv) l k hkl (x,v)
  have hob:Obj.map ((y20 (y0s kv l)).toArray.modify k fun e=>{e with key:=kv x,val:=v}) l.length=mobj (y0s kv (l.set k (x,v))):=by
   unfold mobj;rw [this];simp [y0s]
  rw [←hob];simp [y0s]
end
theorem x99 {l:List (κ×Value)} {x:κ} {v:Value} (h:y00 l x=some v):(x,v)∈l:=by
 unfold y00 at h
 cases hq:l.find? (fun p=>decide (p.1=x)) with
 |none=>rw [hq] at h;cases h
 |some p=>
  rw [hq] at h;injection h with h;have h1:=List.find?_some hq;have h2:=List.mem_of_find?_eq_some hq;have h1:p.1=x:=Qa6 h1;obtain ⟨a,c⟩:=p;simp only at h1 h;subst h1 h;exact h2
theorem z5y {l:List (κ×Value)} {x:κ} (h:y00 l x=none): ∀p∈l,p.1≠x:=by
 intro p hp he;unfold y00 at h
 cases hq:l.find? (fun p=>decide (p.1=x)) with
 |none=>rw [List.find?_eq_none] at hq;exact hq p hp (Qa5 he)
 |some p=>rw [hq] at h;cases h
end
abbrev ks (x:Txt):Value:=.string (str x)
abbrev kp (p:Txt×Txt):Value:=.agg #[.string (str p.1),.string (str p.2)]
section
variable {P : Program}
theorem y1i {kt:TypeId} (hk:P.underlying kt=some .string):Keys P kt ks:=by
 refine ⟨fun w x l=>?_,fun w e x=>y8p hk e x,fun x=>by simp [Instr.sameBits,y5e]⟩;have h:=z0o (P:=P) (w:=w) (l:=l) hk x
 have e1:(fun p:Txt×Value=>p.1==x)=fun p=>decide (p.1=x):=by funext p;rw [Bool.eq_iff_iff];simp
 rw [e1] at h;exact h
theorem y6g (a b:Txt):((str a).toList==(str b).toList)=decide (a=b):=by
 rw [←beq_toListBytes,y5e]
theorem z9j {d:TypeDesc} {k:Value} {e:MapEntry} {r:List MapEntry} {i:Nat} (h:Instr.sameNow d k e.key=none):Instr.findNow d k (e::r) i=none:=by
 unfold Instr.findNow;simp only [h]
structure PairT (P:Program) (kt st:TypeId):Prop where
 ht:P.underlying kt=some (.struct (P.fieldsOf kt))
 held:P.stoodInHeld kt=false
 flds:(P.fieldsOf kt).toList.map (fun f=>(f.type,f.offset,f.name== "_"))=[(st,0,false),(st,1,false)]
 hs:P.underlying st=some .string
theorem q8i {kt st:TypeId} (h:PairT P kt st) (w:World) (x y:Txt×Txt):(Op.equal kt (kp x) (kp y)).run P w= .ok (decide (x=y)) w:=by
 obtain ⟨f,g,hfg⟩: ∃f g,(P.fieldsOf kt).toList=[f,g]:=by
  have:=congrArg List.length h.flds;simp only [Qay,List.length_cons,List.length_nil] at this
  match hq:(P.fieldsOf kt).toList,this with
  |[f,g],_=>exact ⟨f,g,rfl⟩
 have hf:=h.flds;rw [hfg] at hf;simp only [List.map_cons,List.map_nil,List.cons.injEq,Prod.mk.injEq,Qa3,ne_eq,and_true] at hf;obtain ⟨⟨f1,f2,f3⟩,⟨g1,g2,g3⟩⟩:=hf
 have hpart: ∀(cs:Array Value) (j:Nat) (v:Value),cs[j]?=some v→(part st cs j).run P w= .ok v w:=by
  intro cs j v hv;unfold part
  have:(isAgg st).run P w= .ok false w:=by
   unfold isAgg;simp [Sem.run_bind,run_underlying h.hs,Result.andThen_ok]
  simp only [Sem.run_bind,this,Result.andThen_ok,Bool.false_eq_true,if_false,hv,Sem.run_pure]
 unfold Op.equal
 show (Op.equalIn (9999+1) kt (kp x) (kp y)).run P w=_
 rw [run_equalIn_struct w 9999 kt _ _ h.ht h.held,hfg];have p0: ∀a b:Value,(part st #[a,b] 0).run P w= .ok a w:=fun a b=>hpart _ 0 _ rfl;have p1: ∀a b:Value,(part st #[a,b] 1).run P w= .ok b w:=fun a b=>hpart _ 1 _ rfl;simp only [Op.eqFields,f1,f2,f3,g1,g2,g3,ne_eq,not_false_eq_true,if_true,Sem.run_bind,p0,p1,Result.andThen_ok,run_equalIn_string w 9998 st _ _ h.hs,y6g];obtain ⟨a,c⟩:=x;obtain ⟨a',c'⟩:=y;by_cases h1:a=a'
 ·by_cases h2:c=c'
  ·simp [h1,h2,Sem.run_pure,Sem.run_bind,p1,run_equalIn_string w 9998 st _ _ h.hs,y6g]
  ·simp [h1,h2,Sem.run_pure,Sem.run_bind,p1,run_equalIn_string w 9998 st _ _ h.hs,y6g]
 ·simp [h1,Sem.run_pure]
theorem q0a {kt st:TypeId} (h:PairT P kt st):Keys P kt kp:=by
 have hask: ∀(w:World) (x:Txt×Txt) (l:List ((Txt×Txt)×Value)) (j i:Nat),(Instr.findAsking kt (kp x) (((y0s kp l).zipIdx j).map fun p=>({key:=p.1.1,val:=p.1.2,born:=p.2}:MapEntry)) i).run P w= .ok ((kidx l x).bind fun k=>(l[k]?).map fun p=>(i+k,p.2)) w:=by
  intro w x l
  induction l with
  |nil=>intro j i;rfl
  |cons p r ih=>
   intro j i;simp only [y0s,List.map_cons,List.zipIdx_cons,Instr.findAsking,Sem.run_bind,q8i h,Result.andThen_ok];by_cases hx:p.1=x
   ·simp [kidx,List.findIdx?_cons,hx,Sem.run_pure]
   ·have hx': ¬x=p.1:=fun e=>hx e.symm;have:=ih (j+1) (i+1);simp only [y0s] at this;simp only [hx',decide_false,Bool.false_eq_true,if_false,this,kidx,List.findIdx?_cons,hx]
    cases hq:r.findIdx? (fun p=>decide (p.1=x)) with
    |none=>simp
    |some k=>simp [Nat.add_comm,Nat.add_left_comm,Nat.add_assoc]
 refine ⟨fun w x l=>?_,fun w e x=>?_,fun x=>by simp [Instr.sameBits,kp,y5e]⟩
 ·have ha:=hask w x l 0 0;unfold Instr.findKey y20;rw [Sem.run_bind,run_underlying h.ht w];simp only [Result.andThen_ok]
  cases l with
  |nil=>rfl
  |cons p r=>
   have hn:Instr.findNow (.struct (P.fieldsOf kt)) (kp x) (((y0s kp (p::r)).zipIdx 0).map fun p=>({key:=p.1.1,val:=p.1.2,born:=p.2}:MapEntry)) 0=none:=by
    simp only [y0s,List.map_cons,List.zipIdx_cons];exact z9j rfl
   simp only [Nat.zero_add] at ha;rw [hn];exact ha
 ·obtain ⟨f,g,hfg⟩: ∃f g,(P.fieldsOf kt).toList=[f,g]:=by
   have:=congrArg List.length h.flds;simp only [Qay,List.length_cons,List.length_nil] at this
   match hq:(P.fieldsOf kt).toList,this with
   |[f,g],_=>exact ⟨f,g,rfl⟩
  have hf:=h.flds;rw [hfg] at hf;simp only [List.map_cons,List.map_nil,List.cons.injEq,Prod.mk.injEq,Qa3,ne_eq,and_true] at hf;obtain ⟨⟨f1,f2,f3⟩,⟨g1,g2,g3⟩⟩:=hf
  have hpart: ∀(cs:Array Value) (j:Nat) (v:Value),cs[j]?=some v→(part st cs j).run P w= .ok v w:=by
   intro cs j v hv;unfold part
   have:(isAgg st).run P w= .ok false w:=by
    unfold isAgg;simp [Sem.run_bind,run_underlying h.hs,Result.andThen_ok]
   simp only [Sem.run_bind,this,Result.andThen_ok,Bool.false_eq_true,if_false,hv,Sem.run_pure]
  have hck: ∀(n:Nat) (v:ByteArray),(Instr.checkKey e (n+1) st (.string v)).run P w= .ok () w:=by
   intro n v;unfold Instr.checkKey;rw [Sem.run_bind,run_underlying h.hs w];rfl
  show (Instr.checkKey e (9999+1) kt (kp x)).run P w=_
  unfold Instr.checkKey;rw [Sem.run_bind,run_underlying h.ht w];simp only [Result.andThen_ok,kp];rw [←Array.forIn_toList,hfg];have p0: ∀a b:Value,(part st #[a,b] 0).run P w= .ok a w:=fun a b=>hpart _ 0 _ rfl;have p1: ∀a b:Value,(part st #[a,b] 1).run P w= .ok b w:=fun a b=>hpart _ 1 _ rfl;simp [f1,f2,f3,g1,g2,g3,Sem.run_bind,p0,p1,hck 9998,Sem.run_pure]
end
theorem q8j:PairT Tryz.prog 125 9:=⟨by kernel_rfl,by kernel_rfl,by kernel_rfl,Tryz.underlying9⟩
def Kb (K:World) (g:Nat) (cs:List Value) (t:TypeId):Prop:=K.heap[g]?=some (.cells cs.toArray t (0,0))
def Km (K:World) (b:Nat) (l:List (Value×Value)):Prop:=K.heap[b]?=some (mobj l)
section
variable {P : Program} {w0 w K K' : World} {M : List Ent} {ops : Array Oper} {rest : List Oper} {o : Oper} {a : Act} {Q : Exit → Act → World → Prop} {i b t kt et : Nat}
theorem Kb.sat {g:Nat} {cs:List Value} {t:TypeId} (h:Kb K g cs t) (hs:Sat w K):Kb w g cs t:=hs.blk _ _ h x3u
theorem Km.sat {l:List (Value×Value)} (h:Km K b l) (hs:Sat w K):Km w b l:=hs.blk _ _ h (fun e=>by cases e)
theorem Kb.cell {g j:Nat} {cs:List Value} {t:TypeId} {v:Value} (h:Kb w g cs t) (hj:cs[j]?=some v):w.cell? ⟨g,j,none⟩=some v:=by
 have h:w.heap[g]?=some (.cells cs.toArray t (0,0)):=h;unfold World.cell?;simp only [h,Option.isSome_none,Bool.false_eq_true,if_false];simpa using hj
theorem Hp.kcell (H:Hp w0 w K M) {g j:Nat} {cs:List Value} {t:TypeId} {v:Value} (h:Kb K g cs t) (hj:cs[j]?=some v):w.cell? ⟨g,j,none⟩=some v:=(h.sat H.sat).cell hj
theorem Hp.kmap (H:Hp w0 w K M) {l:List (Value×Value)} (h:Km K b l):w.heap[b]?=some (mobj l):=h.sat H.sat
theorem Hp.freezeKb {g:Nat} {cs:List Value} {t:TypeId} (H:Hp w0 w K (.box g cs t::M)): ∃K',Sat K' K∧Hp w0 w K' M∧Kb K' g cs t:=by
 obtain ⟨K',h1,h2,h3,h4⟩:=H.freeze;exact ⟨K',h1,h2,(h3 g rfl).trans (H.blkAt (i:=0) rfl)⟩
theorem Hp.freezeKm {l:List (Value×Value)} (H:Hp w0 w K (.map b l::M)): ∃K',Sat K' K∧Hp w0 w K' M∧Km K' b l:=by
 obtain ⟨K',h1,h2,h3,h4⟩:=H.freeze;exact ⟨K',h1,h2,(h3 b rfl).trans (H.mapAt (i:=0) rfl)⟩
section
variable {κ : Type} [DecidableEq κ] {kv : κ → Value}
theorem y1p (hgd:o.guard=none) (m x:Operand) (t:TypeId) (c:Bool) (ho:o.op= .lookup t m x c) (ht:P.underlying t=some (.map kt et)) (hk:Keys P kt kv) (z:Value) (hz: ∀w,(zeroValue et).run P w= .ok z w)
  (b:Nat) (l:List (κ×Value)) (hb:w.heap[b]?=some (mobj (y0s kv l))) (hm:a.eval m= .map (some b)) (k:κ) (hx:a.eval x=kv k) (r:Value) (hr:(if c then .tuple #[(y00 l k).getD z,.bool (y00 l k).isSome] else (y00 l k).getD z)=r)
  (h:wpList P ops Q rest (a.put o.dst r) w):wpList P ops Q (o::rest) a w:=by
 refine wpList_plain hgd fun _ hK=>?_;have hrun:=y04 (w:=w) ht hk z (hz w) hb k c;rw [hr] at hrun;unfold Oper.wp execOp;simp only [ho,hm,hx,Sem.run_bind,hrun,Result.andThen_ok,Sem.run_pure];exact hK _ _ h
theorem y8q (hgd:o.guard=none) (m x y:Operand) (t:TypeId) (ho:o.op= .mapUpdate t m x y) (ht:P.underlying t=some (.map kt et)) (hk:Keys P kt kv)
  (H:Hp w0 w K M) (i:Nat) (b:Nat) (l:List (κ×Value)) (hi:M[i]?=some (.map b (y0s kv l))) (hm:a.eval m= .map (some b)) (k:κ) (hx:a.eval x=kv k) (v:Value) (hy:a.eval y=v) (l':List (κ×Value)) (hl:kput l k v=l')
  (h: ∀w',Hp w0 w' K (M.set i (.map b (y0s kv l')))→wpList P ops Q rest (a.put o.dst undef) w'):wpList P ops Q (o::rest) a w:=by
 refine wpList_plain hgd fun _ hK=>?_;have hrun:=z9i (w:=w) ht hk (H.mapAt hi) k v;rw [hl] at hrun;unfold Oper.wp execOp;simp only [ho,hm,hx,hy,Sem.run_bind,hrun,Result.andThen_ok,Sem.run_pure];exact hK _ _ (h _ (H.mapSet hi _))
end
theorem y38 (hgd:o.guard=none) (t:TypeId) (ho:o.op= .makeMap t none) (dst:Option Tmp) (hdst:o.dst=dst) (H:Hp w0 w K M)
  (h: ∀w' b,Hp w0 w' K (.map b []::M)→wpList P ops Q rest (a.put dst (.map (some b))) w'):wpList P ops Q (o::rest) a w:=by
 subst hdst;refine wpList_plain hgd fun _ hK=>?_
 have hrun:(Instr.makeMap t none).run P w= .ok (.map (some w.heap.size)) (w.alloc (.map #[] 0)):=by
  simp [Instr.makeMap,newObj];rfl
 unfold Oper.wp execOp;simp only [ho,Sem.run_bind,hrun,Result.andThen_ok,Sem.run_pure];exact hK _ _ (h _ _ H.allocMap)
end
end Go.Proofs.YtbpgkkoeehopjaaGreat.hp
namespace Go.Proofs.YtbpgkkoeehopjaaGreat.hp
open Go.RowKit
theorem z43:((Tryz.prog.info? 43).bind (·.zero)).map (·.cells)=some #[.int .i64 0,.bool false,.bool false,.bool false,.string ⟨#[]⟩,.string ⟨#[]⟩,.slice none 0 0,.slice none 0 0,.slice none 0 0,.slice none 0 0,.slice none 0 0,.slice none 0 0,.slice none 0 0,.bool false,.slice none 0 0,.int .i64 0,.int .i64 0]:=by kernel_rfl
theorem z50:((Tryz.prog.info? 50).bind (·.zero)).map (·.cells)=some #[.string ⟨#[]⟩,.string ⟨#[]⟩]:=by kernel_rfl
theorem z52:((Tryz.prog.info? 52).bind (·.zero)).map (·.cells)=some #[.bool false,.bool false,.string ⟨#[]⟩,.string ⟨#[]⟩,.slice none 0 0,.string ⟨#[]⟩,.string ⟨#[]⟩,.slice none 0 0,.int .i64 0,.int .i64 0]:=by kernel_rfl
theorem z100:((Tryz.prog.info? 100).bind (·.zero)).map (·.cells)=some #[.int .i64 0,.string ⟨#[]⟩,.int .i64 0,.int .i64 0]:=by kernel_rfl
theorem z113:((Tryz.prog.info? 113).bind (·.zero)).map (·.cells)=some #[.string ⟨#[]⟩,.int .i64 0,.int .i64 0]:=by kernel_rfl
theorem z121:((Tryz.prog.info? 121).bind (·.zero)).map (·.cells)=some #[.int .i64 0,.string ⟨#[]⟩,.bool false,.slice none 0 0,.slice none 0 0,.int .i64 0,.int .i64 0]:=by kernel_rfl
theorem z123:((Tryz.prog.info? 123).bind (·.zero)).map (·.cells)=some #[.bool false,.bool false,.string ⟨#[]⟩,.string ⟨#[]⟩,.string ⟨#[]⟩,.string ⟨#[]⟩,.bool false,.int .i64 0,.string ⟨#[]⟩,.bool false,.slice none 0 0,.slice none 0 0,.int .i64 0,.int .i64 0,.slice none 0 0,.int .i64 0,.int .i64 0]:=by kernel_rfl
theorem e22:SlI Tryz.prog 22 43 17 272:=sli Tryz.underlying22 (z:=.agg #[.int .i64 0,.bool false,.bool false,.bool false,.string ⟨#[]⟩,.string ⟨#[]⟩,.slice none 0 0,.slice none 0 0,.slice none 0 0,.slice none 0 0,.slice none 0 0,.slice none 0 0,.slice none 0 0,.bool false,.slice none 0 0,.int .i64 0,.int .i64 0]) (by kernel_rfl)
theorem e27:SlI Tryz.prog 27 9 1 16:=sli Tryz.underlying27 (z:=.string ⟨#[]⟩) (by kernel_rfl)
theorem e34:SlI Tryz.prog 34 113 3 32:=sli Tryz.underlying34 (z:=.agg #[.string ⟨#[]⟩,.int .i64 0,.int .i64 0]) (by kernel_rfl)
theorem e35:SlI Tryz.prog 35 181 4 56:=sli Tryz.underlying35 (z:=.agg #[.string ⟨#[]⟩,.slice none 0 0,.int .i64 0,.int .i64 0]) (by kernel_rfl)
theorem e36:SlI Tryz.prog 36 52 10 136:=sli Tryz.underlying36 (z:=.agg #[.bool false,.bool false,.string ⟨#[]⟩,.string ⟨#[]⟩,.slice none 0 0,.string ⟨#[]⟩,.string ⟨#[]⟩,.slice none 0 0,.int .i64 0,.int .i64 0]) (by kernel_rfl)
theorem e37:SlI Tryz.prog 37 123 17 216:=sli Tryz.underlying37 (z:=.agg #[.bool false,.bool false,.string ⟨#[]⟩,.string ⟨#[]⟩,.string ⟨#[]⟩,.string ⟨#[]⟩,.bool false,.int .i64 0,.string ⟨#[]⟩,.bool false,.slice none 0 0,.slice none 0 0,.int .i64 0,.int .i64 0,.slice none 0 0,.int .i64 0,.int .i64 0]) (by kernel_rfl)
theorem e38:SlI Tryz.prog 38 133 7 80:=sli Tryz.underlying38 (z:=.agg #[.bool false,.bool false,.string ⟨#[]⟩,.string ⟨#[]⟩,.slice none 0 0,.int .i64 0,.int .i64 0]) (by kernel_rfl)
theorem e39:SlI Tryz.prog 39 100 4 40:=sli Tryz.underlying39 (z:=.agg #[.int .i64 0,.string ⟨#[]⟩,.int .i64 0,.int .i64 0]) (by kernel_rfl)
theorem tk {P:Program} {ops:Array Oper} {Q:Exit→Act→World→Prop} {md:Region.Mode} {S:World→Prop} {F:List Nat} (i:Nat) {oi:Oper} {v:Value} {fuel:Nat} {listed:Array Bool} {a a':Act} {w:World} (hS:S w) (h:held.AnyL P md ops Q S F fuel (listed.setIfInBounds i true) a' w) (hi:ops[i]?=some oi:=by (simp only [List.getElem?_toArray,List.getElem?_cons_zero,List.getElem?_cons_succ];try rfl))
  (hd: ∀w,S w→(execOp a.eval oi).run P w= .ok (.value v) w:=by (intro w hSw;(try dsimp only at hSw);go_simp;try with_reducible rfl))
  (ha:a.put oi.dst v=a':=by (simp only [Act.put,List.getElem_toArray,List.getElem_cons_zero,List.getElem_cons_succ,List.setIfInBounds_toArray,List.set_cons_zero,List.set_cons_succ];try rfl))
  (hw:Region.wanted oi (yielded ops a.tmps)=true:=by rfl) (hs:Region.noSelect ops=true:=by kernel_rfl) (hf:Region.free md ops listed i=true:=by kernel_rfl) (hr:(Region.ready md ops listed).contains i=true:=by kernel_rfl) (hF:held.waits md ops F i=true:=by kernel_rfl) (hc:held.closed md ops listed=true:=by kernel_rfl)
  (hQ: ∀c a w,Q (.panic c) (a.put oi.dst v) w→Q (.panic c) a w:=by exact fun _ _ _ h=>h):held.AnyL P md ops Q S F (fuel+1) listed a w:=
 held.take hi hs hf hr hF hc hQ (.inl ⟨hw,hd⟩) hS (ha▸h)
open words enc tree gram lex rd dec dat held
set_option maxRecDepth 100000
attribute [local go_sem ↓] Go.wp_at_zero Go.wp_at_succ
theorem x1v {K:World} {l:List Txt} {x:Txt} {vs:List Value} (h:RL K (y03 l) vs):RL K (y03 (l++[x])) (vs++[.string (str x)]):=by
 unfold y03 at h ⊢;rw [Qas];exact h.app (.lit (.nil (Qab _)))
set_option maxHeartbeats 40000000
theorem y7l (s t:ByteArray) (w0 w K:World) (M:List Ent) (H:Hp w0 w K M):
  Calls Tryz.prog 104 #[.string s,.string t] w fun e w'=>e= .returned (.agg #[.string s,.string t])∧Hp w0 w' K M:=by
 go_enter Tryz.func104,Tryz.ntmps104
 go_wp2_with (first|(refine oL H ?_)|(refine oP H ?_;clear H;intro w _ H))
 refine oB H ?_;exact ⟨rfl,H.fin⟩
theorem q42 (s t u:ByteArray) (w0 w K:World) (M:List Ent) (H:Hp w0 w K M):
  Calls Tryz.prog 101 #[.string s,.string t,.string u] w fun e w'=>e= .returned (.agg #[.bool false,.bool false,.string ⟨#[]⟩,.string s,.slice none 0 0,.string t,.string u,.slice none 0 0,.int .i64 0,.int .i64 0])∧Hp w0 w' K M:=by
 go_enter Tryz.func101,Tryz.ntmps101
 go_wp2_with (first|(refine oL H ?_)|(refine oP H ?_;clear H;intro w _ H)|((with_reducible refine (y7l t u _ _ _ _ H).mono ?_);clear H;rintro e w ⟨rfl,H⟩))
 refine oB H ?_;exact ⟨rfl,H.fin⟩
theorem q0b (s:ByteArray) (A:Option Addr) (n c:Nat) (w0 w K:World) (M:List Ent) (H:Hp w0 w K M):
  Calls Tryz.prog 100 #[.string s,.slice A n c] w fun e w'=>e= .returned (.agg #[.int .i64 3,.bool false,.bool false,.bool false,.string ⟨#[]⟩,.string s,.slice none 0 0,.slice none 0 0,.slice A n c,.slice none 0 0,.slice none 0 0,.slice none 0 0,.slice none 0 0,.bool false,.slice none 0 0,.int .i64 0,.int .i64 0])∧Hp w0 w' K M:=by
 go_enter Tryz.func100,Tryz.ntmps100
 go_wp2_with (first|(refine oL H ?_)|(refine oP H ?_;clear H;intro w _ H))
 refine oB H ?_;exact ⟨rfl,H.fin⟩
def falseT:Txt:=[102,97,108,115,101]
def x38:Txt:=[66,111,111,108,101,97,110]
def incT:Txt:=[105,110,99,108,117,100,101,68,101,112,114,101,99,97,116,101,100]
def incD:InputD:=⟨y7n,incT,(x38,[]),true,.mk 5 falseT false [] [] 0 0,[],0,0⟩
def AllP (s t:ByteArray) (w0 K:World) (M:List Ent) (e:Ending) (w':World):Prop:=
 ∃K' A,e= .returned (.agg #[.bool false,.bool false,.string ⟨#[]⟩,.string s,.slice (some A) 1 1,.string t,.string ⟨#[33,93]⟩,.slice none 0 0,.int .i64 0,.int .i64 0])∧Sat K' K∧Hp w0 w' K' M∧RD K' (.list 1 (y0o [incD])) (.slice (some A) 1 1)
theorem RL.z {K:World}:RL K [] []:=.nil (Qab _)
theorem RD.z {K:World}:RD K (.list 0 []) (.slice Option.none 0 0):=.nil (Qab _)
theorem q69 (s t:ByteArray) (w0 w K:World) (M:List Ent) (H:Hp w0 w K M):
  Calls Tryz.prog 102 #[.string s,.string t] w (AllP s t w0 K M):=by
 go_enter Tryz.func102,Tryz.ntmps102
 go_upto_region 2 with (first|(refine oL H ?_)|(refine oA 4 H ?_;clear H;intro w g4 H)|(refine oA 5 H ?_;clear H;intro w g5 H)|(refine oP H ?_;clear H;intro w _ H))
 refine rB [4] H ?_;clear H;intro w H;refine rT 1 H ?_;refine r2 0 3 ?_ ?_
 ·refine aC (y7l ⟨#[66,111,111,108,101,97,110]⟩ ⟨#[]⟩ _ _ _ _ H) ?_;clear H;rintro e w ⟨rfl,H⟩;refine rX H ?_;refine rT 2 H ?_;refine rW 3 H ?_;clear H;intro w g6 H;refine rL 4 H ?_;clear H;intro w _ H;refine rE ?_
  go_wp2_with fail
  refine rB [6] H ?_;clear H;intro w H;refine rT 0 H ?_;refine rT 1 H ?_;refine rT 3 H ?_;refine r2 2 4 ?_ ?_
  ·refine aW H ?_;clear H;intro w gs H;refine rC 4 (y7l t ⟨#[33,93]⟩ _ _ _ _ H) ?_;clear H;rintro e w ⟨rfl,H⟩;refine rX H ?_;refine rT 5 H ?_;refine rL 6 H ?_;clear H;intro w _ H;refine rE ?_
   go_wp2_with fail
   refine oB H ?_;replace H:Hp _ _ _ (.box gs _ _::M):=H.fin;obtain ⟨K1,h1,H,hd⟩:=H.freezeBox (n:=1) (ls:=y0o [incD]) (by unfold incD;exact .lit (.lit (.lit (.lit (.lit (.lit (.lit (.lit (.lit (.lit (.cons RD.z (.cons RD.z (.lit (.lit (.cons RD.z (.lit (.lit RL.z))))))))))))))))) (by simp [maxLen]);exact ⟨K1,_,rfl,h1,H,hd⟩
  ·refine aC (y7l t ⟨#[33,93]⟩ _ _ _ _ H) ?_;clear H;rintro e w ⟨rfl,H⟩;refine rX H ?_;refine rW 2 H ?_;clear H;intro w gs H;refine rT 5 H ?_;refine rL 6 H ?_;clear H;intro w _ H;refine rE ?_
   go_wp2_with fail
   refine oB H ?_;replace H:Hp _ _ _ (.box gs _ _::M):=H.fin;obtain ⟨K1,h1,H,hd⟩:=H.freezeBox (n:=1) (ls:=y0o [incD]) (by unfold incD;exact .lit (.lit (.lit (.lit (.lit (.lit (.lit (.lit (.lit (.lit (.cons RD.z (.cons RD.z (.lit (.lit (.cons RD.z (.lit (.lit RL.z))))))))))))))))) (by simp [maxLen]);exact ⟨K1,_,rfl,h1,H,hd⟩
 ·refine aW H ?_;clear H;intro w g6 H;refine rC 0 (y7l ⟨#[66,111,111,108,101,97,110]⟩ ⟨#[]⟩ _ _ _ _ H) ?_;clear H;rintro e w ⟨rfl,H⟩;refine rX H ?_;refine rT 2 H ?_;refine rL 4 H ?_;clear H;intro w _ H;refine rE ?_
  go_wp2_with fail
  refine rB [6] H ?_;clear H;intro w H;refine rT 0 H ?_;refine rT 1 H ?_;refine rT 3 H ?_;refine r2 2 4 ?_ ?_
  ·refine aW H ?_;clear H;intro w gs H;refine rC 4 (y7l t ⟨#[33,93]⟩ _ _ _ _ H) ?_;clear H;rintro e w ⟨rfl,H⟩;refine rX H ?_;refine rT 5 H ?_;refine rL 6 H ?_;clear H;intro w _ H;refine rE ?_
   go_wp2_with fail
   refine oB H ?_;replace H:Hp _ _ _ (.box gs _ _::M):=H.fin;obtain ⟨K1,h1,H,hd⟩:=H.freezeBox (n:=1) (ls:=y0o [incD]) (by unfold incD;exact .lit (.lit (.lit (.lit (.lit (.lit (.lit (.lit (.lit (.lit (.cons RD.z (.cons RD.z (.lit (.lit (.cons RD.z (.lit (.lit RL.z))))))))))))))))) (by simp [maxLen]);exact ⟨K1,_,rfl,h1,H,hd⟩
  ·refine aC (y7l t ⟨#[33,93]⟩ _ _ _ _ H) ?_;clear H;rintro e w ⟨rfl,H⟩;refine rX H ?_;refine rW 2 H ?_;clear H;intro w gs H;refine rT 5 H ?_;refine rL 6 H ?_;clear H;intro w _ H;refine rE ?_
   go_wp2_with fail
   refine oB H ?_;replace H:Hp _ _ _ (.box gs _ _::M):=H.fin;obtain ⟨K1,h1,H,hd⟩:=H.freezeBox (n:=1) (ls:=y0o [incD]) (by unfold incD;exact .lit (.lit (.lit (.lit (.lit (.lit (.lit (.lit (.lit (.lit (.cons RD.z (.cons RD.z (.lit (.lit (.cons RD.z (.lit (.lit RL.z))))))))))))))))) (by simp [maxLen]);exact ⟨K1,_,rfl,h1,H,hd⟩
end Go.Proofs.YtbpgkkoeehopjaaGreat.hp
namespace Go.Proofs.YtbpgkkoeehopjaaGreat.hp
open Go.RowKit words enc tree gram lex rd dec dat held
section
variable {P : Program} {w0 w w' K K' : World} {M : List Ent} {ops : Array Oper} {rest : List Oper} {o : Oper} {a : Act} {Q : Exit → Act → World → Prop} {i : Nat}
theorem y3i (g j:Nat):(⟨g,0,none⟩:Addr).add j=⟨g,j,none⟩:=by unfold Addr.add;split<;>simp_all
theorem Hp.rowAt (H:Hp w0 w K M) {e:TypeId} {m n:Nat} {v:Value} {vs:List Value} (hi:M[i]?=some (.row e m v n vs)) (hne:0<n):
  ∃g c,v= .slice (some ⟨g,0,none⟩) n c∧n≤c∧c≤maxLen∧vs.length=n*m:=by
 have ho:w.ownsRow 0 e m v n vs:=H.ok _ (Qaf hi);rcases ho.2 with ⟨_,h⟩|⟨g,c,cur,rfl,_,hb,h1,h2,h3,h4⟩
 ·omega
 ·exact ⟨g,c,rfl,h1,h2,ho.1⟩
theorem Hp.rowCell (H:Hp w0 w K M) {e:TypeId} {m n g c:Nat} {vs:List Value} (hi:M[i]?=some (.row e m (.slice (some ⟨g,0,none⟩) n c) n vs)) {j:Nat} {u:Value} (hu:vs[j]?=some u):w.cell? ⟨g,j,none⟩=some u:=by
 have ho:w.ownsRow 0 e m _ n vs:=H.ok _ (Qaf hi);have:=World.ownsRow.cells ho (g:=g) rfl j u hu;rwa [y3i] at this
theorem Hp.rowFrozen (H:Hp w0 w K M) {e:TypeId} {m n g c:Nat} {vs:List Value} (hi:M[i]?=some (.row e m (.slice (some ⟨g,0,none⟩) n c) n vs)) (j:Nat):w.frozen? ⟨g,j,none⟩=false:=by
 have ho:w.ownsRow 0 e m _ n vs:=H.ok _ (Qaf hi);rcases ho.2 with ⟨h,_⟩|⟨g',c',cur,he,_,hb,_⟩
 ·cases h
 ·injection he with e1 _ e3;injection e1 with e1;injection e1 with e1;subst e1;exact frozen_of_row w _ j _ _ hb
theorem q0c {vs us:List Value} {j:Nat} (hj:j+us.length≤vs.length):(vs.take j++us++vs.drop (j+us.length)).length=vs.length:=by
 simp only [Qae,Qau,Qav];omega
theorem Hp.rowSet (H:Hp w0 w K M) {e:TypeId} {m n g c:Nat} {vs us:List Value} (hi:M[i]?=some (.row e m (.slice (some ⟨g,0,none⟩) n c) n vs)) (j:Nat) (hj:j+us.length≤vs.length):
  Hp w0 (w.setCells g j us) K (M.set i (.row e m (.slice (some ⟨g,0,none⟩) n c) n (vs.take j++us++vs.drop (j+us.length)))):=by
 refine H.setAt hi y88 ?_ (.inl rfl);have ho:w.ownsRow 0 e m _ n vs:=H.ok _ (Qaf hi);refine ⟨(q0c hj).trans ho.1,?_⟩;rcases ho.2 with ⟨h,_⟩|⟨g',c',cur,he,hb0,hb,h1,h2,h3,h4⟩
 ·cases h
 ·injection he with e1 _ e3;injection e1 with e1;injection e1 with e1;subst e1 e3
  have hpost:cur.toList=vs++cur.toList.drop (n*m):=by rw [←h4,List.take_append_drop]
  generalize cur.toList.drop (n*m)=post at hpost
  have hvs:vs=vs.take j++(vs.drop j).take us.length++vs.drop (j+us.length):=by
   rw [Qat,←List.drop_drop,List.take_append_drop,List.take_append_drop]
  have hcur:cur=(vs.take j++(vs.drop j).take us.length++(vs.drop (j+us.length)++post)).toArray:=by
   apply Qal.1;rw [hpost]
   show vs++post=vs.take j++(vs.drop j).take us.length++(vs.drop (j+us.length)++post)
   rw [←Qat,←hvs]
  rw [hcur] at hb;have h5:=x1n (us:=us) (i:=j) hb (by simp;omega) (by simp;omega);have hl:(vs.take j++us++vs.drop (j+us.length)).length=n*m:=(q0c hj).trans ho.1;refine .inr ⟨g,c,_,rfl,hb0,by rw [y61];exact h5,h1,h2,?_,?_⟩
  ·have:=congrArg List.length hpost;simp only [Array.length_toList,Qae] at this
   have hl2:(vs.take j++us++(vs.drop (j+us.length)++post)).length=n*m+post.length:=by rw [←Qat,Qae,hl]
   simp only [List.size_toArray,hl2];rw [ho.1] at this;omega
  ·show ((vs.take j++us++(vs.drop (j+us.length)++post))).take (n*m)=_
   rw [←Qat,List.take_append_of_le_length (by omega),Qaj (by omega)]
theorem z9k {Kc:Act→World→Prop} (ty:TypeId) (x y:Operand) (ho:o.op= .store ty x y) (g j:Nat) (hx:a.eval x= .pointer (some ⟨g,j,none⟩)) (v:Value) (hy:a.eval y=v) (us:List Value) (hv:v.cells=us.toArray)
  (hone: ∀u∈us,u.oneCell'=true) (hsz:(P.info? ty).map (·.size)=some us.length) (H:Hp w0 w K M) (i:Nat) (e:TypeId) (m n c:Nat) (vs vs':List Value) (hi:M[i]?=some (.row e m (.slice (some ⟨g,0,none⟩) n c) n vs)) (hj:j+us.length≤vs.length) (hn:vs.take j++us++vs.drop (j+us.length)=vs')
  (h: ∀w',Hp w0 w' K (M.set i (.row e m (.slice (some ⟨g,0,none⟩) n c) n vs'))→Kc (a.put o.dst undef) w'):Oper.wp P o a w Kc Q:=by
 have hrun:(storeVar ty ⟨g,j,none⟩ v).run P w= .ok () (w.setCells g j us):=by
  have:=run_storeCells_cells (P:=P) g j us 0 w (fun k hk=>by
    have hk':j+k<vs.length:=by omega
    rw [Nat.add_zero,H.rowCell hi (Qad hk')];rfl) (fun k hk=>H.rowFrozen hi _) hone
  cases hq:P.info? ty with
  |none=>simp [hq] at hsz
  |some ti=>
   have hs:us.length=ti.size:=by simp [hq] at hsz;omega
   simp only [Nat.add_zero] at this;simp [storeVar,sizeOf,typeInfo,hq,hv,hs,this]
 unfold Oper.wp execOp;simp only [ho,hx,hy,Instr.storeAt,Instr.sureAddr,Sem.run_bind,Sem.run_pure,Result.andThen_ok,hrun];have:=H.rowSet hi j hj;rw [hn] at this;exact h _ this
theorem z1j {E:Prop} {Kc:Act→World→Prop} (hgd:o.guard=none) (ty:TypeId) (x y:Operand) (ho:o.op= .store ty x y) (g j:Nat) (hx:a.eval x= .pointer (some ⟨g,j,none⟩)) (v:Value) (hy:a.eval y=v) (us:List Value) (hv:v.cells=us.toArray)
  (hone: ∀u∈us,u.oneCell'=true) (hsz:(P.info? ty).map (·.size)=some us.length) (H:Hp w0 w K M) (i:Nat) (e:TypeId) (m n c:Nat) (vs vs':List Value) (hi:M[i]?=some (.row e m (.slice (some ⟨g,0,none⟩) n c) n vs)) (hj:j+us.length≤vs.length) (hn:vs.take j++us++vs.drop (j+us.length)=vs')
  (h: ∀w',Hp w0 w' K (M.set i (.row e m (.slice (some ⟨g,0,none⟩) n c) n vs'))→Kc (a.put o.dst undef) w'):if Region.wanted o (yielded ops a.tmps)=true then Oper.wp P o a w Kc Q else E:=by
 have hw:Region.wanted o (yielded ops a.tmps)=true:=by simp [Region.wanted,hgd]
 rw [if_pos hw];exact z9k ty x y ho g j hx v hy us hv hone hsz H i e m n c vs vs' hi hj hn h
end
def y1a (TS:List (DefD×DV)):List Ent:=TS.flatMap fun p=>DV.rows p.1 p.2
def y02 (TS:List (DefD×DV)):List Value:=TS.flatMap fun p=>DV.cells p.1 p.2
def tok (K:World) (TS:List (DefD×DV)):Prop:=∀p∈TS,p.2.ok K p.1
section
variable {w0 w w' K K' : World} {M : List Ent}
theorem tok.sat {TS:List (DefD×DV)} (h:tok K TS) (hs:Sat K' K):tok K' TS:=fun p hp=>(h p hp).sat hs
theorem z1k: ∀(TS:List (DefD×DV)),(y02 TS).length=TS.length*17
 |[]=>rfl
 |p::r=>by
  have h:y02 (p::r)=DV.cells p.1 p.2++y02 r:=by simp [y02]
  have h2:(DV.cells p.1 p.2).length=17:=rfl;rw [h,Qae,z1k r,h2,List.length_cons];omega
theorem z1l (A B:List (DefD×DV)):y02 (A++B)=y02 A++y02 B:=by simp [y02]
theorem z9l (A B:List (DefD×DV)):y1a (A++B)=y1a A++y1a B:=by simp [y1a]
theorem Hp.freezeDef {d:DefD} {V:DV} (H:Hp w0 w K (DV.rows d V++M)) (hV:V.ok K d): ∃K',Sat K' K∧Hp w0 w K' M∧RL K' (defL d) (DV.cells d V):=by
 obtain ⟨K1,s1,H,f8⟩:=H.freezeRow hV.r8;replace hV:=hV.sat s1;obtain ⟨K2,s2,H,f11⟩:=H.freezeRow hV.r11;replace hV:=hV.sat s2;replace f8:=f8.sat s2;obtain ⟨K3,s3,H,f6⟩:=H.freezeRow hV.r6;replace hV:=hV.sat s3;replace f8:=f8.sat s3;replace f11:=f11.sat s3;obtain ⟨K4,s4,H,f10⟩:=H.freezeRow hV.r10;replace hV:=hV.sat s4;replace f8:=f8.sat s4;replace f11:=f11.sat s4;replace f6:=f6.sat s4;obtain ⟨K5,s5,H,f14⟩:=H.freezeRow hV.r14;replace hV:=hV.sat s5;replace f8:=f8.sat s5;replace f11:=f11.sat s5;replace f6:=f6.sat s5;replace f10:=f10.sat s5;obtain ⟨K6,s6,H,f12⟩:=H.freezeRow hV.r12;replace hV:=hV.sat s6;replace f8:=f8.sat s6;replace f11:=f11.sat s6;replace f6:=f6.sat s6;replace f10:=f10.sat s6;replace f14:=f14.sat s6;obtain ⟨K7,s7,H,f9⟩:=H.freezeRow hV.r9;replace hV:=hV.sat s7;replace f8:=f8.sat s7;replace f11:=f11.sat s7;replace f6:=f6.sat s7;replace f10:=f10.sat s7;replace f14:=f14.sat s7;replace f12:=f12.sat s7;obtain ⟨K8,s8,H,f7⟩:=H.freezeRow hV.r7;replace f8:=f8.sat s8;replace f11:=f11.sat s8;replace f6:=f6.sat s8;replace f10:=f10.sat s8;replace f14:=f14.sat s8;replace f12:=f12.sat s8;replace f9:=f9.sat s8
 exact ⟨K8,s8.trans (s7.trans (s6.trans (s5.trans (s4.trans (s3.trans (s2.trans s1)))))),H,by
  unfold defL DV.cells
  exact .lit (.lit (.lit (.lit (.lit (.lit (.cons f6 (.cons f7 (.cons f8 (.cons f9 (.cons f10 (.cons f11 (.cons f12 (.lit (.cons f14 (.lit (.lit RL.z))))))))))))))))⟩
theorem Hp.freezeDefs: ∀{TS:List (DefD×DV)} {K:World},Hp w0 w K (y1a TS++M)→tok K TS→ ∃K',Sat K' K∧Hp w0 w K' M∧RL K' (y0r (TS.map (·.1))) (y02 TS)
 |[],K,H,_=>⟨K,Sat.refl K,H,RL.z⟩
 |p::TS,K,H,hok=>by
  have H:Hp w0 w K (DV.rows p.1 p.2++(y1a TS++M)):=by
   have:y1a (p::TS)++M=DV.rows p.1 p.2++(y1a TS++M):=by simp [y1a]
   rw [←this];exact H
  obtain ⟨K1,s1,H,h1⟩:=H.freezeDef (hok p (Qaz ..));obtain ⟨K2,s2,H,h2⟩:=Hp.freezeDefs (TS:=TS) H (fun q hq=>(hok q (Qa2 _ hq)).sat s1);exact ⟨K2,s2.trans s1,H,(h1.sat s2).app h2⟩
end
set_option maxRecDepth 100000
attribute [local go_sem ↓] Go.wp_at_zero Go.wp_at_succ
theorem textsL_flat (l:List Txt):y03 l=l.flatMap fun x=>[str' x]:=by
 induction l with
 |nil=>rfl
 |cons x r ih=>rw [List.flatMap_cons,←ih];rfl
theorem z4c {w0 w K:World} {M:List Ent} {l:List Txt} {n c k:Nat} {A:Option Addr} {x:Txt} (H:Hp w0 w K M) (hd:RD K (.list n (y03 l)) (.slice A n c)) (hk:l[k]?=some x): ∃ad,A=some ad∧w.cell? (ad.add k)=some (.string (str x)):=by
 rw [textsL_flat] at hd;obtain ⟨ad,vs,h1,h2,_,h4⟩:=y65 (m:=1) (f:=fun x=>[str' x]) (fun _=>rfl) H hd hk (by omega);obtain ⟨r,rfl,_⟩:=h2.lit_inv;exact ⟨ad,h1,by simpa using h4.1 _ rfl⟩
def valD (x:Txt):ValueD:=⟨y7n,x,[],0,0⟩
def plD (x:Txt):NamedD:=⟨x,0,0⟩
theorem q0d {K:World} {l:List Txt} {x:Txt} {vs:List Value} (h:RL K (y12 (l.map valD)) vs):RL K (y12 ((l++[x]).map valD)) (vs++[.bool false,.bool false,.string ⟨#[]⟩,.string (str x),.slice none 0 0,.int .i64 0,.int .i64 0]):=by
 rw [Qas,y6z];exact h.app (by simp only [List.map_cons,List.map_nil,y12,List.flatMap_cons,List.flatMap_nil,List.append_nil];exact .lit (.lit (.lit (.lit (.cons RD.z (.lit (.lit RL.z)))))))
theorem q43 {K:World} {l:List Txt} {x:Txt} {vs:List Value} (h:RL K (y0v (l.map plD)) vs):RL K (y0v ((l++[x]).map plD)) (vs++[.string (str x),.int .i64 0,.int .i64 0]):=by
 rw [Qas,y64];exact h.app (by simp only [List.map_cons,List.map_nil,y0v,List.flatMap_cons,List.flatMap_nil,List.append_nil];exact .lit (.lit (.lit RL.z)))
def EnumP (s:ByteArray) (l:List Txt) (w0 K:World) (M:List Ent) (e:Ending) (w':World):Prop:=
 ∃K' A c,e= .returned (.agg #[.int .i64 6,.bool false,.bool false,.bool false,.string ⟨#[]⟩,.string s,.slice none 0 0,.slice none 0 0,.slice none 0 0,.slice none 0 0,.slice none 0 0,.slice A l.length c,.slice none 0 0,.bool false,.slice none 0 0,.int .i64 0,.int .i64 0])∧Sat K' K∧Hp w0 w' K' M∧RD K' (.list l.length (y12 (l.map valD))) (.slice A l.length c)
set_option maxHeartbeats 4000000 in
theorem q0e (s:ByteArray) (l:List Txt) (n c:Nat) (A:Option Addr) (w0 w K:World) (M:List Ent) (H:Hp w0 w K M) (hl:l.length=n) (hn:n≤1000000) (hd:RD K (.list n (y03 l)) (.slice A n c)):
  Calls Tryz.prog 103 #[.string s,.slice A n c] w (EnumP s l w0 K M):=by
 obtain ⟨k0,hk0,k0z,k0s,k0b⟩:=info_parts z5s;have HL:=hide hl;clear hl;go_enter Tryz.func103,Tryz.ntmps103
 go_upto_region 3 with (first
  |((with_reducible refine isL ?_);first
   |(refine al z43 4 H ?_;clear H;intro w1 g4 H)
   |(refine al z43 5 H ?_;clear H;intro w3 g5 H)
   |(refine sA 5 0 H ?_;clear H;intro w5 H)))
 go_wp2_with fail
 go_loopw [12] (fun i wr=>∃(k:Nat) (V:Value) (vs:List Value),k≤n∧i= .int .i64 k∧Hp w0 wr K (.row 133 7 V k vs:: .box g5 [.int .i64 6,.bool false,.bool false,.bool false,.string ⟨#[]⟩,.string s,.slice none 0 0,.slice none 0 0,.slice none 0 0,.slice none 0 0,.slice none 0 0,V,.slice none 0 0,.bool false,.slice none 0 0,.int .i64 0,.int .i64 0] 43:: .box g4 [.int .i64 0,.bool false,.bool false,.bool false,.string ⟨#[]⟩,.string ⟨#[]⟩,.slice none 0 0,.slice none 0 0,.slice none 0 0,.slice none 0 0,.slice none 0 0,.slice none 0 0,.slice none 0 0,.bool false,.slice none 0 0,.int .i64 0,.int .i64 0] 43::M)∧RL K (y12 ((l.take k).map valD)) vs) (fun i _=>n - (intOf i).toNat)
 case atStart=>exact ⟨0,_,[],Qak _,rfl,H.nilRow 133 7,RL.z⟩
 case round=>
  clear H;obtain ⟨k,V,vs,hk,rfl,H,hvs⟩:=hrel;obtain ⟨Av,cv,rfl,_,_⟩:=H.slice (i:=0) rfl;by_cases hlt:k<n
  ·have hkI:(k:Int)<(n:Int):=by omega
   obtain ⟨x,hx⟩: ∃x,l[k]?=some x:=⟨_,Qad (by rw [HL.out];exact hlt)⟩;have HE:=hide (y1l hx);obtain ⟨ad,rfl,hc⟩:=z4c H hd hx;clear hx
   go_upto_region 5 with (fail)
   have:=H.c 1 11
   go_upto_region 6 with (first
    |(refine y2w (by rfl) 38 133 1 _ (by rfl) (some 20) (by rfl) Tryz.underlying38 [.bool false,.bool false,.string ⟨#[]⟩,.string (str x),.slice none 0 0,.int .i64 0,.int .i64 0] (by kernel_rfl) H ?_;clear H;intro w6 g20 H;have:=H.c 2 11)
    |(at_builtin;refine y4p (by rfl) _ _ 38 (by rfl) 133 k0 _ 7 80 Tryz.underlying38 hk0 k0z k0s k0b (by rfl) (by decide) H 1 (.slice Av k cv) (k) (vs) (by rfl) (by first|rfl|simp [Act.eval,Act.put]) (some ⟨g20,0,none⟩) 1 1 [.bool false,.bool false,.string ⟨#[]⟩,.string (str x),.slice none 0 0,.int .i64 0,.int .i64 0] (by first|rfl|simp [Act.eval,Act.put]) (by rfl) (H.rd (i:=0) rfl) (by simp [Value.oneCell']) (by simp only [maxLen];omega) (by omega) ?_;clear H;intro V2 w2 H;replace H:Hp w0 w2 K (.box g20 [.bool false,.bool false,.string ⟨#[]⟩,.string (str x),.slice none 0 0,.int .i64 0,.int .i64 0] 133:: .row 133 7 (V2) (k+1) (vs++[.bool false,.bool false,.string ⟨#[]⟩,.string (str x),.slice none 0 0,.int .i64 0,.int .i64 0]):: .box g5 [.int .i64 6,.bool false,.bool false,.bool false,.string ⟨#[]⟩,.string s,.slice none 0 0,.slice none 0 0,.slice none 0 0,.slice none 0 0,.slice none 0 0,.slice Av k cv,.slice none 0 0,.bool false,.slice none 0 0,.int .i64 0,.int .i64 0] 43:: .box g4 [.int .i64 0,.bool false,.bool false,.bool false,.string ⟨#[]⟩,.string ⟨#[]⟩,.slice none 0 0,.slice none 0 0,.slice none 0 0,.slice none 0 0,.slice none 0 0,.slice none 0 0,.slice none 0 0,.bool false,.slice none 0 0,.int .i64 0,.int .i64 0] 43::M):=H;obtain ⟨V2A,V2c,rfl,V2l,V2m⟩:=H.slice (i:=1) rfl;have:=H.c 2 11)
    |((with_reducible refine isL ?_);first
     |(refine s1 22 2 (.slice V2A (k+1) V2c) H ?_;clear H;intro w7 H;have:=H.c 2 11)))
   replace H:=H.sub (Qai _ (Qaa _ (Qaa _ (Qaa _ (Qam _)))))
   go_wp2_with fail
   go_roundw
   case rel=>exact ⟨k+1,_,_,by omega,by go_num,H,by rw [HE.out];exact q0d hvs⟩
   case measure=>simp [intOf];omega
  ·obtain rfl:n=k:=by omega
   have htk:l.take n=l:=by rw [←HL.out];exact List.take_length
   rw [htk] at hvs;clear htk
   go_upto_region 7 with (fail)
   go_wp2_with (first
    |((with_reducible refine isL ?_);first
     |(refine ld 5 1 17 Tryz.underlying43 H ?_)
     |(refine sA 4 2 H ?_;clear H;intro w8 H)))
   refine bodyPost_ret (v:=.agg #[.int .i64 6,.bool false,.bool false,.bool false,.string ⟨#[]⟩,.string s,.slice none 0 0,.slice none 0 0,.slice none 0 0,.slice none 0 0,.slice none 0 0,.slice Av n cv,.slice none 0 0,.bool false,.slice none 0 0,.int .i64 0,.int .i64 0]) (results_cell_row rfl _ _ g4 43 _ (0,0) _ (by rfl) (H.blkAt (i:=2) rfl) Tryz.underlying43 rfl (by kernel_rfl)) rfl ?_;replace H:=H.sub (Qaa _ (Qai _ (Qai _ (Qam _))));obtain ⟨K',hle,H,hv⟩:=H.freezeRow hvs;have hl':=HL.out;exact ⟨K',Av,cv,by rw [hl'],hle,H,by rw [hl'];exact hv⟩
def DirP (s:ByteArray) (arg:InputD) (l:List Txt) (w0 K:World) (M:List Ent) (e:Ending) (w':World):Prop:=
 ∃K' g A c,e= .returned (.agg #[.int .i64 8,.bool false,.bool false,.bool false,.string ⟨#[]⟩,.string s,.slice none 0 0,.slice none 0 0,.slice none 0 0,.slice (some ⟨g,0,none⟩) 1 1,.slice none 0 0,.slice none 0 0,.slice none 0 0,.bool false,.slice A l.length c,.int .i64 0,.int .i64 0])∧Sat K' K∧Hp w0 w' K' M∧RD K' (.list l.length (y0v (l.map plD))) (.slice A l.length c)∧RD K' (.list 1 (y0o [arg])) (.slice (some ⟨g,0,none⟩) 1 1)
set_option maxHeartbeats 4000000 in
theorem y2i (s:ByteArray) (arg:InputD) (a0 a1 a2 a3 a4 a5 a6 a7 a8 a9 a10 a11 a12 a13 a14 a15 a16:Value) (l:List Txt) (n c:Nat) (A:Option Addr) (w0 w K:World) (M:List Ent) (H:Hp w0 w K M) (hl:l.length=n) (hn:n≤1000000) (hd:RD K (.list n (y03 l)) (.slice A n c)) (ha:RL K (y4m arg) [a0,a1,a2,a3,a4,a5,a6,a7,a8,a9,a10,a11,a12,a13,a14,a15,a16]):
  Calls Tryz.prog 105 #[.string s,.agg #[a0,a1,a2,a3,a4,a5,a6,a7,a8,a9,a10,a11,a12,a13,a14,a15,a16],.slice A n c] w (DirP s arg l w0 K M):=by
 obtain ⟨k0,hk0,k0z,k0s,k0b⟩:=info_parts Go.Proofs.YtbpgkkoeehopjaaGreat.dat.named_info;have HL:=hide hl;clear hl;have hone:=ha.one;go_enter Tryz.func105,Tryz.ntmps105;have hK:=Sat.refl K
 go_upto_region 3 with (first
  |(refine z16 (by rfl) 123 (.tmp 1) (by rfl) [a0,a1,a2,a3,a4,a5,a6,a7,a8,a9,a10,a11,a12,a13,a14,a15,a16] _ (by rfl) (by rfl) (some 4) (by rfl) H ?_;clear H;intro w9 g4 H hg10;clear hg10)
  |(refine y2w (by rfl) 37 123 1 _ (by rfl) (some 12) (by rfl) Tryz.underlying37 [a0,a1,a2,a3,a4,a5,a6,a7,a8,a9,a10,a11,a12,a13,a14,a15,a16] (by kernel_rfl) H ?_;clear H;intro w13 g12 H;obtain ⟨K2,hle14,H,hin⟩:=H.freezeBox (n:=1) (ls:=y0o [arg]) ((by simpa [y0o] using ha)) (by simp only [maxLen];omega);replace hd:=hd.sat hle14;replace ha:=ha.sat hle14;replace hK:=hle14.trans hK)
  |((with_reducible refine isL ?_);first
   |(refine al z43 6 H ?_;clear H;intro w11 g6 H)
   |(refine ld 4 1 17 Tryz.underlying123 H ?_)
   |(refine al z43 7 H ?_;clear H;intro w15 g7 H)
   |(refine sA 7 0 H ?_;clear H;intro w17 H)))
 go_wp2_with fail
 go_loopw [16] (fun i wr=>∃(k:Nat) (V:Value) (vs:List Value),k≤n∧i= .int .i64 k∧Hp w0 wr K2 (.row 113 3 V k vs:: .box g7 [.int .i64 8,.bool false,.bool false,.bool false,.string ⟨#[]⟩,.string s,.slice none 0 0,.slice none 0 0,.slice none 0 0,.slice (some ⟨g12,0,none⟩) 1 1,.slice none 0 0,.slice none 0 0,.slice none 0 0,.bool false,V,.int .i64 0,.int .i64 0] 43:: .box g6 [.int .i64 0,.bool false,.bool false,.bool false,.string ⟨#[]⟩,.string ⟨#[]⟩,.slice none 0 0,.slice none 0 0,.slice none 0 0,.slice none 0 0,.slice none 0 0,.slice none 0 0,.slice none 0 0,.bool false,.slice none 0 0,.int .i64 0,.int .i64 0] 43::M)∧RL K2 (y0v ((l.take k).map plD)) vs) (fun i _=>n - (intOf i).toNat)
 case atStart=>exact ⟨0,_,[],Qak _,rfl,(H.sub (Qaa _ (Qaa _ (Qai _ (Qam _))))).nilRow 113 3,RL.z⟩
 case round=>
  clear H;obtain ⟨k,V,vs,hk,rfl,H,hvs⟩:=hrel;obtain ⟨Av,cv,rfl,_,_⟩:=H.slice (i:=0) rfl;by_cases hlt:k<n
  ·have hkI:(k:Int)<(n:Int):=by omega
   obtain ⟨x,hx⟩: ∃x,l[k]?=some x:=⟨_,Qad (by rw [HL.out];exact hlt)⟩;have HE:=hide (y1l hx);obtain ⟨ad,rfl,hc⟩:=z4c H hd hx;clear hx
   go_upto_region 5 with (fail)
   have:=H.c 1 14
   go_upto_region 6 with (first
    |(refine y2w (by rfl) 34 113 1 _ (by rfl) (some 24) (by rfl) Tryz.underlying34 [.string (str x),.int .i64 0,.int .i64 0] (by kernel_rfl) H ?_;clear H;intro w18 g24 H;have:=H.c 2 14)
    |(at_builtin;refine y4p (by rfl) _ _ 34 (by rfl) 113 k0 _ 3 32 Tryz.underlying34 hk0 k0z k0s k0b (by rfl) (by decide) H 1 (.slice Av k cv) (k) (vs) (by rfl) (by first|rfl|simp [Act.eval,Act.put]) (some ⟨g24,0,none⟩) 1 1 [.string (str x),.int .i64 0,.int .i64 0] (by first|rfl|simp [Act.eval,Act.put]) (by rfl) (H.rd (i:=0) rfl) (by simp [Value.oneCell']) (by simp only [maxLen];omega) (by omega) ?_;clear H;intro V2 w2 H;replace H:Hp w0 w2 K2 (.box g24 [.string (str x),.int .i64 0,.int .i64 0] 113:: .row 113 3 (V2) (k+1) (vs++[.string (str x),.int .i64 0,.int .i64 0]):: .box g7 [.int .i64 8,.bool false,.bool false,.bool false,.string ⟨#[]⟩,.string s,.slice none 0 0,.slice none 0 0,.slice none 0 0,.slice (some ⟨g12,0,none⟩) 1 1,.slice none 0 0,.slice none 0 0,.slice none 0 0,.bool false,.slice Av k cv,.int .i64 0,.int .i64 0] 43:: .box g6 [.int .i64 0,.bool false,.bool false,.bool false,.string ⟨#[]⟩,.string ⟨#[]⟩,.slice none 0 0,.slice none 0 0,.slice none 0 0,.slice none 0 0,.slice none 0 0,.slice none 0 0,.slice none 0 0,.bool false,.slice none 0 0,.int .i64 0,.int .i64 0] 43::M):=H;obtain ⟨V2A,V2c,rfl,V2l,V2m⟩:=H.slice (i:=1) rfl;have:=H.c 2 14)
    |((with_reducible refine isL ?_);first
     |(refine s1 26 2 (.slice V2A (k+1) V2c) H ?_;clear H;intro w19 H;have:=H.c 2 14)))
   replace H:=H.sub (Qai _ (Qaa _ (Qaa _ (Qaa _ (Qam _)))))
   go_wp2_with fail
   go_roundw
   case rel=>exact ⟨k+1,_,_,by omega,by go_num,H,by rw [HE.out];exact q43 hvs⟩
   case measure=>simp [intOf];omega
  ·obtain rfl:n=k:=by omega
   have htk:l.take n=l:=by rw [←HL.out];exact List.take_length
   rw [htk] at hvs;clear htk
   go_upto_region 7 with (fail)
   go_wp2_with (first
    |((with_reducible refine isL ?_);first
     |(refine ld 7 1 17 Tryz.underlying43 H ?_)
     |(refine sA 6 2 H ?_;clear H;intro w20 H)))
   refine bodyPost_ret (v:=.agg #[.int .i64 8,.bool false,.bool false,.bool false,.string ⟨#[]⟩,.string s,.slice none 0 0,.slice none 0 0,.slice none 0 0,.slice (some ⟨g12,0,none⟩) 1 1,.slice none 0 0,.slice none 0 0,.slice none 0 0,.bool false,.slice Av n cv,.int .i64 0,.int .i64 0]) (results_cell_row rfl _ _ g6 43 _ (0,0) _ (by rfl) (H.blkAt (i:=2) rfl) Tryz.underlying43 rfl (by kernel_rfl)) rfl ?_;replace H:=H.sub (Qaa _ (Qai _ (Qai _ (Qam _))));obtain ⟨K',hle,H,hv⟩:=H.freezeRow hvs;have hl':=HL.out;exact ⟨K',g12,Av,cv,by rw [hl'],hle.trans hK,H,by rw [hl'];exact hv,hin.sat hle⟩
set_option maxHeartbeats 40000000
def fD (s t u:Txt):FieldD:=⟨y7n,s,[],(t,u),[],0,0⟩
def aD (s t:Txt):FieldD:=⟨y7n,s,[incD],(t,[33,93]),[],0,0⟩
def scD (s:Txt):DefD:=⟨2,false,y7n,s,[],[],[],[],[],[],[],false,[],0,0⟩
def obD (s:Txt) (l:List FieldD):DefD:=⟨3,false,y7n,s,[],[],l,[],[],[],[],false,[],0,0⟩
def enD (s:Txt) (l:List Txt):DefD:=⟨6,false,y7n,s,[],[],[],[],[],l.map valD,[],false,[],0,0⟩
section
variable {K : World}
theorem rf_f {s t u:Txt} {r:List FieldD} {ys:List Value} (h:RL K (y0u r) ys):RL K (y0u (fD s t u::r)) (.bool false:: .bool false:: .string ⟨#[]⟩:: .string (str s):: .slice none 0 0:: .string (str t):: .string (str u):: .slice none 0 0:: .int .i64 0:: .int .i64 0::ys):=
 .lit (.lit (.lit (.lit (.cons RD.z (.lit (.lit (.cons RD.z (.lit (.lit h)))))))))
theorem rf_a {s t:Txt} {r:List FieldD} {ys:List Value} {v:Value} (h:RL K (y0u r) ys) (hi:RD K (.list 1 (y0o [incD])) v):RL K (y0u (aD s t::r)) (.bool false:: .bool false:: .string ⟨#[]⟩:: .string (str s)::v:: .string (str t):: .string ⟨#[33,93]⟩:: .slice none 0 0:: .int .i64 0:: .int .i64 0::ys):=
 .lit (.lit (.lit (.lit (.cons hi (.lit (.lit (.cons RD.z (.lit (.lit h)))))))))
theorem rt_s {x:Txt} {r:List Txt} {ys:List Value} (h:RL K (y03 r) ys):RL K (y03 (x::r)) (.string (str x)::ys):=.lit h
theorem rd_nil:RL K (y0r []) []:=RL.z
theorem rd_sc {s:Txt}:RL K (defL (scD s)) [.int .i64 2,.bool false,.bool false,.bool false,.string ⟨#[]⟩,.string (str s),.slice none 0 0,.slice none 0 0,.slice none 0 0,.slice none 0 0,.slice none 0 0,.slice none 0 0,.slice none 0 0,.bool false,.slice none 0 0,.int .i64 0,.int .i64 0]:=
 y18 RD.z RD.z RD.z RD.z RD.z RD.z RD.z RD.z
theorem x6t {s:Txt} {l:List FieldD} {v:Value} {r:List DefD} {ys:List Value} (h:RL K (y0r r) ys) (hl:RD K (.list l.length (y0u l)) v):RL K (y0r (obD s l::r)) (.int .i64 3:: .bool false:: .bool false:: .bool false:: .string ⟨#[]⟩:: .string (str s):: .slice none 0 0:: .slice none 0 0::v:: .slice none 0 0:: .slice none 0 0:: .slice none 0 0:: .slice none 0 0:: .bool false:: .slice none 0 0:: .int .i64 0:: .int .i64 0::ys):=
 DatL.app (y18 RD.z RD.z hl RD.z RD.z RD.z RD.z RD.z) h
theorem rd_en {s:Txt} {l:List Txt} {v:Value} {r:List DefD} {ys:List Value} (h:RL K (y0r r) ys) (hl:RD K (.list l.length (y12 (l.map valD))) v):RL K (y0r (enD s l::r)) (.int .i64 6:: .bool false:: .bool false:: .bool false:: .string ⟨#[]⟩:: .string (str s):: .slice none 0 0:: .slice none 0 0:: .slice none 0 0:: .slice none 0 0:: .slice none 0 0::v:: .slice none 0 0:: .bool false:: .slice none 0 0:: .int .i64 0:: .int .i64 0::ys):=
 DatL.app (y18 RD.z RD.z RD.z RD.z RD.z (by simpa using hl) RD.z RD.z) h
theorem q44 {l:List Txt} {x:Txt} {vs:List Value} (h:RL K (y0r (l.map scD)) vs):RL K (y0r ((l++[x]).map scD)) (vs++[.int .i64 2,.bool false,.bool false,.bool false,.string ⟨#[]⟩,.string (str x),.slice none 0 0,.slice none 0 0,.slice none 0 0,.slice none 0 0,.slice none 0 0,.slice none 0 0,.slice none 0 0,.bool false,.slice none 0 0,.int .i64 0,.int .i64 0]):=by
 rw [Qas];unfold y0r at h ⊢;rw [Qbu];exact h.app (by simpa using rd_sc)
end
def scalT:List Txt:=[[73,110,116],[70,108,111,97,116],[83,116,114,105,110,103],[66,111,111,108,101,97,110],[73,68]]
def gf0:List FieldD:=[fD [100,101,115,99,114,105,112,116,105,111,110] [83,116,114,105,110,103] [],fD [116,121,112,101,115] [95,95,84,121,112,101] [33,93,33],fD [113,117,101,114,121,84,121,112,101] [95,95,84,121,112,101] [33],fD [109,117,116,97,116,105,111,110,84,121,112,101] [95,95,84,121,112,101] [],fD [115,117,98,115,99,114,105,112,116,105,111,110,84,121,112,101] [95,95,84,121,112,101] [],fD [100,105,114,101,99,116,105,118,101,115] [95,95,68,105,114,101,99,116,105,118,101] [33,93,33]]
def gd0:DefD:=obD [95,95,83,99,104,101,109,97] gf0
def gf1:List FieldD:=[fD [107,105,110,100] [95,95,84,121,112,101,75,105,110,100] [33],fD [110,97,109,101] [83,116,114,105,110,103] [],fD [100,101,115,99,114,105,112,116,105,111,110] [83,116,114,105,110,103] [],fD [115,112,101,99,105,102,105,101,100,66,121,85,82,76] [83,116,114,105,110,103] [],aD [102,105,101,108,100,115] [95,95,70,105,101,108,100],fD [105,110,116,101,114,102,97,99,101,115] [95,95,84,121,112,101] [33,93],fD [112,111,115,115,105,98,108,101,84,121,112,101,115] [95,95,84,121,112,101] [33,93],aD [101,110,117,109,86,97,108,117,101,115] [95,95,69,110,117,109,86,97,108,117,101],fD [105,110,112,117,116,70,105,101,108,100,115] [95,95,73,110,112,117,116,86,97,108,117,101] [33,93],fD [111,102,84,121,112,101] [95,95,84,121,112,101] []]
def gd1:DefD:=obD [95,95,84,121,112,101] gf1
def ge2:List Txt:=[[83,67,65,76,65,82],[79,66,74,69,67,84],[73,78,84,69,82,70,65,67,69],[85,78,73,79,78],[69,78,85,77],[73,78,80,85,84,95,79,66,74,69,67,84],[76,73,83,84],[78,79,78,95,78,85,76,76]]
def gd2:DefD:=enD [95,95,84,121,112,101,75,105,110,100] ge2
def gf3:List FieldD:=[fD [110,97,109,101] [83,116,114,105,110,103] [33],fD [100,101,115,99,114,105,112,116,105,111,110] [83,116,114,105,110,103] [],fD [97,114,103,115] [95,95,73,110,112,117,116,86,97,108,117,101] [33,93,33],fD [116,121,112,101] [95,95,84,121,112,101] [33],fD [105,115,68,101,112,114,101,99,97,116,101,100] [66,111,111,108,101,97,110] [33],fD [100,101,112,114,101,99,97,116,105,111,110,82,101,97,115,111,110] [83,116,114,105,110,103] []]
def gd3:DefD:=obD [95,95,70,105,101,108,100] gf3
def gf4:List FieldD:=[fD [110,97,109,101] [83,116,114,105,110,103] [33],fD [100,101,115,99,114,105,112,116,105,111,110] [83,116,114,105,110,103] [],fD [116,121,112,101] [95,95,84,121,112,101] [33],fD [100,101,102,97,117,108,116,86,97,108,117,101] [83,116,114,105,110,103] []]
def gd4:DefD:=obD [95,95,73,110,112,117,116,86,97,108,117,101] gf4
def gf5:List FieldD:=[fD [110,97,109,101] [83,116,114,105,110,103] [33],fD [100,101,115,99,114,105,112,116,105,111,110] [83,116,114,105,110,103] [],fD [105,115,68,101,112,114,101,99,97,116,101,100] [66,111,111,108,101,97,110] [33],fD [100,101,112,114,101,99,97,116,105,111,110,82,101,97,115,111,110] [83,116,114,105,110,103] []]
def gd5:DefD:=obD [95,95,69,110,117,109,86,97,108,117,101] gf5
def gf6:List FieldD:=[fD [110,97,109,101] [83,116,114,105,110,103] [33],fD [100,101,115,99,114,105,112,116,105,111,110] [83,116,114,105,110,103] [],fD [108,111,99,97,116,105,111,110,115] [95,95,68,105,114,101,99,116,105,118,101,76,111,99,97,116,105,111,110] [33,93,33],fD [97,114,103,115] [95,95,73,110,112,117,116,86,97,108,117,101] [33,93,33],fD [105,115,82,101,112,101,97,116,97,98,108,101] [66,111,111,108,101,97,110] [33]]
def gd6:DefD:=obD [95,95,68,105,114,101,99,116,105,118,101] gf6
def ge7:List Txt:=[[81,85,69,82,89],[77,85,84,65,84,73,79,78],[83,85,66,83,67,82,73,80,84,73,79,78],[70,73,69,76,68],[70,82,65,71,77,69,78,84,95,68,69,70,73,78,73,84,73,79,78],[70,82,65,71,77,69,78,84,95,83,80,82,69,65,68],[73,78,76,73,78,69,95,70,82,65,71,77,69,78,84],[86,65,82,73,65,66,76,69,95,68,69,70,73,78,73,84,73,79,78],[83,67,72,69,77,65],[83,67,65,76,65,82],[79,66,74,69,67,84],[70,73,69,76,68,95,68,69,70,73,78,73,84,73,79,78],[65,82,71,85,77,69,78,84,95,68,69,70,73,78,73,84,73,79,78],[73,78,84,69,82,70,65,67,69],[85,78,73,79,78],[69,78,85,77],[69,78,85,77,95,86,65,76,85,69],[73,78,80,85,84,95,79,66,74,69,67,84],[73,78,80,85,84,95,70,73,69,76,68,95,68,69,70,73,78,73,84,73,79,78]]
def gd7:DefD:=enD [95,95,68,105,114,101,99,116,105,118,101,76,111,99,97,116,105,111,110] ge7
def givenT:List DefD:=scalT.map scD++[gd0,gd1,gd2,gd3,gd4,gd5,gd6,gd7]
theorem hv_of {K:World} {v:Value} (h:RD K (.list (5+8) (y0r (scalT.map scD)++y0r [gd0,gd1,gd2,gd3,gd4,gd5,gd6,gd7])) v):RD K (.list givenT.length (y0r givenT)) v:=by
 rw [show givenT.length=5+8 from rfl,show y0r givenT=y0r (scalT.map scD)++y0r [gd0,gd1,gd2,gd3,gd4,gd5,gd6,gd7] from by unfold givenT y0r;rw [Qbu]];exact h
def BtP (l:List DefD) (w0 K:World) (M:List Ent) (e:Ending) (w':World):Prop:=
 ∃K' A c,e= .returned (.slice A l.length c)∧Sat K' K∧Hp w0 w' K' M∧RD K' (.list l.length (y0r l)) (.slice A l.length c)
def fV (f:FieldD) (v:Value):List Value:=[.bool false,.bool false,.string ⟨#[]⟩,.string (str f.name),v,.string (str f.ty.1),.string (str f.ty.2),.slice none 0 0,.int .i64 0,.int .i64 0]
def fVs (l:List FieldD):List Value:=l.flatMap fun f=>fV f (.slice none 0 0)
def z5z (f:FieldD):Prop:=f=fD f.name f.ty.1 f.ty.2
theorem z51 {K:World}: ∀{l:List FieldD},(∀f∈l,z5z f)→RL K (y0u l) (fVs l)
 |[],_=>RL.z
 |f::r,h=>by
  have e:f=fD f.name f.ty.1 f.ty.2:=h f (Qaz ..);rw [e];exact rf_f (z51 fun f hf=>h f (Qa2 _ hf))
theorem q0f {K:World}: ∀l:List Txt,RL K (y03 l) (l.map fun x=>.string (str x))
 |[]=>RL.z
 |x::r=>.lit (q0f r)
theorem pl_gf0: ∀f∈gf0,z5z f:=by intro f hf;simp only [gf0,Qbd,List.mem_nil_iff,or_false] at hf;rcases hf with rfl|rfl|rfl|rfl|rfl|rfl<;>rfl
theorem pl_gf3: ∀f∈gf3,z5z f:=by intro f hf;simp only [gf3,Qbd,List.mem_nil_iff,or_false] at hf;rcases hf with rfl|rfl|rfl|rfl|rfl|rfl<;>rfl
theorem pl_gf4: ∀f∈gf4,z5z f:=by intro f hf;simp only [gf4,Qbd,List.mem_nil_iff,or_false] at hf;rcases hf with rfl|rfl|rfl|rfl<;>rfl
theorem pl_gf5: ∀f∈gf5,z5z f:=by intro f hf;simp only [gf5,Qbd,List.mem_nil_iff,or_false] at hf;rcases hf with rfl|rfl|rfl|rfl<;>rfl
theorem pl_gf6: ∀f∈gf6,z5z f:=by intro f hf;simp only [gf6,Qbd,List.mem_nil_iff,or_false] at hf;rcases hf with rfl|rfl|rfl|rfl|rfl<;>rfl
def fV1 (v1 v2:Value):List Value:=fVs (gf1.take 4)++(fV (aD [102,105,101,108,100,115] [95,95,70,105,101,108,100]) v1++(fVs ((gf1.drop 5).take 2)++(fV (aD [101,110,117,109,86,97,108,117,101,115] [95,95,69,110,117,109,86,97,108,117,101]) v2++fVs (gf1.drop 8))))
theorem rl_fV1 {K:World} {v1 v2:Value} (h1:RD K (.list 1 (y0o [incD])) v1) (h2:RD K (.list 1 (y0o [incD])) v2):RL K (y0u gf1) (fV1 v1 v2):=rf_f (rf_f (rf_f (rf_f (rf_a (rf_f (rf_f (rf_a (rf_f (rf_f RL.z)) h2))) h1))))
def obC (s:Txt) (v:Value):List Value:=[.int .i64 3,.bool false,.bool false,.bool false,.string ⟨#[]⟩,.string (str s),.slice none 0 0,.slice none 0 0,v,.slice none 0 0,.slice none 0 0,.slice none 0 0,.slice none 0 0,.bool false,.slice none 0 0,.int .i64 0,.int .i64 0]
def enC (s:Txt) (v:Value):List Value:=[.int .i64 6,.bool false,.bool false,.bool false,.string ⟨#[]⟩,.string (str s),.slice none 0 0,.slice none 0 0,.slice none 0 0,.slice none 0 0,.slice none 0 0,v,.slice none 0 0,.bool false,.slice none 0 0,.int .i64 0,.int .i64 0]
def gV (v0 v1 v2 v3 v4 v5 v6 v7:Value):List Value:=obC [95,95,83,99,104,101,109,97] v0++(obC [95,95,84,121,112,101] v1++(enC [95,95,84,121,112,101,75,105,110,100] v2++(obC [95,95,70,105,101,108,100] v3++(obC [95,95,73,110,112,117,116,86,97,108,117,101] v4++(obC [95,95,69,110,117,109,86,97,108,117,101] v5++(obC [95,95,68,105,114,101,99,116,105,118,101] v6++(enC [95,95,68,105,114,101,99,116,105,118,101,76,111,99,97,116,105,111,110] v7)))))))
theorem rl_gV {K:World} {v0 v1 v2 v3 v4 v5 v6 v7:Value} (h0:RD K (.list gf0.length (y0u gf0)) v0) (h1:RD K (.list gf1.length (y0u gf1)) v1) (h2:RD K (.list ge2.length (y12 (ge2.map valD))) v2) (h3:RD K (.list gf3.length (y0u gf3)) v3) (h4:RD K (.list gf4.length (y0u gf4)) v4) (h5:RD K (.list gf5.length (y0u gf5)) v5) (h6:RD K (.list gf6.length (y0u gf6)) v6) (h7:RD K (.list ge7.length (y12 (ge7.map valD))) v7):RL K (y0r [gd0,gd1,gd2,gd3,gd4,gd5,gd6,gd7]) (gV v0 v1 v2 v3 v4 v5 v6 v7):=x6t (x6t (rd_en (x6t (x6t (x6t (x6t (rd_en (RL.z) h7) h6) h5) h4) h3) h2) h1) h0
section
variable {w0 w K : World} {M : List Ent}
theorem txt_b {l:List Txt} {n c k:Nat} {A:Option Addr} (h:RD K (.list n (y03 l)) (.slice A n c)) (hk:k<l.length): ∃ad x,A=some ad∧l[k]?=some x∧At K (ad.add k) [.string (str x)]:=by
 obtain ⟨ad,vs,h1,h2,_,_,h5,h6⟩:=y74 (m:=1) (f:=fun x=>[str' x]) (fun _=>rfl) (textsL_flat l▸h) (Qad hk) (by omega);obtain ⟨r0,rfl,h0⟩:=h2.lit_inv;obtain rfl:=h0.nil_inv;rw [Nat.mul_one] at h5 h6;exact ⟨ad,_,h1,Qad hk,h5,h6⟩
theorem z7f (w0 w K:World) (M:List Ent) (H:Hp w0 w K M):
  Calls Tryz.prog 56 #[] w (BtP givenT w0 K M):=by
 have hK:=Sat.refl K;go_enter Tryz.func56,Tryz.ntmps56
 go_upto_region 3 with (refine oA 4 H ?_ (hd:=dbS (cs:=scalT.map fun x=>.string (str x)) (hcs:=by kernel_rfl));clear H;intro w g4 H;have hq9:=H.freezeBox (n:=5) (ls:=y03 scalT) (q0f scalT) (by simp [maxLen]);clear H;obtain ⟨K1,hle1,H,h4⟩:=hq9)
 obtain ⟨A4,hA4⟩: ∃A:Option Addr,some ⟨g4,0,none⟩=A:=⟨_,rfl⟩;rw [hA4] at h4 ⊢;clear hA4;replace hK:=hle1.trans hK
 go_wp2_with fail
 replace H:=H.nilRow 43 17
 go_loopw [1,6] (fun v i wr=>∃(k:Nat) (A':Option Addr) (c':Nat) (vs:List Value),k≤5∧i= .int .i64 k∧v= .slice A' k c'∧RL K1 (y0r ((scalT.take k).map scD)) vs∧Hp w0 wr K1 (.row 43 17 (.slice A' k c') k vs::M)) (fun _ i _=>5 - (intOf i).toNat)
 case atStart=>exact ⟨0,none,0,[],Qak _,rfl,rfl,RL.z,H⟩
 case round=>
  clear H;obtain ⟨k,A',c',vs,hk,rfl,rfl,hvs,H⟩:=hrel;have h5:scalT.length=5:=rfl;by_cases hlt:k<5
  ·obtain ⟨ad,x,rfl,hx,hat⟩:=txt_b h4 (k:=k) (by rw [h5];exact hlt)
   have hkI:(k:Int)<5:=by omega
   have hkJ:(k:Int)<((5:Nat):Int):=by omega
   have hwr:IntKind.i64.wrap ((k:Int)+1)=k+1:=IntWalk.i64_in _ (by omega);have HX:=hide (y1l hx);clear hx h5
   go_wp2_with (first|(refine oL H ?_)|(refine oP H ?_;clear H;intro w _ H)|(refine oQ H ?_;clear H;intro A' c' w _ _ H;dsimp only [List.set] at H))
   go_roundw
   case rel=>exact ⟨k+1,_,_,_,by omega,by go_num,rfl,by rw [HX.out];exact q44 hvs,H.fin⟩
   case measure=>simp [intOf];omega
  ·obtain rfl:k=5:=by omega
   rw [Qaj (by rw [h5];exact Qab _)] at hvs;clear h4 h5;have m1:True:=trivial;have m2:True:=trivial
   go_wp2_with (first|(go_at_call 101;refine (q42 _ _ _ _ _ _ _ H).mono ?_;clear H;rintro e w ⟨rfl,H⟩)|(go_at_call 100;refine (q0b _ _ _ _ _ _ _ _ H).mono ?_;clear H;rintro e w ⟨rfl,H⟩)|(go_at_call 102;clear m1;refine (q69 _ _ _ _ _ _ H).mono ?_;clear H;rintro e w ⟨K2,Aa,rfl,hle,H,ha1⟩;replace hK:=hle.trans hK;replace hvs:=hvs.sat hle;(try replace h23:=h23.sat hle);(try replace h35:=h35.sat hle);(try replace h37:=h37.sat hle);(try replace h45:=h45.sat hle);(try replace h51:=h51.sat hle);(try replace h57:=h57.sat hle);(try replace h64:=h64.sat hle);(try replace h66:=h66.sat hle);(try replace ha1:=ha1.sat hle);(try replace ha2:=ha2.sat hle);clear hle)|(go_at_call 102;clear m2;refine (q69 _ _ _ _ _ _ H).mono ?_;clear H;rintro e w ⟨K2,Ab,rfl,hle,H,ha2⟩;replace hK:=hle.trans hK;replace hvs:=hvs.sat hle;(try replace h23:=h23.sat hle);(try replace h35:=h35.sat hle);(try replace h37:=h37.sat hle);(try replace h45:=h45.sat hle);(try replace h51:=h51.sat hle);(try replace h57:=h57.sat hle);(try replace h64:=h64.sat hle);(try replace h66:=h66.sat hle);(try replace ha1:=ha1.sat hle);(try replace ha2:=ha2.sat hle);clear hle)|(refine oA 23 H ?_ (hd:=dbS (cs:=fVs gf0) (hcs:=by kernel_rfl));clear H;intro w g23 H;have hq9:=H.freezeBox (n:=6) (ls:=y0u gf0) (z51 pl_gf0) (by simp [maxLen]);clear H;obtain ⟨K2,hle,H,h23⟩:=hq9;replace hK:=hle.trans hK;replace hvs:=hvs.sat hle;(try replace h23:=h23.sat hle);(try replace h35:=h35.sat hle);(try replace h37:=h37.sat hle);(try replace h45:=h45.sat hle);(try replace h51:=h51.sat hle);(try replace h57:=h57.sat hle);(try replace h64:=h64.sat hle);(try replace h66:=h66.sat hle);(try replace ha1:=ha1.sat hle);(try replace ha2:=ha2.sat hle);clear hle)|(refine oA 35 H ?_ (hd:=dbS (cs:=fV1 (.slice (some Aa) 1 1) (.slice (some Ab) 1 1)) (hcs:=by kernel_rfl));clear H;intro w g35 H;have hq9:=H.freezeBox (n:=10) (ls:=y0u gf1) (rl_fV1 ha1 ha2) (by simp [maxLen]);clear H;obtain ⟨K2,hle,H,h35⟩:=hq9;replace hK:=hle.trans hK;replace hvs:=hvs.sat hle;(try replace h23:=h23.sat hle);(try replace h35:=h35.sat hle);(try replace h37:=h37.sat hle);(try replace h45:=h45.sat hle);(try replace h51:=h51.sat hle);(try replace h57:=h57.sat hle);(try replace h64:=h64.sat hle);(try replace h66:=h66.sat hle);(try replace ha1:=ha1.sat hle);(try replace ha2:=ha2.sat hle);clear hle)|(refine oA 45 H ?_ (hd:=dbS (cs:=fVs gf3) (hcs:=by kernel_rfl));clear H;intro w g45 H;have hq9:=H.freezeBox (n:=6) (ls:=y0u gf3) (z51 pl_gf3) (by simp [maxLen]);clear H;obtain ⟨K2,hle,H,h45⟩:=hq9;replace hK:=hle.trans hK;replace hvs:=hvs.sat hle;(try replace h23:=h23.sat hle);(try replace h35:=h35.sat hle);(try replace h37:=h37.sat hle);(try replace h45:=h45.sat hle);(try replace h51:=h51.sat hle);(try replace h57:=h57.sat hle);(try replace h64:=h64.sat hle);(try replace h66:=h66.sat hle);(try replace ha1:=ha1.sat hle);(try replace ha2:=ha2.sat hle);clear hle)|(refine oA 51 H ?_ (hd:=dbS (cs:=fVs gf4) (hcs:=by kernel_rfl));clear H;intro w g51 H;have hq9:=H.freezeBox (n:=4) (ls:=y0u gf4) (z51 pl_gf4) (by simp [maxLen]);clear H;obtain ⟨K2,hle,H,h51⟩:=hq9;replace hK:=hle.trans hK;replace hvs:=hvs.sat hle;(try replace h23:=h23.sat hle);(try replace h35:=h35.sat hle);(try replace h37:=h37.sat hle);(try replace h45:=h45.sat hle);(try replace h51:=h51.sat hle);(try replace h57:=h57.sat hle);(try replace h64:=h64.sat hle);(try replace h66:=h66.sat hle);(try replace ha1:=ha1.sat hle);(try replace ha2:=ha2.sat hle);clear hle)|(refine oA 57 H ?_ (hd:=dbS (cs:=fVs gf5) (hcs:=by kernel_rfl));clear H;intro w g57 H;have hq9:=H.freezeBox (n:=4) (ls:=y0u gf5) (z51 pl_gf5) (by simp [maxLen]);clear H;obtain ⟨K2,hle,H,h57⟩:=hq9;replace hK:=hle.trans hK;replace hvs:=hvs.sat hle;(try replace h23:=h23.sat hle);(try replace h35:=h35.sat hle);(try replace h37:=h37.sat hle);(try replace h45:=h45.sat hle);(try replace h51:=h51.sat hle);(try replace h57:=h57.sat hle);(try replace h64:=h64.sat hle);(try replace h66:=h66.sat hle);(try replace ha1:=ha1.sat hle);(try replace ha2:=ha2.sat hle);clear hle)|(refine oA 64 H ?_ (hd:=dbS (cs:=fVs gf6) (hcs:=by kernel_rfl));clear H;intro w g64 H;have hq9:=H.freezeBox (n:=5) (ls:=y0u gf6) (z51 pl_gf6) (by simp [maxLen]);clear H;obtain ⟨K2,hle,H,h64⟩:=hq9;replace hK:=hle.trans hK;replace hvs:=hvs.sat hle;(try replace h23:=h23.sat hle);(try replace h35:=h35.sat hle);(try replace h37:=h37.sat hle);(try replace h45:=h45.sat hle);(try replace h51:=h51.sat hle);(try replace h57:=h57.sat hle);(try replace h64:=h64.sat hle);(try replace h66:=h66.sat hle);(try replace ha1:=ha1.sat hle);(try replace ha2:=ha2.sat hle);clear hle)|(refine oA 37 H ?_ (hd:=dbS (cs:=ge2.map fun x=>.string (str x)) (hcs:=by kernel_rfl));clear H;intro w g37 H;have hq9:=H.freezeBox (n:=8) (ls:=y03 ge2) (q0f ge2) (by simp [maxLen]);clear H;obtain ⟨K2,hle,H,e37⟩:=hq9;replace hK:=hle.trans hK;replace hvs:=hvs.sat hle;(try replace h23:=h23.sat hle);(try replace h35:=h35.sat hle);(try replace h37:=h37.sat hle);(try replace h45:=h45.sat hle);(try replace h51:=h51.sat hle);(try replace h57:=h57.sat hle);(try replace h64:=h64.sat hle);(try replace h66:=h66.sat hle);(try replace ha1:=ha1.sat hle);(try replace ha2:=ha2.sat hle);clear hle)|(refine oA 66 H ?_ (hd:=dbS (cs:=ge7.map fun x=>.string (str x)) (hcs:=by kernel_rfl));clear H;intro w g66 H;have hq9:=H.freezeBox (n:=19) (ls:=y03 ge7) (q0f ge7) (by simp [maxLen]);clear H;obtain ⟨K2,hle,H,e66⟩:=hq9;replace hK:=hle.trans hK;replace hvs:=hvs.sat hle;(try replace h23:=h23.sat hle);(try replace h35:=h35.sat hle);(try replace h37:=h37.sat hle);(try replace h45:=h45.sat hle);(try replace h51:=h51.sat hle);(try replace h57:=h57.sat hle);(try replace h64:=h64.sat hle);(try replace h66:=h66.sat hle);(try replace ha1:=ha1.sat hle);(try replace ha2:=ha2.sat hle);clear hle)|(go_at_call 103;refine (q0e _ ge2 8 _ _ _ _ _ _ H rfl (by decide) e37).mono ?_;clear H e37;rintro e w ⟨K2,A37,c37,rfl,hle,H,h37⟩;replace hK:=hle.trans hK;replace hvs:=hvs.sat hle;(try replace h23:=h23.sat hle);(try replace h35:=h35.sat hle);(try replace h37:=h37.sat hle);(try replace h45:=h45.sat hle);(try replace h51:=h51.sat hle);(try replace h57:=h57.sat hle);(try replace h64:=h64.sat hle);(try replace h66:=h66.sat hle);(try replace ha1:=ha1.sat hle);(try replace ha2:=ha2.sat hle);clear hle)|(go_at_call 103;refine (q0e _ ge7 19 _ _ _ _ _ _ H rfl (by decide) e66).mono ?_;clear H e66;rintro e w ⟨K2,A66,c66,rfl,hle,H,h66⟩;replace hK:=hle.trans hK;replace hvs:=hvs.sat hle;(try replace h23:=h23.sat hle);(try replace h35:=h35.sat hle);(try replace h37:=h37.sat hle);(try replace h45:=h45.sat hle);(try replace h51:=h51.sat hle);(try replace h57:=h57.sat hle);(try replace h64:=h64.sat hle);(try replace h66:=h66.sat hle);(try replace ha1:=ha1.sat hle);(try replace ha2:=ha2.sat hle);clear hle)|(refine oA 68 H ?_ (hd:=dbS (cs:=gV (.slice (some ⟨g23,0,none⟩) 6 6) (.slice (some ⟨g35,0,none⟩) 10 10) (.slice A37 8 c37) (.slice (some ⟨g45,0,none⟩) 6 6) (.slice (some ⟨g51,0,none⟩) 4 4) (.slice (some ⟨g57,0,none⟩) 4 4) (.slice (some ⟨g64,0,none⟩) 5 5) (.slice A66 19 c66)) (hcs:=by kernel_rfl));clear H;intro w g68 H;have hq9:=H.freezeBox (n:=8) (ls:=y0r [gd0,gd1,gd2,gd3,gd4,gd5,gd6,gd7]) (rl_gV h23 h35 h37 h45 h51 h57 h64 h66) (by simp [maxLen]);clear H;obtain ⟨K2,hle,H,hg⟩:=hq9;replace hK:=hle.trans hK;replace hvs:=hvs.sat hle)|(refine oR H ?_ (ls:=y0r [gd0,gd1,gd2,gd3,gd4,gd5,gd6,gd7]) (hlen:=rfl);clear H;intro us A5 c5 w hus _ _ _ H;dsimp only [List.set] at H))
   go_ret;obtain ⟨K3,hle3,H,hd⟩:=H.freezeRow (hvs.app hus);exact ⟨K3,_,_,rfl,hle3.trans hK,H,hv_of hd⟩
end
end Go.Proofs.YtbpgkkoeehopjaaGreat.hp
namespace Go.Proofs.YtbpgkkoeehopjaaGreat.hp
open Go.RowKit words tree dat held
section
variable {P : Program} {w0 K0 : World} {M : List Ent} {Q : Exit → Act → World → Prop} {l : List Oper} {a0 : Act} {R : Tmp → World → Value → Prop}
def Has (l:List Oper) (listed:Array Bool) (t:Tmp):Prop:=∃j o,l[j]?=some o∧o.dst=some t∧listed.getD j false=true
structure Inv (w0 K0:World) (M:List Ent) (l:List Oper) (a0:Act) (R:Tmp→World→Value→Prop) (listed:Array Bool) (a:Act) (w K:World):Prop where
 le:Sat K K0
 hp:Hp w0 w K M
 defers:a.defers=a0.defers
 size:a.tmps.size=a0.tmps.size
 has: ∀t,Has l listed t→R t K (a.tmps.getD t undef)
 old: ∀t,¬Has l listed t→a.tmps.getD t undef=a0.tmps.getD t undef
def Law (P:Program) (w0 K0:World) (M:List Ent) (Q:Exit→Act→World→Prop) (l:List Oper) (a0:Act) (R:Tmp→World→Value→Prop) (o:Oper):Prop:=
 ∀(a:Act) (w K:World),Sat K K0→Hp w0 w K M→(∀j t,(o.after.toList.any fun e=>e.on==j&&Region.binds .any e)=true→(l[j]?).bind (·.dst)=some t→R t K (a.tmps.getD t undef))→(∀t,(l.all fun p=>p.dst !=some t)=true→a.tmps.getD t undef=a0.tmps.getD t undef)→
  ∀Kc:Act→World→Prop,(∀v w' K',Sat K' K→Hp w0 w' K' M→(∀t,o.dst=some t→R t K' v)→Kc (a.put o.dst v) w')→if Region.wanted o (yielded l.toArray a.tmps)=true then Oper.wp P o a w Kc Q else Kc (a.put o.dst undef) w
def acycB (l:List Oper):Bool:=l.zipIdx.all fun p=>p.1.after.toList.all fun e=>decide (e.on<p.2)
def dstB (l:List Oper) (n:Nat):Bool:=l.all fun o=>match o.dst with|some t=>decide (t<n)|none=>true
def unB:List Oper→Bool
 |[]=>true
 |o::r=>(r.all fun p=>match o.dst with|some t=>p.dst !=some t|none=>true)&&unB r
theorem q0g (h:acycB l=true): ∀(j:Nat) (o:Oper),l[j]?=some o→ ∀e∈o.after,Region.binds .any e=true→e.on<j:=fun j o hj e he _=>by
 have:=Qbi.1 h (o,j) (Qb0.2 hj);have:=Qbi.1 this e (by simpa using he);exact Qa6 this
theorem q45 {n:Nat} (h:dstB l n=true): ∀o∈l,∀t,o.dst=some t→t<n:=fun o ho t ht=>by
 have:=Qbi.1 h o ho;simpa [ht] using this
theorem q0h: ∀{l:List Oper},unB l=true→ ∀(i j:Nat) (o p:Oper) (t:Tmp),l[i]?=some o→l[j]?=some p→o.dst=some t→p.dst=some t→i=j
 |[],_,i,j,o,p,t,h1,_,_,_=>by simp at h1
 |q::r,h,i,j,o,p,t,h1,h2,h3,h4=>by
  simp only [unB,Qao] at h
  have far: ∀(x:Oper),x∈r→q.dst=some t→x.dst≠some t:=fun x hx hq he=>by
   have:=Qbi.1 h.1 x hx;simp [hq,he] at this
  cases i with
  |zero=>
   simp only [List.getElem?_cons_zero,Option.some.injEq] at h1;subst h1
   cases j with
   |zero=>rfl
   |succ j=>exact absurd h4 (far p (Qaf (by simpa using h2)) h3)
  |succ i=>
   cases j with
   |zero=>
    simp only [List.getElem?_cons_zero,Option.some.injEq] at h2;subst h2;exact absurd h3 (far o (Qaf (by simpa using h1)) h4)
   |succ j=>rw [q0h h.2 i j o p t (by simpa using h1) (by simpa using h2) h3 h4]
theorem q0i (hm:P.follows .mixedOrders=true) (hac:acycB l=true) (hdst:dstB l a0.tmps.size=true) (hun:unB l=true)
  (hR: ∀t K K' v,Sat K' K→R t K v→R t K' v) (laws: ∀o∈l,Law P w0 K0 M Q l a0 R o) {w:World} {id:Nat} (H:Hp w0 w K0 M)
  (hend: ∀a' w' K',Sat K' K0→Hp w0 w' K' M→a'.defers=a0.defers→a'.tmps.size=a0.tmps.size→(∀t,(l.any fun p=>p.dst==some t)=true→R t K' (a'.tmps.getD t undef))→(∀t,(l.all fun p=>p.dst !=some t)=true→a'.tmps.getD t undef=a0.tmps.getD t undef)→Q .normal a' w'):
  (Code.region id l.toArray true).wp P Q a0 w:=by
 refine wp_region_any hm ?_;have hac:=q0g hac;have hdst:=q45 hdst;have hun:=q0h hun
 have fin: ∀listed a w K,Inv w0 K0 M l a0 R listed a w K→(∀j,j<l.length→listed.getD j false=true)→Q .normal a w:=fun listed a w K h hall=>by
  refine hend a w K h.le h.hp h.defers h.size (fun t ht=>?_) (fun t ht=>h.old t (fun ⟨j,p,h1,h2,_⟩=>by have:=Qbi.1 ht p (Qaf h1);simp [h2] at this));obtain ⟨o,ho,ht⟩:=Qbh.1 ht;obtain ⟨j,hj,rfl⟩:=List.getElem_of_mem ho;exact h.has t ⟨j,_,Qad hj,by simpa using ht,hall j hj⟩
 have none_ready: ∀listed:Array Bool,listed.size=l.length→Region.ready .any l.toArray listed=[]→ ∀j,j<l.length→listed.getD j false=true:=by
  intro listed hs hr j
  induction j using Nat.strongRecOn with
  |_ j ih=>
   intro hj
   cases hb:listed.getD j false with
   |true=>rfl
   |false=>
    have hmem:j∈Region.ready .any l.toArray listed:=by
     refine mem_ready.2 ⟨?_,l[j],by simp [hj],fun e he hbd=>?_⟩
     ·rw [Qar] at hb ⊢;rw [Qbq (by omega)] at hb ⊢;exact hb
     ·have hlt:=hac j _ (Qad hj) e he hbd;exact ih e.on hlt (by omega)
    rw [hr] at hmem;cases hmem
 have main: ∀(fuel:Nat) (listed:Array Bool) (a:Act) (w K:World),listed.size=l.length→(listed.toList.filter (· =false)).length≤fuel→Inv w0 K0 M l a0 R listed a w K→wpAny P .any l.toArray Q fuel listed a w:=by
  intro fuel
  induction fuel with
  |zero=>
   intro listed a w K hs hc h
   have hall: ∀j,j<l.length→listed.getD j false=true:=by
    intro j hj;have h0:listed.toList.filter (· =false)=[]:=Qa0 (by omega);rw [List.filter_eq_nil_iff] at h0
    have hm:listed[j]'(by omega)∈listed.toList:=by simp
    have:=h0 _ hm;rw [Qar,Qbq (by omega)];simpa using this
   refine ⟨?_,fin listed a w K h hall⟩
   cases hr:Region.ready .any l.toArray listed with
   |nil=>rfl
   |cons i r=>
    obtain ⟨hun,o,ho,_⟩:=mem_ready.1 (show i∈Region.ready .any l.toArray listed by rw [hr];exact Qaz ..)
    have hil:i<l.length:=by have:=(Qan.1 ho).1;simpa using this
    have:=hall i hil;rw [Qar,Qbq (by omega)] at this hun;simp at this hun;rw [this] at hun;cases hun
  |succ fuel ih=>
   intro listed a w K hs hc h;refine ⟨fun hr=>fin listed a w K h (none_ready listed hs hr),fun i hi=>?_⟩;obtain ⟨hil,o,ho,hall⟩:=mem_ready.1 hi
   have hlt:i<l.length:=by have:=(Qan.1 ho).1;simpa using this
   have ho':l[i]?=some o:=by simpa using ho
   refine wpOp_step ho (fun K' hK=>?_);refine laws o (Qaf ho') a w K h.le h.hp (fun j t hany ht=>?_) (fun t ht=>h.old t (fun ⟨j,p,h1,h2,_⟩=>by have:=Qbi.1 ht p (Qaf h1);simp [h2] at this)) K' (fun v w' K1 hle H1 hv=>hK _ _ ?_)
   ·obtain ⟨e,he,hb⟩:=Qbh.1 hany;simp only [Qao,Qa7] at hb;obtain ⟨rfl,hb⟩:=hb;have hl:=hall e (by simpa using he) hb
    cases hq:l[e.on]? with
    |none=>rw [hq] at ht;cases ht
    |some p=>rw [hq] at ht;exact h.has t ⟨e.on,p,hq,ht,hl⟩
   ·refine ih (listed.setIfInBounds i true) _ _ K1 (by simpa using hs) ?_ ⟨hle.trans h.le,H1,?_,?_,?_,?_⟩
    ·have hi2:i<listed.size:=by omega
     have hf:listed[i]=false:=by
      rw [Qar,Qbq hi2] at hil;simpa using hil
     have hsp:listed.toList=listed.toList.take i++false::listed.toList.drop (i+1):=by
      have h1:listed.toList[i]'(by simpa using hi2)=false:=by simpa using hf
      conv=>lhs;rw [←List.take_append_drop i listed.toList,Qa1 (by simpa using hi2),h1]
     have hset:(listed.setIfInBounds i true).toList=listed.toList.take i++true::listed.toList.drop (i+1):=by
      rw [Array.toList_setIfInBounds,List.set_eq_take_append_cons_drop,if_pos (by simpa using hi2)]
     rw [hset];rw [hsp] at hc;simp only [List.filter_append,Qae,List.filter_cons] at hc ⊢;simp at hc ⊢;omega
    ·cases o.dst<;>exact h.defers
    ·cases o.dst with
     |none=>exact h.size
     |some d=>simp only [Act.put];rw [Array.size_setIfInBounds];exact h.size
    ·rintro t ⟨j,p,h1,h2,h3⟩;by_cases hji:i=j
     ·subst hji;rw [ho'] at h1;injection h1 with h1;subst h1;have hts:=hdst o (Qaf ho') t h2
      have hget:(a.put o.dst v).tmps.getD t undef=v:=by
       rw [h2];simp only [Act.put];rw [Qar,Array.getElem?_setIfInBounds_self_of_lt (by rw [h.size];exact hts)];rfl
      rw [hget];exact hv t h2
     ·have hne:o.dst≠some t:=fun e=>hji (hun i j o p t ho' h1 e h2)
      have hget:(a.put o.dst v).tmps.getD t undef=a.tmps.getD t undef:=by
       cases hd:o.dst with
       |none=>rfl
       |some d=>
        have hdt:d≠t:=fun e=>hne (by rw [hd,e]);simp only [Act.put];rw [Qar,Array.getElem?_setIfInBounds_ne hdt,←Qar]
      rw [hget];refine hR t K K1 _ hle (h.has t ⟨j,p,h1,h2,?_⟩);rw [getD_set_ne false hji] at h3;exact h3
    ·intro t ht;have hne:o.dst≠some t:=fun e=>ht ⟨i,o,ho',e,by rw [Qar,Array.getElem?_setIfInBounds_self_of_lt (by omega)];rfl⟩
     have hget:(a.put o.dst v).tmps.getD t undef=a.tmps.getD t undef:=by
      cases hd:o.dst with
      |none=>rfl
      |some d=>
       have hdt:d≠t:=fun e=>hne (by rw [hd,e]);simp only [Act.put];rw [Qar,Array.getElem?_setIfInBounds_ne hdt,←Qar]
     rw [hget];refine h.old t (fun ⟨j,p,h1,h2,h3⟩=>ht ⟨j,p,h1,h2,?_⟩);by_cases hji:i=j
     ·subst hji;rw [Qar,Array.getElem?_setIfInBounds_self_of_lt (by omega)];rfl
     ·rw [getD_set_ne false hji];exact h3
 refine main _ _ a0 w.drew K0 (by simp) ?_ ⟨Sat.refl _,H.drew1,rfl,rfl,?_,fun _ _=>rfl⟩
 ·exact Qah (Qb3 _ _) (by simp)
 ·rintro t ⟨j,o,_,_,h3⟩;rw [getD_replicate_false] at h3;cases h3
end
end Go.Proofs.YtbpgkkoeehopjaaGreat.hp
