/- Part 10 of a proof: see the text that holds the statement. -/
import Derived.Test.YtbpgkkoeehopjaaGreatP7
import Derived.Test.YtbpgkkoeehopjaaGreatP9
import Derived.Laws.StructEq
import Derived.WalkSpells
import Derived.Deep.QuietTactic
import Derived.BigQuiet
set_option linter.unusedVariables false
set_option linter.unusedSimpArgs false
namespace Go.Proofs.YtbpgkkoeehopjaaGreat.hp
open Go.RowKit words enc tree gram lex rd dec dat held
def y0z (l:List (Txt×Value)):List (Value×Value):=l.map fun p=>(.string (str p.1),p.2)
def y4o (l:List (Txt×Value)) (x:Txt):Option Value:=(l.find? (·.1==x)).map (·.2)
def sput:List (Txt×Value)→Txt→Value→List (Txt×Value)
 |[],x,v=>[(x,v)]
 |p::r,x,v=>if p.1=x then (x,v)::r else p::sput r x v
theorem q0t {l:List (Txt×Value)} {x:Txt} {v:Value} (h:y4o l x=none):sput l x v=l++[(x,v)]:=by
 induction l with
 |nil=>rfl
 |cons p r ih=>
  by_cases hp:p.1=x
  ·simp [y4o,hp] at h
  ·have:y4o r x=none:=by simpa [y4o,hp] using h
   rw [sput,if_neg hp,ih this];rfl
theorem y3o (a b:Txt):(str a==str b)=decide (a=b):=by
 show ((str a).data==(str b).data)=_
 rw [Bool.eq_iff_iff];simp [str]
theorem z1e {w:World} {b:Nat} {l:List (Value×Value)} {P:Program} (h:w.heap[b]?=some (mobj l)):(getObj b).run P w= .ok (.map (y2c l).toArray l.length) w:=by
 unfold getObj;simp only [Sem.run,h,mobj]
theorem z64 (x:Txt): ∀(l:List (Txt×Value)) (j i:Nat),Instr.findNow .string (.string (str x)) (((y0z l).zipIdx j).map fun p=>({key:=p.1.1,val:=p.1.2,born:=p.2}:MapEntry)) i=some ((l.findIdx? (·.1==x)).bind fun k=>(l[k]?).map fun p=>(i+k,p.2))
 |[],j,i=>rfl
 |p::r,j,i=>by
  simp only [y0z,List.map_cons,List.zipIdx_cons,Instr.findNow,Instr.sameNow,y3o];by_cases h:p.1=x
  ·have h':x=p.1:=h.symm;simp [h',List.findIdx?_cons]
  ·have h': ¬x=p.1:=fun e=>h e.symm;have:=z64 x r (j+1) (i+1);simp only [y0z] at this;simp only [h',decide_false,this,List.findIdx?_cons,h,Qa7,if_false,Bool.false_eq_true]
   cases hq:r.findIdx? (·.1==x) with
   |none=>simp
   |some k=>simp [Nat.add_comm,Nat.add_left_comm,Nat.add_assoc]
section
variable {P : Program} {w : World} {b t kt et : Nat} {l : List (Txt × Value)}
theorem y9k (hk:P.underlying kt=some .string) (x:Txt):(Instr.findKey kt (.string (str x)) (y2c (y0z l))).run P w= .ok ((l.findIdx? (·.1==x)).bind fun k=>(l[k]?).map fun p=>(k,p.2)) w:=by
 have:=z64 x l 0 0;simp only [Nat.zero_add] at this;unfold Instr.findKey y2c;rw [Sem.run_bind,run_underlying hk w];simp only [Result.andThen_ok,this,Sem.run_pure]
theorem y7j (hk:P.underlying kt=some .string) (e:Bool) (x:Txt):(Instr.checkKey e 10000 kt (.string (str x))).run P w= .ok () w:=by
 unfold Instr.checkKey;rw [Sem.run_bind,run_underlying hk w];rfl
theorem z65 (x:Txt): ∀l:List (Txt×Value),((l.findIdx? (·.1==x)).bind fun k=>(l[k]?).map fun p=>(k,p.2)).map (·.2)=y4o l x
 |[]=>rfl
 |p::r=>by
  by_cases h:p.1=x
  ·simp [List.findIdx?_cons,h,y4o]
  ·have:=z65 x r;simp only [y4o,List.find?_cons,List.findIdx?_cons,h,Qa7,if_false,Bool.false_eq_true] at this ⊢;have hb:(p.1==x)=false:=Qa3.2 h;simp only [hb];rw [←this]
   cases hq:r.findIdx? (·.1==x) with
   |none=>simp
   |some k=>simp [Function.comp_def]
theorem z67 (ht:P.underlying t=some (.map kt et)) (hk:P.underlying kt=some .string) (z:Value) (hz:(zeroValue et).run P w= .ok z w) (hb:w.heap[b]?=some (mobj (y0z l))) (x:Txt) (ok:Bool):
  (Instr.lookup t (.map (some b)) (.string (str x)) ok).run P w= .ok (if ok then .tuple #[(y4o l x).getD z,.bool (y4o l x).isSome] else (y4o l x).getD z) w:=by
 have hf:=y9k (P:=P) (w:=w) (l:=l) hk x;have hi:=z65 x l;unfold Instr.lookup;simp only [Sem.run_bind,run_underlying ht w,Result.andThen_ok,z1e hb,Sem.run_pure,y7j hk,hf]
 cases hq:((l.findIdx? (·.1==x)).bind fun k=>(l[k]?).map fun p=>(k,p.2)) with
 |none=>
  rw [hq] at hi;have hi:y4o l x=none:=hi.symm;simp [hi,hz,Sem.run_bind]
 |some p=>
  rw [hq] at hi;have hi:y4o l x=some p.2:=hi.symm;simp [hi,Sem.run_bind]
theorem x05 (x:Txt) (v:Value): ∀(l:List (Txt×Value)),match l.findIdx? (·.1==x) with
  |none=>sput l x v=l++[(x,v)]
  |some k=>k<l.length∧sput l x v=l.set k (x,v)∧(l[k]?).map (·.1)=some x
 |[]=>rfl
 |p::r=>by
  by_cases h:p.1=x
  ·simp [List.findIdx?_cons,h,sput]
  ·have ih:=x05 x v r;have hb:(p.1==x)=false:=Qa3.2 h;simp only [List.findIdx?_cons,hb,Bool.false_eq_true,if_false,sput,h]
   cases hq:r.findIdx? (·.1==x) with
   |none=>rw [hq] at ih;simp only [Option.map_none] at ih ⊢;simp [ih]
   |some k=>rw [hq] at ih;simp only [Option.map_some] at ih ⊢;exact ⟨by simpa using ih.1,by rw [ih.2.1];rfl,by simpa using ih.2.2⟩
theorem x6x (l:List (Txt×Value)) (k:Nat) (hk:k<l.length) (p:Txt×Value):y2c (y0z (l.set k p))=(y2c (y0z l)).modify k fun e=>{e with key:=.string (str p.1),val:=p.2}:=by
 apply Qby;intro j;simp only [y2c,y0z,Qbz,List.getElem?_zipIdx,List.getElem?_modify,List.getElem?_set,List.map_set];by_cases hj:k=j
 ·subst hj;simp [hk]
 ·simp [hj]
theorem z4c {o o':Obj} (hb:w.heap[b]?=some o) (hn: ∀c e f,o≠ .cells c e f):(setObj b o').run P w= .ok () {w with heap:=w.heap.setIfInBounds b o'}:=by
 unfold setObj
 cases o with
 |cells c e f=>exact absurd rfl (hn c e f)
 |_=>simp [Sem.run,hb]
theorem z68 (ht:P.underlying t=some (.map kt et)) (hk:P.underlying kt=some .string) (hb:w.heap[b]?=some (mobj (y0z l))) (x:Txt) (v:Value):
  (Instr.mapUpdate t (.map (some b)) (.string (str x)) v).run P w= .ok () {w with heap:=w.heap.setIfInBounds b (mobj (y0z (sput l x v)))}:=by
 have hf:=y9k (P:=P) (w:=w) (l:=l) hk x;have hi:=x05 x v l;have hs: ∀o',(setObj b o').run P w= .ok () {w with heap:=w.heap.setIfInBounds b o'}:=fun o'=>z4c hb (fun c e f h=>by cases h);unfold Instr.mapUpdate;simp only [Sem.run_bind,run_underlying ht w,Result.andThen_ok,z1e hb,y7j hk,hf]
 cases hq:l.findIdx? (·.1==x) with
 |none=>
  rw [hq] at hi;simp only [Option.bind_none];rw [hs,hi];simp [mobj,y0z,y2c,List.zipIdx_append]
 |some k=>
  rw [hq] at hi;obtain ⟨hkl,hsp,hkx⟩:=hi;obtain ⟨p,hp⟩: ∃p,l[k]?=some p:=⟨_,Qad hkl⟩
  have hpx:p.1=x:=by simpa [hp] using hkx
  have hes:((y2c (y0z l)).toArray[k]?).map (·.key)=some (.string (str x)):=by simp [y2c,y0z,hp,hpx]
  have hst:(Instr.keyThatStays (.string (str x)) (.string (str x))).run P w= .ok (.string (str x)) w:=by
   unfold Instr.keyThatStays;rw [if_pos (by simp [Instr.sameBits,y3o])];rfl
  simp only [Option.bind_some,hp,Option.map_some,Sem.run_bind,hes,Option.getD_some,hst,Result.andThen_ok,hs];rw [hsp];have:=x6x l k hkl (x,v)
  have hob:Obj.map ((y2c (y0z l)).toArray.modify k fun e=>{e with key:=.string (str x),val:=v}) l.length=mobj (y0z (l.set k (x,v))):=by
   unfold mobj;rw [this];simp [y0z]
  rw [←hob];simp [y0z]
end
section
variable {P : Program} {w0 w K : World} {M : List Ent} {ops : Array Oper} {rest : List Oper} {o : Oper} {a : Act} {Q : Exit → Act → World → Prop} {i b t kt et : Nat}
theorem Hp.mapAt (H:Hp w0 w K M) {l:List (Value×Value)} (hi:M[i]?=some (.map b l)):w.heap[b]?=some (mobj l):=H.ok _ (Qaf hi)
theorem Hp.mapSet (H:Hp w0 w K M) {l:List (Value×Value)} (hi:M[i]?=some (.map b l)) (l':List (Value×Value)):Hp w0 {w with heap:=w.heap.setIfInBounds b (mobj l')} K (M.set i (.map b l')):=by
 have hb:=H.mapAt hi;have hlt:=(Qan.1 hb).1;refine H.setAt hi ⟨rfl,rfl,rfl,by simp,fun k hk hne=>?_⟩ ?_ (.inl rfl)
 ·have hkb:b≠k:=fun e=>hne (by subst e;rfl);simp [hkb]
 ·simp [Ent.ok,hlt]
end
def nmap (ks:List Txt):List (Txt×Value):=ks.zipIdx.map fun p=>(p.1,.int .i64 p.2)
theorem y8b (x:Txt): ∀(ks:List Txt) (j:Nat),y4o (ks.zipIdx j |>.map fun p=>(p.1,(Value.int .i64 p.2:Value))) x=(ks.findIdx? (· ==x)).map fun i=>.int .i64 ((j+i:Nat):Int)
 |[],j=>rfl
 |k::r,j=>by
  by_cases h:k=x
  ·simp [y4o,h,List.findIdx?_cons]
  ·have ih:=y8b x r (j+1);simp only [y4o] at ih;have hb:(k==x)=false:=Qa3.2 h;simp only [y4o,List.zipIdx_cons,List.map_cons,List.find?_cons,hb,List.findIdx?_cons,Bool.false_eq_true,if_false,ih]
   cases r.findIdx? (· ==x) with
   |none=>rfl
   |some i=>simp;omega
theorem y9l (ks:List Txt) (x:Txt):y4o (nmap ks) x=(ks.findIdx? (· ==x)).map fun i=>.int .i64 ((i:Nat):Int):=by
 have:=y8b x ks 0;simpa [nmap] using this
theorem x06 (ks:List Txt) (x:Txt) (h:x∉ks):sput (nmap ks) x (.int .i64 (ks.length:Int))=nmap (ks++[x]):=by
 rw [q0t]
 ·simp [nmap,List.zipIdx_append]
 ·rw [y9l]
  have:ks.findIdx? (· ==x)=none:=by
   rw [List.findIdx?_eq_none_iff];intro y hy;exact Qa3.2 (fun e=>h (e▸hy))
  rw [this];rfl
set_option maxRecDepth 100000
set_option maxHeartbeats 40000000
attribute [local go_sem ↓] Go.wp_at_zero Go.wp_at_succ
instance scM87:Sc Tryz.prog 87:=⟨⟨_,Tryz.underlying87,rfl⟩⟩
instance scD22:Sc Tryz.prog 22:=⟨⟨_,Tryz.underlying22,rfl⟩⟩
abbrev tbox (g ga gd gf go:Nat) (VT VD:Value):Ent:=.box g [.int .i64 0,.bool false,.bool false,.bool false,.string ⟨#[]⟩,.string ⟨#[]⟩,.slice none 0 0,.slice none 0 0,.slice none 0 0,.slice none 0 0,.slice none 0 0,.slice none 0 0,.slice none 0 0,.bool false,.slice none 0 0,.int .i64 0,.int .i64 0,VT,.map (some ga),VD,.map (some gd),.map (some gf),.map (some go)] 91
theorem y0n (w:World):(zeroValue 3).run Tryz.prog w= .ok (.int .i64 0) w:=by kernel_rfl
theorem z2j {ks:List Txt} {x:Txt} (h:x∉ks):y4o (nmap ks) x=none:=by
 rw [y9l]
 have:ks.findIdx? (· ==x)=none:=by
  rw [List.findIdx?_eq_none_iff];intro y hy;exact Qa3.2 (fun e=>h (e▸hy))
 rw [this];rfl
theorem z69 {ks:List Txt} {x:Txt} (h:x∈ks): ∃i,ks[i]?=some x∧(∀j,j<i→ks[j]?≠some x)∧y4o (nmap ks) x=some (.int .i64 (i:Nat)):=by
 rw [y9l]
 cases hq:ks.findIdx? (· ==x) with
 |none=>
  rw [List.findIdx?_eq_none_iff] at hq;have:=hq x h;simp at this
 |some i=>
  rw [Qbs] at hq;obtain ⟨hi,h1,h2⟩:=hq;refine ⟨i,?_,?_,rfl⟩
  ·rw [Qad hi];exact congrArg some (eq_of_beq h1)
  ·intro j hj he;have:=h2 j hj;rw [Qad (by omega)] at he;injection he with he;simp [he] at this
section
variable {P : Program} {w0 w K : World} {M M' : List Ent} {a : Act} {o : Oper}
theorem dlM {t kt et:TypeId} {m x:Operand} {b i:Nat} {l:List (Txt×Value)} {k:Txt} {z r:Value} (ht:P.underlying t=some (.map kt et)) (hk:P.underlying kt=some .string) (hz: ∀w,(zeroValue et).run P w= .ok z w) (hr:Value.tuple #[(y4o l k).getD z,.bool (y4o l k).isSome]=r)
  (ho:o.op= .lookup t m x true:=by rfl) (hm:a.eval m= .map (some b):=by rfl) (hx:a.eval x= .string (str k):=by rfl) (hi:M[i]?=some (.map b (y0z l)):=by ((repeat (first|exact i0|apply iS))<;>fail)):y97 P o a K M r:=fun w0 w H=>by
 have hrun:=z67 (w:=w) ht hk z (hz w) (H.mapAt hi) k true;rw [if_pos rfl,hr] at hrun;unfold execOp;simp only [ho,hm,hx,Sem.run_bind,hrun,Result.andThen_ok,Sem.run_pure]
theorem dsM {t kt et:TypeId} {m x y:Operand} {b i:Nat} {l l':List (Txt×Value)} {k:Txt} {v:Value} (ht:P.underlying t=some (.map kt et)) (hk:P.underlying kt=some .string) (hl:sput l k v=l')
  (ho:o.op= .mapUpdate t m x y:=by rfl) (hm:a.eval m= .map (some b):=by rfl) (hx:a.eval x= .string (str k):=by rfl) (hy:a.eval y=v:=by rfl) (hi:M[i]?=some (.map b (y0z l)):=by ((repeat (first|exact i0|apply iS))<;>fail)) (hM:M.set i (.map b (y0z l'))=M':=by (dsimp only [List.set];try rfl)):Does P o a w0 w K M (fun _=>undef) (fun _=>M'):=fun C Q H h=>by
 have hrun:=z68 (w:=w) ht hk (H.mapAt hi) k v;rw [hl] at hrun;unfold Oper.wp execOp;simp only [ho,hm,hx,hy,Sem.run_bind,hrun,Result.andThen_ok,Sem.run_pure];exact h _ 0 (hM▸H.mapSet hi _)
end
theorem z9d (d:DefD) (cs:Array Value) (ks:List Txt) (g ga gd gf go:Nat) (VT VD:Value) (w0 w K:World) (M:List Ent) (H:Hp w0 w K (tbox g ga gd gf go VT VD:: .map ga (y0z (nmap ks))::M)) (hd:RL K (defL d) cs.toList) (hin:d.name∈ks):
  Calls Tryz.prog 59 #[.pointer (some ⟨g,0,none⟩),.agg cs] w fun e w'=>e= .returned (.tuple #[])∧Hp w0 w' K (tbox g ga gd gf go VT VD:: .map ga (y0z (nmap ks))::M):=by
 obtain ⟨A6,c6,A7,c7,A8,c8,A9,c9,A10,c10,A11,c11,A12,c12,A14,c14,hcs,-⟩:=y0c hd;obtain rfl:cs= #[_,_,_,_,_,_,_,_,_,_,_,_,_,_,_,_,_]:=Qal.1 hcs;obtain ⟨i,-,-,hf⟩:=z69 hin;clear hcs hd;go_enter Tryz.func59,Tryz.ntmps59
 go_upto_region 1 with (first|(refine oL H ?_)|(refine oA 3 H ?_;clear H;intro w g3 H)|(refine oP H ?_;clear H;intro w _ H))
 refine rB [] H ?_;clear H;intro w H;refine rT 0 H ?_;refine rT 1 H ?_;refine rT 2 H ?_;refine rT 3 H ?_;refine rT 4 H ?_;refine rT 5 H ?_;refine rT 6 H ?_ (hd:=dlM Tryz.underlying87 Tryz.underlying9 y0n (by rw [hf]));refine rT 7 H ?_;refine rT 8 H ?_;refine rT 9 H ?_;refine rT 10 H ?_;refine rT 11 H ?_;refine rE ?_
 go_wp2_with fail
 refine o0 ?_;exact ⟨rfl,H.fin⟩
def AddT (d:DefD) (ks:List Txt) (g ga gd gf go:Nat) (VD:Value) (xT:List Value) (w0 K:World) (M:List Ent) (e:Ending) (w':World):Prop:=
 ∃K' V VT',e= .returned (.tuple #[])∧Sat K' K∧Hp w0 w' K' (tbox g ga gd gf go VT' VD:: .map ga (y0z (nmap (ks++[d.name]))):: .row 43 17 VT' (ks.length+1) (xT++DV.cells d V)::DV.rows d V++M)∧V.ok K' d
theorem z9e (d:DefD) (cs:Array Value) (ks:List Txt) (g ga gd gf go:Nat) (VT VD:Value) (xT:List Value) (w0 w K:World) (M:List Ent) (H:Hp w0 w K (tbox g ga gd gf go VT VD:: .map ga (y0z (nmap ks)):: .row 43 17 VT ks.length xT::M)) (hd:RL K (defL d) cs.toList) (hin:d.name∉ks) (hm:defN d≤9000000) (hk:ks.length≤9000000):
  Calls Tryz.prog 59 #[.pointer (some ⟨g,0,none⟩),.agg cs] w (AddT d ks g ga gd gf go VD xT w0 K M):=by
 obtain ⟨A6,c6,A7,c7,A8,c8,A9,c9,A10,c10,A11,c11,A12,c12,A14,c14,hcs,-⟩:=y0c hd;obtain rfl:cs= #[_,_,_,_,_,_,_,_,_,_,_,_,_,_,_,_,_]:=Qal.1 hcs;have hf:=z2j hin;have hput:=x06 ks d.name hin;obtain ⟨VA,Vc,rfl,-,-⟩:=H.slice (i:=2) rfl;clear hcs;go_enter Tryz.func59,Tryz.ntmps59
 go_upto_region 1 with (first|(refine oL H ?_)|(refine oA 3 H ?_;clear H;intro w g3 H)|(refine oP H ?_;clear H;intro w _ H))
 refine rB [] H ?_;clear H;intro w H;refine rT 0 H ?_;refine rT 1 H ?_;refine rT 2 H ?_;refine rT 3 H ?_;refine rT 4 H ?_;refine rT 5 H ?_;refine rT 6 H ?_ (hd:=dlM Tryz.underlying87 Tryz.underlying9 y0n (by rw [hf]));refine rT 7 H ?_;refine rT 8 H ?_;refine rT 9 H ?_;refine rT 10 H ?_;refine rT 11 H ?_;refine rE ?_
 go_wp2_with fail
 refine rB [11] H ?_;clear H;intro w H;refine rT 0 H ?_;refine rT 1 H ?_;refine rT 2 H ?_;refine rT 3 H ?_;refine rT 4 H ?_;refine rT 5 H ?_;refine rT 6 H ?_;refine rT 7 H ?_;refine rT 8 H ?_;refine rT 9 H ?_;refine rT 10 H ?_;refine rL 11 H ?_ (hd:=dsM Tryz.underlying87 Tryz.underlying9 hput);clear H;intro w _ H;refine rE ?_
 go_wp2_with fail
 refine rN [.box g3 _ _,.box g _ _] [11] H ?_;clear H;intro w H;refine rT 0 H ?_;refine rT 1 H ?_;refine rT 2 H ?_;refine rT 3 H ?_;refine rT 4 H ?_;refine rT 5 H ?_;refine rC 6 (y6x d _ H hm hd) ?_;clear H;rintro e w ⟨K5,V,rfl,hle,H,hV⟩;have ho:=x0w H;replace H:Hp _ _ _ (.row 52 10 V.v8 d.fields.length V.x8:: .row 133 7 V.v11 d.values.length V.x11:: .row 113 3 V.v6 d.ifaces.length V.x6:: .row 113 3 V.v10 d.members.length V.x10:: .row 113 3 V.v14 d.places.length V.x14:: .row 100 4 V.v12 d.roots.length V.x12:: .row 123 17 V.v9 d.inputs.length V.x9:: .row 181 4 V.v7 d.dirs.length V.x7::_):=H;refine rX H ?_ (v:=.agg #[.int .i64 d.kind,.bool d.ext,.bool d.note.has,.bool d.note.block,.string (str d.note.text),.string (str d.name),V.v6,V.v7,V.v8,V.v9,V.v10,V.v11,V.v12,.bool d.rep,V.v14,.int .i64 d.line,.int .i64 d.col]);refine rW 7 H ?_;clear H;intro w g7 H;refine rA 8 H ?_ (h1:=ho);clear H;intro A8 c8 w _ _ H;dsimp only [List.set] at H;refine rT 9 H ?_;refine rT 10 H ?_;refine rL 11 H ?_;clear H;intro w _ H;refine rE ?_
 go_wp2_with fail
 refine o0 ?_;exact ⟨K5,V,_,rfl,hle,(show Hp _ _ _ (tbox _ _ _ _ _ _ _::_::_:: .row 52 10 V.v8 d.fields.length V.x8:: .row 133 7 V.v11 d.values.length V.x11:: .row 113 3 V.v6 d.ifaces.length V.x6:: .row 113 3 V.v10 d.members.length V.x10:: .row 113 3 V.v14 d.places.length V.x14:: .row 100 4 V.v12 d.roots.length V.x12:: .row 123 17 V.v9 d.inputs.length V.x9:: .row 181 4 V.v7 d.dirs.length V.x7::M) from H.fin),hV⟩
theorem x3f (d:DefD) (cs:Array Value) (ks:List Txt) (g ga gd gf go:Nat) (VT VD:Value) (w0 w K:World) (M:List Ent) (H:Hp w0 w K (tbox g ga gd gf go VT VD:: .map gd (y0z (nmap ks))::M)) (hd:RL K (defL d) cs.toList) (hin:d.name∈ks):
  Calls Tryz.prog 58 #[.pointer (some ⟨g,0,none⟩),.agg cs] w fun e w'=>e= .returned (.tuple #[])∧Hp w0 w' K (tbox g ga gd gf go VT VD:: .map gd (y0z (nmap ks))::M):=by
 obtain ⟨A6,c6,A7,c7,A8,c8,A9,c9,A10,c10,A11,c11,A12,c12,A14,c14,hcs,-⟩:=y0c hd;obtain rfl:cs= #[_,_,_,_,_,_,_,_,_,_,_,_,_,_,_,_,_]:=Qal.1 hcs;obtain ⟨i,-,-,hf⟩:=z69 hin;clear hcs hd;go_enter Tryz.func58,Tryz.ntmps58
 go_upto_region 1 with (first|(refine oL H ?_)|(refine oA 3 H ?_;clear H;intro w g3 H)|(refine oP H ?_;clear H;intro w _ H))
 refine rB [] H ?_;clear H;intro w H;refine rT 0 H ?_;refine rT 1 H ?_;refine rT 2 H ?_;refine rT 3 H ?_;refine rT 4 H ?_;refine rT 5 H ?_;refine rT 6 H ?_ (hd:=dlM Tryz.underlying87 Tryz.underlying9 y0n (by rw [hf]));refine rT 7 H ?_;refine rT 8 H ?_;refine rT 9 H ?_;refine rT 10 H ?_;refine rT 11 H ?_;refine rE ?_
 go_wp2_with fail
 refine o0 ?_;exact ⟨rfl,H.fin⟩
def AddD (d:DefD) (ks:List Txt) (g ga gd gf go:Nat) (VT:Value) (xD:List Value) (w0 K:World) (M:List Ent) (e:Ending) (w':World):Prop:=
 ∃K' xs VD',e= .returned (.tuple #[])∧Sat K' K∧Hp w0 w' K' (tbox g ga gd gf go VT VD':: .map gd (y0z (nmap (ks++[d.name]))):: .row 43 17 VD' (ks.length+1) (xD++xs)::M)∧RL K' (defL d) xs
theorem x3g (d:DefD) (cs:Array Value) (ks:List Txt) (g ga gd gf go:Nat) (VT VD:Value) (xD:List Value) (w0 w K:World) (M:List Ent) (H:Hp w0 w K (tbox g ga gd gf go VT VD:: .map gd (y0z (nmap ks)):: .row 43 17 VD ks.length xD::M)) (hd:RL K (defL d) cs.toList) (hin:d.name∉ks) (hm:defN d≤9000000) (hk:ks.length≤9000000):
  Calls Tryz.prog 58 #[.pointer (some ⟨g,0,none⟩),.agg cs] w (AddD d ks g ga gd gf go VT xD w0 K M):=by
 obtain ⟨A6,c6,A7,c7,A8,c8,A9,c9,A10,c10,A11,c11,A12,c12,A14,c14,hcs,-⟩:=y0c hd;obtain rfl:cs= #[_,_,_,_,_,_,_,_,_,_,_,_,_,_,_,_,_]:=Qal.1 hcs;have hf:=z2j hin;have hput:=x06 ks d.name hin;obtain ⟨VA,Vc,rfl,-,-⟩:=H.slice (i:=2) rfl;clear hcs;go_enter Tryz.func58,Tryz.ntmps58
 go_upto_region 1 with (first|(refine oL H ?_)|(refine oA 3 H ?_;clear H;intro w g3 H)|(refine oP H ?_;clear H;intro w _ H))
 refine rB [] H ?_;clear H;intro w H;refine rT 0 H ?_;refine rT 1 H ?_;refine rT 2 H ?_;refine rT 3 H ?_;refine rT 4 H ?_;refine rT 5 H ?_;refine rT 6 H ?_ (hd:=dlM Tryz.underlying87 Tryz.underlying9 y0n (by rw [hf]));refine rT 7 H ?_;refine rT 8 H ?_;refine rT 9 H ?_;refine rT 10 H ?_;refine rT 11 H ?_;refine rE ?_
 go_wp2_with fail
 refine rB [11] H ?_;clear H;intro w H;refine rT 0 H ?_;refine rT 1 H ?_;refine rT 2 H ?_;refine rT 3 H ?_;refine rT 4 H ?_;refine rT 5 H ?_;refine rT 6 H ?_;refine rT 7 H ?_;refine rT 8 H ?_;refine rT 9 H ?_;refine rT 10 H ?_;refine rL 11 H ?_ (hd:=dsM Tryz.underlying87 Tryz.underlying9 hput);clear H;intro w _ H;refine rE ?_
 go_wp2_with fail
 refine rN [.box g3 _ _,.box g _ _] [11] H ?_;clear H;intro w H;refine rT 0 H ?_;refine rT 1 H ?_;refine rT 2 H ?_;refine rT 3 H ?_;refine rT 4 H ?_;refine rT 5 H ?_;refine rC 6 (y4g d _ H hm hd) ?_;clear H;rintro e w ⟨K5,cs5,rfl,hle,H,he⟩;have ho:=he.one;obtain ⟨B6,e6,B7,e7,B8,e8,B9,e9,B10,e10,B11,e11,B12,e12,B14,e14,hcs,-⟩:=y0c he;obtain rfl:cs5= #[_,_,_,_,_,_,_,_,_,_,_,_,_,_,_,_,_]:=Qal.1 hcs;clear hcs;refine rX H ?_;refine rW 7 H ?_;clear H;intro w g7 H;refine rA 8 H ?_ (h1:=ho);clear H;intro A8 c8 w _ _ H;dsimp only [List.set] at H;refine rT 9 H ?_;refine rT 10 H ?_;refine rL 11 H ?_;clear H;intro w _ H;refine rE ?_
 go_wp2_with fail
 refine o0 ?_;exact ⟨K5,_,_,rfl,hle,H.fin,he⟩
end Go.Proofs.YtbpgkkoeehopjaaGreat.hp
namespace Go.Proofs.YtbpgkkoeehopjaaGreat.hp
open Go.RowKit words enc tree gram lex rd dec dat held
section
variable {κ : Type} [DecidableEq κ]
def y0o (kv:κ→Value) (l:List (κ×Value)):List (Value×Value):=l.map fun p=>(kv p.1,p.2)
def y0r (l:List (κ×Value)) (x:κ):Option Value:=(l.find? (fun p=>decide (p.1=x))).map (·.2)
def kidx (l:List (κ×Value)) (x:κ):Option Nat:=l.findIdx? (fun p=>decide (p.1=x))
def kput:List (κ×Value)→κ→Value→List (κ×Value)
 |[],x,v=>[(x,v)]
 |p::r,x,v=>if p.1=x then (x,v)::r else p::kput r x v
theorem z1f {l:List (κ×Value)} {x:κ} {v:Value} (h:y0r l x=none):kput l x v=l++[(x,v)]:=by
 induction l with
 |nil=>rfl
 |cons p r ih=>
  by_cases hp:p.1=x
  ·simp [y0r,hp] at h
  ·have:y0r r x=none:=by simpa [y0r,hp] using h
   rw [kput,if_neg hp,ih this];rfl
structure Keys (P:Program) (kt:TypeId) (kv:κ→Value):Prop where
 find: ∀(w:World) (x:κ) (l:List (κ×Value)),(Instr.findKey kt (kv x) (y2c (y0o kv l))).run P w= .ok ((kidx l x).bind fun k=>(l[k]?).map fun p=>(k,p.2)) w
 check: ∀(w:World) (e:Bool) (x:κ),(Instr.checkKey e 10000 kt (kv x)).run P w= .ok () w
 stays: ∀(x:κ),Instr.sameBits 10000 (kv x) (kv x)=true
section
variable {P : Program} {w : World} {b t kt et : Nat} {l : List (κ × Value)} {kv : κ → Value}
theorem z7a (x:κ): ∀l:List (κ×Value),((kidx l x).bind fun k=>(l[k]?).map fun p=>(k,p.2)).map (·.2)=y0r l x
 |[]=>rfl
 |p::r=>by
  by_cases h:p.1=x
  ·simp [kidx,List.findIdx?_cons,h,y0r]
  ·have:=z7a x r;simp only [kidx,y0r,List.find?_cons,List.findIdx?_cons,h,decide_false,if_false,Bool.false_eq_true] at this ⊢;rw [←this]
   cases hq:r.findIdx? (fun p=>decide (p.1=x)) with
   |none=>simp
   |some k=>simp [Function.comp_def]
theorem y01 (ht:P.underlying t=some (.map kt et)) (hk:Keys P kt kv) (z:Value) (hz:(zeroValue et).run P w= .ok z w) (hb:w.heap[b]?=some (mobj (y0o kv l))) (x:κ) (ok:Bool):
  (Instr.lookup t (.map (some b)) (kv x) ok).run P w= .ok (if ok then .tuple #[(y0r l x).getD z,.bool (y0r l x).isSome] else (y0r l x).getD z) w:=by
 have hf:=hk.find w x l;have hi:=z7a x l;unfold Instr.lookup;simp only [Sem.run_bind,run_underlying ht w,Result.andThen_ok,z1e hb,Sem.run_pure,hk.check,hf]
 cases hq:((kidx l x).bind fun k=>(l[k]?).map fun p=>(k,p.2)) with
 |none=>
  rw [hq] at hi;have hi:y0r l x=none:=hi.symm;simp [hi,hz,Sem.run_bind]
 |some p=>
  rw [hq] at hi;have hi:y0r l x=some p.2:=hi.symm;simp [hi,Sem.run_bind]
theorem x07 (x:κ) (v:Value): ∀(l:List (κ×Value)),match kidx l x with
  |none=>kput l x v=l++[(x,v)]
  |some k=>k<l.length∧kput l x v=l.set k (x,v)∧(l[k]?).map (·.1)=some x
 |[]=>rfl
 |p::r=>by
  by_cases h:p.1=x
  ·simp [kidx,List.findIdx?_cons,h,kput]
  ·have ih:=x07 x v r;simp only [kidx,List.findIdx?_cons,h,decide_false,Bool.false_eq_true,if_false,kput] at ih ⊢
   cases hq:r.findIdx? (fun p=>decide (p.1=x)) with
   |none=>rw [hq] at ih;simp only [Option.map_none] at ih ⊢;simp [ih]
   |some k=>rw [hq] at ih;simp only [Option.map_some] at ih ⊢;exact ⟨by simpa using ih.1,by rw [ih.2.1];rfl,by simpa using ih.2.2⟩
omit [DecidableEq κ] in
theorem x3h (l:List (κ×Value)) (k:Nat) (hk:k<l.length) (p:κ×Value):y2c (y0o kv (l.set k p))=(y2c (y0o kv l)).modify k fun e=>{e with key:=kv p.1,val:=p.2}:=by
 apply Qby;intro j;simp only [y2c,y0o,Qbz,List.getElem?_zipIdx,List.getElem?_modify,List.getElem?_set,List.map_set];by_cases hj:k=j
 ·subst hj;simp [hk]
 ·simp [hj]
theorem z7b (ht:P.underlying t=some (.map kt et)) (hk:Keys P kt kv) (hb:w.heap[b]?=some (mobj (y0o kv l))) (x:κ) (v:Value):
  (Instr.mapUpdate t (.map (some b)) (kv x) v).run P w= .ok () {w with heap:=w.heap.setIfInBounds b (mobj (y0o kv (kput l x v)))}:=by
 have hf:=hk.find w x l;have hi:=x07 x v l;have hs: ∀o',(setObj b o').run P w= .ok () {w with heap:=w.heap.setIfInBounds b o'}:=fun o'=>z4c hb (fun c e f h=>by cases h);unfold Instr.mapUpdate;simp only [Sem.run_bind,run_underlying ht w,Result.andThen_ok,z1e hb,hk.check,hf]
 cases hq:kidx l x with
 |none=>
  rw [hq] at hi;simp only [Option.bind_none];rw [hs,hi];simp [mobj,y0o,y2c,List.zipIdx_append]
 |some k=>
  rw [hq] at hi;obtain ⟨hkl,hsp,hkx⟩:=hi;obtain ⟨p,hp⟩: ∃p,l[k]?=some p:=⟨_,Qad hkl⟩
  have hpx:p.1=x:=by simpa [hp] using hkx
  have hes:((y2c (y0o kv l)).toArray[k]?).map (·.key)=some (kv x):=by simp [y2c,y0o,hp,hpx]
  have hst:(Instr.keyThatStays (kv x) (kv x)).run P w= .ok (kv x) w:=by
   unfold Instr.keyThatStays;rw [if_pos (hk.stays x)];rfl
  simp only [Option.bind_some,hp,Option.map_some,Sem.run_bind,hes,Option.getD_some,hst,Result.andThen_ok,hs];rw [hsp];have:=x3h (kv:=kv) l k hkl (x,v)
  have hob:Obj.map ((y2c (y0o kv l)).toArray.modify k fun e=>{e with key:=kv x,val:=v}) l.length=mobj (y0o kv (l.set k (x,v))):=by
   unfold mobj;rw [this];simp [y0o]
  rw [←hob];simp [y0o]
end
theorem x6y {l:List (κ×Value)} {x:κ} {v:Value} (h:y0r l x=some v):(x,v)∈l:=by
 unfold y0r at h
 cases hq:l.find? (fun p=>decide (p.1=x)) with
 |none=>rw [hq] at h;cases h
 |some p=>
  rw [hq] at h;injection h with h;have h1:=List.find?_some hq;have h2:=List.mem_of_find?_eq_some hq;have h1:p.1=x:=Qa6 h1;obtain ⟨a,c⟩:=p;simp only at h1 h;subst h1 h;exact h2
theorem z4d {l:List (κ×Value)} {x:κ} (h:y0r l x=none): ∀p∈l,p.1≠x:=by
 intro p hp he;unfold y0r at h
 cases hq:l.find? (fun p=>decide (p.1=x)) with
 |none=>rw [List.find?_eq_none] at hq;exact hq p hp (Qa5 he)
 |some p=>rw [hq] at h;cases h
end
abbrev ks (x:Txt):Value:=.string (str x)
abbrev kp (p:Txt×Txt):Value:=.agg #[.string (str p.1),.string (str p.2)]
section
variable {P : Program}
theorem y07 {kt:TypeId} (hk:P.underlying kt=some .string):Keys P kt ks:=by
 refine ⟨fun w x l=>?_,fun w e x=>y7j hk e x,fun x=>by simp [Instr.sameBits,y3o]⟩;have h:=y9k (P:=P) (w:=w) (l:=l) hk x
 have e1:(fun p:Txt×Value=>p.1==x)=fun p=>decide (p.1=x):=by funext p;rw [Bool.eq_iff_iff];simp
 rw [e1] at h;exact h
theorem y5e (a b:Txt):((str a).toList==(str b).toList)=decide (a=b):=by
 rw [←beq_toListBytes,y3o]
theorem z7c {d:TypeDesc} {k:Value} {e:MapEntry} {r:List MapEntry} {i:Nat} (h:Instr.sameNow d k e.key=none):Instr.findNow d k (e::r) i=none:=by
 unfold Instr.findNow;simp only [h]
structure PairT (P:Program) (kt st:TypeId):Prop where
 ht:P.underlying kt=some (.struct (P.fieldsOf kt))
 held:P.stoodInHeld kt=false
 flds:(P.fieldsOf kt).toList.map (fun f=>(f.type,f.offset,f.name== "_"))=[(st,0,false),(st,1,false)]
 hs:P.underlying st=some .string
theorem q3i {kt st:TypeId} (h:PairT P kt st) (w:World) (x y:Txt×Txt):(Op.equal kt (kp x) (kp y)).run P w= .ok (decide (x=y)) w:=by
 obtain ⟨f,g,hfg⟩: ∃f g,(P.fieldsOf kt).toList=[f,g]:=by
  have:=congrArg List.length h.flds;simp only [Qay,List.length_cons,List.length_nil] at this
  match hq:(P.fieldsOf kt).toList,this with
  |[f,g],_=>exact ⟨f,g,rfl⟩
 have hf:=h.flds;rw [hfg] at hf;simp only [List.map_cons,List.map_nil,List.cons.injEq,Prod.mk.injEq,Qa3,ne_eq,and_true] at hf;obtain ⟨⟨f1,f2,f3⟩,⟨g1,g2,g3⟩⟩:=hf
 have hpart: ∀(cs:Array Value) (j:Nat) (v:Value),cs[j]?=some v→(part st cs j).run P w= .ok v w:=by
  intro cs j v hv;unfold part
  have:(isAgg st).run P w= .ok false w:=by
   unfold isAgg;simp [Sem.run_bind,run_underlying h.hs,Result.andThen_ok]
  simp only [Sem.run_bind,this,Result.andThen_ok,Bool.false_eq_true,if_false,hv,Sem.run_pure]
 unfold Op.equal
 show (Op.equalIn (9999+1) kt (kp x) (kp y)).run P w=_
 rw [run_equalIn_struct w 9999 kt _ _ h.ht h.held,hfg];have p0: ∀a b:Value,(part st #[a,b] 0).run P w= .ok a w:=fun a b=>hpart _ 0 _ rfl;have p1: ∀a b:Value,(part st #[a,b] 1).run P w= .ok b w:=fun a b=>hpart _ 1 _ rfl;simp only [Op.eqFields,f1,f2,f3,g1,g2,g3,ne_eq,not_false_eq_true,if_true,Sem.run_bind,p0,p1,Result.andThen_ok,run_equalIn_string w 9998 st _ _ h.hs,y5e];obtain ⟨a,c⟩:=x;obtain ⟨a',c'⟩:=y;by_cases h1:a=a'
 ·by_cases h2:c=c'
  ·simp [h1,h2,Sem.run_pure,Sem.run_bind,p1,run_equalIn_string w 9998 st _ _ h.hs,y5e]
  ·simp [h1,h2,Sem.run_pure,Sem.run_bind,p1,run_equalIn_string w 9998 st _ _ h.hs,y5e]
 ·simp [h1,Sem.run_pure]
theorem x6z {kt st:TypeId} (h:PairT P kt st):Keys P kt kp:=by
 have hask: ∀(w:World) (x:Txt×Txt) (l:List ((Txt×Txt)×Value)) (j i:Nat),(Instr.findAsking kt (kp x) (((y0o kp l).zipIdx j).map fun p=>({key:=p.1.1,val:=p.1.2,born:=p.2}:MapEntry)) i).run P w= .ok ((kidx l x).bind fun k=>(l[k]?).map fun p=>(i+k,p.2)) w:=by
  intro w x l
  induction l with
  |nil=>intro j i;rfl
  |cons p r ih=>
   intro j i;simp only [y0o,List.map_cons,List.zipIdx_cons,Instr.findAsking,Sem.run_bind,q3i h,Result.andThen_ok];by_cases hx:p.1=x
   ·simp [kidx,List.findIdx?_cons,hx,Sem.run_pure]
   ·have hx': ¬x=p.1:=fun e=>hx e.symm;have:=ih (j+1) (i+1);simp only [y0o] at this;simp only [hx',decide_false,Bool.false_eq_true,if_false,this,kidx,List.findIdx?_cons,hx]
    cases hq:r.findIdx? (fun p=>decide (p.1=x)) with
    |none=>simp
    |some k=>simp [Nat.add_comm,Nat.add_left_comm,Nat.add_assoc]
 refine ⟨fun w x l=>?_,fun w e x=>?_,fun x=>by simp [Instr.sameBits,kp,y3o]⟩
 ·have ha:=hask w x l 0 0;unfold Instr.findKey y2c;rw [Sem.run_bind,run_underlying h.ht w];simp only [Result.andThen_ok]
  cases l with
  |nil=>rfl
  |cons p r=>
   have hn:Instr.findNow (.struct (P.fieldsOf kt)) (kp x) (((y0o kp (p::r)).zipIdx 0).map fun p=>({key:=p.1.1,val:=p.1.2,born:=p.2}:MapEntry)) 0=none:=by
    simp only [y0o,List.map_cons,List.zipIdx_cons];exact z7c rfl
   simp only [Nat.zero_add] at ha;rw [hn];exact ha
 ·obtain ⟨f,g,hfg⟩: ∃f g,(P.fieldsOf kt).toList=[f,g]:=by
   have:=congrArg List.length h.flds;simp only [Qay,List.length_cons,List.length_nil] at this
   match hq:(P.fieldsOf kt).toList,this with
   |[f,g],_=>exact ⟨f,g,rfl⟩
  have hf:=h.flds;rw [hfg] at hf;simp only [List.map_cons,List.map_nil,List.cons.injEq,Prod.mk.injEq,Qa3,ne_eq,and_true] at hf;obtain ⟨⟨f1,f2,f3⟩,⟨g1,g2,g3⟩⟩:=hf
  have hpart: ∀(cs:Array Value) (j:Nat) (v:Value),cs[j]?=some v→(part st cs j).run P w= .ok v w:=by
   intro cs j v hv;unfold part
   have:(isAgg st).run P w= .ok false w:=by
    unfold isAgg;simp [Sem.run_bind,run_underlying h.hs,Result.andThen_ok]
   simp only [Sem.run_bind,this,Result.andThen_ok,Bool.false_eq_true,if_false,hv,Sem.run_pure]
  have hck: ∀(n:Nat) (v:ByteArray),(Instr.checkKey e (n+1) st (.string v)).run P w= .ok () w:=by
   intro n v;unfold Instr.checkKey;rw [Sem.run_bind,run_underlying h.hs w];rfl
  show (Instr.checkKey e (9999+1) kt (kp x)).run P w=_
  unfold Instr.checkKey;rw [Sem.run_bind,run_underlying h.ht w];simp only [Result.andThen_ok,kp];rw [←Array.forIn_toList,hfg];have p0: ∀a b:Value,(part st #[a,b] 0).run P w= .ok a w:=fun a b=>hpart _ 0 _ rfl;have p1: ∀a b:Value,(part st #[a,b] 1).run P w= .ok b w:=fun a b=>hpart _ 1 _ rfl;simp [f1,f2,f3,g1,g2,g3,Sem.run_bind,p0,p1,hck 9998,Sem.run_pure]
end
theorem q3j:PairT Tryz.prog 125 9:=⟨by kernel_rfl,by kernel_rfl,by kernel_rfl,Tryz.underlying9⟩
def Kb (K:World) (g:Nat) (cs:List Value) (t:TypeId):Prop:=K.heap[g]?=some (.cells cs.toArray t (0,0))
def Km (K:World) (b:Nat) (l:List (Value×Value)):Prop:=K.heap[b]?=some (mobj l)
section
variable {P : Program} {w0 w K K' : World} {M : List Ent} {ops : Array Oper} {rest : List Oper} {o : Oper} {a : Act} {Q : Exit → Act → World → Prop} {i b t kt et : Nat}
theorem Kb.sat {g:Nat} {cs:List Value} {t:TypeId} (h:Kb K g cs t) (hs:Sat w K):Kb w g cs t:=hs.blk _ _ h x0t
theorem Km.sat {l:List (Value×Value)} (h:Km K b l) (hs:Sat w K):Km w b l:=hs.blk _ _ h (fun e=>by cases e)
theorem Kb.cell {g j:Nat} {cs:List Value} {t:TypeId} {v:Value} (h:Kb w g cs t) (hj:cs[j]?=some v):w.cell? ⟨g,j,none⟩=some v:=by
 have h:w.heap[g]?=some (.cells cs.toArray t (0,0)):=h;unfold World.cell?;simp only [h,Option.isSome_none,Bool.false_eq_true,if_false];simpa using hj
theorem Hp.kcell (H:Hp w0 w K M) {g j:Nat} {cs:List Value} {t:TypeId} {v:Value} (h:Kb K g cs t) (hj:cs[j]?=some v):w.cell? ⟨g,j,none⟩=some v:=(h.sat H.sat).cell hj
theorem Hp.kmap (H:Hp w0 w K M) {l:List (Value×Value)} (h:Km K b l):w.heap[b]?=some (mobj l):=h.sat H.sat
theorem Hp.freezeKb {g:Nat} {cs:List Value} {t:TypeId} (H:Hp w0 w K (.box g cs t::M)): ∃K',Sat K' K∧Hp w0 w K' M∧Kb K' g cs t:=by
 obtain ⟨K',h1,h2,h3,h4⟩:=H.freeze;exact ⟨K',h1,h2,(h3 g rfl).trans (H.blkAt (i:=0) rfl)⟩
theorem Hp.freezeKm {l:List (Value×Value)} (H:Hp w0 w K (.map b l::M)): ∃K',Sat K' K∧Hp w0 w K' M∧Km K' b l:=by
 obtain ⟨K',h1,h2,h3,h4⟩:=H.freeze;exact ⟨K',h1,h2,(h3 b rfl).trans (H.mapAt (i:=0) rfl)⟩
section
variable {κ : Type} [DecidableEq κ] {kv : κ → Value}
theorem y08 (hgd:o.guard=none) (m x:Operand) (t:TypeId) (c:Bool) (ho:o.op= .lookup t m x c) (ht:P.underlying t=some (.map kt et)) (hk:Keys P kt kv) (z:Value) (hz: ∀w,(zeroValue et).run P w= .ok z w)
  (b:Nat) (l:List (κ×Value)) (hb:w.heap[b]?=some (mobj (y0o kv l))) (hm:a.eval m= .map (some b)) (k:κ) (hx:a.eval x=kv k) (r:Value) (hr:(if c then .tuple #[(y0r l k).getD z,.bool (y0r l k).isSome] else (y0r l k).getD z)=r)
  (h:wpList P ops Q rest (a.put o.dst r) w):wpList P ops Q (o::rest) a w:=by
 refine wpList_plain hgd fun _ hK=>?_;have hrun:=y01 (w:=w) ht hk z (hz w) hb k c;rw [hr] at hrun;unfold Oper.wp execOp;simp only [ho,hm,hx,Sem.run_bind,hrun,Result.andThen_ok,Sem.run_pure];exact hK _ _ h
theorem y7k (hgd:o.guard=none) (m x y:Operand) (t:TypeId) (ho:o.op= .mapUpdate t m x y) (ht:P.underlying t=some (.map kt et)) (hk:Keys P kt kv)
  (H:Hp w0 w K M) (i:Nat) (b:Nat) (l:List (κ×Value)) (hi:M[i]?=some (.map b (y0o kv l))) (hm:a.eval m= .map (some b)) (k:κ) (hx:a.eval x=kv k) (v:Value) (hy:a.eval y=v) (l':List (κ×Value)) (hl:kput l k v=l')
  (h: ∀w',Hp w0 w' K (M.set i (.map b (y0o kv l')))→wpList P ops Q rest (a.put o.dst undef) w'):wpList P ops Q (o::rest) a w:=by
 refine wpList_plain hgd fun _ hK=>?_;have hrun:=z7b (w:=w) ht hk (H.mapAt hi) k v;rw [hl] at hrun;unfold Oper.wp execOp;simp only [ho,hm,hx,hy,Sem.run_bind,hrun,Result.andThen_ok,Sem.run_pure];exact hK _ _ (h _ (H.mapSet hi _))
end
theorem y3i (hgd:o.guard=none) (t:TypeId) (ho:o.op= .makeMap t none) (dst:Option Tmp) (hdst:o.dst=dst) (H:Hp w0 w K M)
  (h: ∀w' b,Hp w0 w' K (.map b []::M)→wpList P ops Q rest (a.put dst (.map (some b))) w'):wpList P ops Q (o::rest) a w:=by
 subst hdst;refine wpList_plain hgd fun _ hK=>?_
 have hrun:(Instr.makeMap t none).run P w= .ok (.map (some w.heap.size)) (w.alloc (.map #[] 0)):=by
  simp [Instr.makeMap,newObj];rfl
 unfold Oper.wp execOp;simp only [ho,Sem.run_bind,hrun,Result.andThen_ok,Sem.run_pure];exact hK _ _ (h _ _ H.allocMap)
end
section
variable {P : Program} {w0 w w' K K' : World} {M : List Ent} {ops : Array Oper} {rest : List Oper} {o : Oper} {a : Act} {Q : Exit → Act → World → Prop} {i : Nat}
theorem y2s (g j:Nat):(⟨g,0,none⟩:Addr).add j=⟨g,j,none⟩:=by unfold Addr.add;split<;>simp_all
theorem Hp.rowAt (H:Hp w0 w K M) {e:TypeId} {m n:Nat} {v:Value} {vs:List Value} (hi:M[i]?=some (.row e m v n vs)) (hne:0<n):
  ∃g c,v= .slice (some ⟨g,0,none⟩) n c∧n≤c∧c≤maxLen∧vs.length=n*m:=by
 have ho:w.ownsRow 0 e m v n vs:=H.ok _ (Qaf hi);rcases ho.2 with ⟨_,h⟩|⟨g,c,cur,rfl,_,hb,h1,h2,h3,h4⟩
 ·omega
 ·exact ⟨g,c,rfl,h1,h2,ho.1⟩
theorem Hp.rowCell (H:Hp w0 w K M) {e:TypeId} {m n g c:Nat} {vs:List Value} (hi:M[i]?=some (.row e m (.slice (some ⟨g,0,none⟩) n c) n vs)) {j:Nat} {u:Value} (hu:vs[j]?=some u):w.cell? ⟨g,j,none⟩=some u:=by
 have ho:w.ownsRow 0 e m _ n vs:=H.ok _ (Qaf hi);have:=World.ownsRow.cells ho (g:=g) rfl j u hu;rwa [y2s] at this
theorem Hp.rowFrozen (H:Hp w0 w K M) {e:TypeId} {m n g c:Nat} {vs:List Value} (hi:M[i]?=some (.row e m (.slice (some ⟨g,0,none⟩) n c) n vs)) (j:Nat):w.frozen? ⟨g,j,none⟩=false:=by
 have ho:w.ownsRow 0 e m _ n vs:=H.ok _ (Qaf hi);rcases ho.2 with ⟨h,_⟩|⟨g',c',cur,he,_,hb,_⟩
 ·cases h
 ·injection he with e1 _ e3;injection e1 with e1;injection e1 with e1;subst e1;exact frozen_of_row w _ j _ _ hb
theorem x60 {vs us:List Value} {j:Nat} (hj:j+us.length≤vs.length):(vs.take j++us++vs.drop (j+us.length)).length=vs.length:=by
 simp only [Qae,Qau,Qav];omega
theorem Hp.rowSet (H:Hp w0 w K M) {e:TypeId} {m n g c:Nat} {vs us:List Value} (hi:M[i]?=some (.row e m (.slice (some ⟨g,0,none⟩) n c) n vs)) (j:Nat) (hj:j+us.length≤vs.length):
  Hp w0 (w.setCells g j us) K (M.set i (.row e m (.slice (some ⟨g,0,none⟩) n c) n (vs.take j++us++vs.drop (j+us.length)))):=by
 refine H.setAt hi y76 ?_ (.inl rfl);have ho:w.ownsRow 0 e m _ n vs:=H.ok _ (Qaf hi);refine ⟨(x60 hj).trans ho.1,?_⟩;rcases ho.2 with ⟨h,_⟩|⟨g',c',cur,he,hb0,hb,h1,h2,h3,h4⟩
 ·cases h
 ·injection he with e1 _ e3;injection e1 with e1;injection e1 with e1;subst e1 e3
  have hpost:cur.toList=vs++cur.toList.drop (n*m):=by rw [←h4,List.take_append_drop]
  generalize cur.toList.drop (n*m)=post at hpost
  have hvs:vs=vs.take j++(vs.drop j).take us.length++vs.drop (j+us.length):=by
   rw [Qat,←List.drop_drop,List.take_append_drop,List.take_append_drop]
  have hcur:cur=(vs.take j++(vs.drop j).take us.length++(vs.drop (j+us.length)++post)).toArray:=by
   apply Qal.1;rw [hpost]
   show vs++post=vs.take j++(vs.drop j).take us.length++(vs.drop (j+us.length)++post)
   rw [←Qat,←hvs]
  rw [hcur] at hb;have h5:=z86 (us:=us) (i:=j) hb (by simp;omega) (by simp;omega);have hl:(vs.take j++us++vs.drop (j+us.length)).length=n*m:=(x60 hj).trans ho.1;refine .inr ⟨g,c,_,rfl,hb0,by rw [y5v];exact h5,h1,h2,?_,?_⟩
  ·have:=congrArg List.length hpost;simp only [Array.length_toList,Qae] at this
   have hl2:(vs.take j++us++(vs.drop (j+us.length)++post)).length=n*m+post.length:=by rw [←Qat,Qae,hl]
   simp only [List.size_toArray,hl2];rw [ho.1] at this;omega
  ·show ((vs.take j++us++(vs.drop (j+us.length)++post))).take (n*m)=_
   rw [←Qat,List.take_append_of_le_length (by omega),Qaj (by omega)]
theorem z7d {Kc:Act→World→Prop} (ty:TypeId) (x y:Operand) (ho:o.op= .store ty x y) (g j:Nat) (hx:a.eval x= .pointer (some ⟨g,j,none⟩)) (v:Value) (hy:a.eval y=v) (us:List Value) (hv:v.cells=us.toArray)
  (hone: ∀u∈us,u.oneCell'=true) (hsz:(P.info? ty).map (·.size)=some us.length) (H:Hp w0 w K M) (i:Nat) (e:TypeId) (m n c:Nat) (vs vs':List Value) (hi:M[i]?=some (.row e m (.slice (some ⟨g,0,none⟩) n c) n vs)) (hj:j+us.length≤vs.length) (hn:vs.take j++us++vs.drop (j+us.length)=vs')
  (h: ∀w',Hp w0 w' K (M.set i (.row e m (.slice (some ⟨g,0,none⟩) n c) n vs'))→Kc (a.put o.dst undef) w'):Oper.wp P o a w Kc Q:=by
 have hrun:(storeVar ty ⟨g,j,none⟩ v).run P w= .ok () (w.setCells g j us):=by
  have:=run_storeCells_cells (P:=P) g j us 0 w (fun k hk=>by
    have hk':j+k<vs.length:=by omega
    rw [Nat.add_zero,H.rowCell hi (Qad hk')];rfl) (fun k hk=>H.rowFrozen hi _) hone
  cases hq:P.info? ty with
  |none=>simp [hq] at hsz
  |some ti=>
   have hs:us.length=ti.size:=by simp [hq] at hsz;omega
   simp only [Nat.add_zero] at this;simp [storeVar,sizeOf,typeInfo,hq,hv,hs,this]
 unfold Oper.wp execOp;simp only [ho,hx,hy,Instr.storeAt,Instr.sureAddr,Sem.run_bind,Sem.run_pure,Result.andThen_ok,hrun];have:=H.rowSet hi j hj;rw [hn] at this;exact h _ this
theorem y98 {E:Prop} {Kc:Act→World→Prop} (hgd:o.guard=none) (ty:TypeId) (x y:Operand) (ho:o.op= .store ty x y) (g j:Nat) (hx:a.eval x= .pointer (some ⟨g,j,none⟩)) (v:Value) (hy:a.eval y=v) (us:List Value) (hv:v.cells=us.toArray)
  (hone: ∀u∈us,u.oneCell'=true) (hsz:(P.info? ty).map (·.size)=some us.length) (H:Hp w0 w K M) (i:Nat) (e:TypeId) (m n c:Nat) (vs vs':List Value) (hi:M[i]?=some (.row e m (.slice (some ⟨g,0,none⟩) n c) n vs)) (hj:j+us.length≤vs.length) (hn:vs.take j++us++vs.drop (j+us.length)=vs')
  (h: ∀w',Hp w0 w' K (M.set i (.row e m (.slice (some ⟨g,0,none⟩) n c) n vs'))→Kc (a.put o.dst undef) w'):if Region.wanted o (yielded ops a.tmps)=true then Oper.wp P o a w Kc Q else E:=by
 have hw:Region.wanted o (yielded ops a.tmps)=true:=by simp [Region.wanted,hgd]
 rw [if_pos hw];exact z7d ty x y ho g j hx v hy us hv hone hsz H i e m n c vs vs' hi hj hn h
end
def y09 (TS:List (DefD×DV)):List Ent:=TS.flatMap fun p=>DV.rows p.1 p.2
def y03 (TS:List (DefD×DV)):List Value:=TS.flatMap fun p=>DV.cells p.1 p.2
def tok (K:World) (TS:List (DefD×DV)):Prop:=∀p∈TS,p.2.ok K p.1
section
variable {w0 w w' K K' : World} {M : List Ent}
theorem tok.sat {TS:List (DefD×DV)} (h:tok K TS) (hs:Sat K' K):tok K' TS:=fun p hp=>(h p hp).sat hs
theorem y99: ∀(TS:List (DefD×DV)),(y03 TS).length=TS.length*17
 |[]=>rfl
 |p::r=>by
  have h:y03 (p::r)=DV.cells p.1 p.2++y03 r:=by simp [y03]
  have h2:(DV.cells p.1 p.2).length=17:=rfl;rw [h,Qae,y99 r,h2,List.length_cons];omega
theorem z0a (A B:List (DefD×DV)):y03 (A++B)=y03 A++y03 B:=by simp [y03]
theorem z7e (A B:List (DefD×DV)):y09 (A++B)=y09 A++y09 B:=by simp [y09]
theorem Hp.freezeDef {d:DefD} {V:DV} (H:Hp w0 w K (DV.rows d V++M)) (hV:V.ok K d): ∃K',Sat K' K∧Hp w0 w K' M∧RL K' (defL d) (DV.cells d V):=by
 obtain ⟨K1,s1,H,f8⟩:=H.freezeRow hV.r8;replace hV:=hV.sat s1;obtain ⟨K2,s2,H,f11⟩:=H.freezeRow hV.r11;replace hV:=hV.sat s2;replace f8:=f8.sat s2;obtain ⟨K3,s3,H,f6⟩:=H.freezeRow hV.r6;replace hV:=hV.sat s3;replace f8:=f8.sat s3;replace f11:=f11.sat s3;obtain ⟨K4,s4,H,f10⟩:=H.freezeRow hV.r10;replace hV:=hV.sat s4;replace f8:=f8.sat s4;replace f11:=f11.sat s4;replace f6:=f6.sat s4;obtain ⟨K5,s5,H,f14⟩:=H.freezeRow hV.r14;replace hV:=hV.sat s5;replace f8:=f8.sat s5;replace f11:=f11.sat s5;replace f6:=f6.sat s5;replace f10:=f10.sat s5;obtain ⟨K6,s6,H,f12⟩:=H.freezeRow hV.r12;replace hV:=hV.sat s6;replace f8:=f8.sat s6;replace f11:=f11.sat s6;replace f6:=f6.sat s6;replace f10:=f10.sat s6;replace f14:=f14.sat s6;obtain ⟨K7,s7,H,f9⟩:=H.freezeRow hV.r9;replace hV:=hV.sat s7;replace f8:=f8.sat s7;replace f11:=f11.sat s7;replace f6:=f6.sat s7;replace f10:=f10.sat s7;replace f14:=f14.sat s7;replace f12:=f12.sat s7;obtain ⟨K8,s8,H,f7⟩:=H.freezeRow hV.r7;replace f8:=f8.sat s8;replace f11:=f11.sat s8;replace f6:=f6.sat s8;replace f10:=f10.sat s8;replace f14:=f14.sat s8;replace f12:=f12.sat s8;replace f9:=f9.sat s8
 exact ⟨K8,s8.trans (s7.trans (s6.trans (s5.trans (s4.trans (s3.trans (s2.trans s1)))))),H,by
  unfold defL DV.cells
  exact .lit (.lit (.lit (.lit (.lit (.lit (.cons f6 (.cons f7 (.cons f8 (.cons f9 (.cons f10 (.cons f11 (.cons f12 (.lit (.cons f14 (.lit (.lit RL.z))))))))))))))))⟩
theorem Hp.freezeDefs: ∀{TS:List (DefD×DV)} {K:World},Hp w0 w K (y09 TS++M)→tok K TS→ ∃K',Sat K' K∧Hp w0 w K' M∧RL K' (y0s (TS.map (·.1))) (y03 TS)
 |[],K,H,_=>⟨K,Sat.refl K,H,RL.z⟩
 |p::TS,K,H,hok=>by
  have H:Hp w0 w K (DV.rows p.1 p.2++(y09 TS++M)):=by
   have:y09 (p::TS)++M=DV.rows p.1 p.2++(y09 TS++M):=by simp [y09]
   rw [←this];exact H
  obtain ⟨K1,s1,H,h1⟩:=H.freezeDef (hok p (Qaz ..));obtain ⟨K2,s2,H,h2⟩:=Hp.freezeDefs (TS:=TS) H (fun q hq=>(hok q (Qa2 _ hq)).sat s1);exact ⟨K2,s2.trans s1,H,(h1.sat s2).app h2⟩
end
end Go.Proofs.YtbpgkkoeehopjaaGreat.hp
namespace Go.Proofs.YtbpgkkoeehopjaaGreat.ty
open Go.RowKit lex gram dat hp
abbrev y0a (l:List DefD):List Txt:=l.map (·.name)
def addD (l:List DefD) (d:DefD):List DefD:=if d.name∈y0a l then l else l++[d]
abbrev IsTy (d:DefD):Prop:=2≤d.kind∧d.kind≤7∧d.ext=false
def step1 (p:List DefD×List DefD) (d:DefD):List DefD×List DefD:=
 if d.kind=8 then (p.1,if d.name∈y0a givenDirsD then p.2 else addD p.2 d)
 else if IsTy d then (if d.name∈y0a givenT then p.1 else addD p.1 d,p.2) else p
def y1u (l:List DefD) (x:Txt):Option Nat:=(y0a l).findIdx? (· ==x)
def step2 (l:List DefD) (d:DefD):List DefD:=
 match y1u l d.name with
 |none=>l
 |some i=>match l[i]? with
  |none=>l
  |some e=>if d.ext=true∧d.kind=e.kind∧d.kind≠1∧d.name∉y0a givenT then l.set i (y1k e d) else l
def bare (defs:List DefD):List DefD×List DefD:=defs.foldl step1 ([],[])
def y2j (defs:List DefD):List DefD:=givenT.foldl addD (bare defs).1
def y21 (defs:List DefD):List DefD:=givenDirsD.foldl addD (bare defs).2
def y0i (defs:List DefD):List DefD:=defs.foldl step2 (y2j defs)
def y0e (l:List DefD) (x:Txt):Int:=(((y1u l x).bind fun i=>l[i]?).map (·.kind)).getD 0
def y5f:DefD:={kind:=1,ext:=false,note:=y6r,name:=[],ifaces:=[],dirs:=[],fields:=[],inputs:=[],members:=[],values:=[],roots:=[],rep:=false,places:=[],line:=0,col:=0}
def y34:Txt:=[81,117,101,114,121]
def x61:Txt:=[77,117,116,97,116,105,111,110]
def z5q:Txt:=[83,117,98,115,99,114,105,112,116,105,111,110]
def rootN:List Txt:=[y34,x61,z5q]
def y8p (ts:List DefD):List RootD:=(rootN.zipIdx.filter fun p=>y0e ts p.1==3).map fun p=>⟨1+(p.2:Int),p.1,0,0⟩
def y2k (d:DefD):Bool:=d.kind==1&& !d.ext
def y44 (s d:DefD):DefD:=if d.kind=1∧d.ext=true then {s with dirs:=s.dirs++d.dirs,roots:=s.roots++d.roots} else s
def y2b (defs ts:List DefD):DefD:=
 match defs.find? y2k with
 |none=>{y5f with roots:=y8p ts}
 |some d=>defs.foldl y44 d
abbrev FMap:=List ((Txt×Txt)×Value)
def addF (m:FMap) (t f:Txt) (k:Nat):FMap:=if (y0r m (t,f)).isSome then m else m++[((t,f),.int .i64 (k:Int))]
def x3i (m:FMap) (d:DefD):FMap:=d.fields.zipIdx.foldl (fun m p=>addF m d.name p.1.name p.2) m
def fieldsOf (ts:List DefD):FMap:=ts.foldl x3i []
abbrev OMap:=List (Txt×List (Txt×Value))
def y1e (s:List (Txt×Value)) (x:Txt) (n:Nat):List (Txt×Value):=if (y0r s x).isSome then s else s++[(x,.int .i64 (n:Int))]
def addO:OMap→Txt→Txt→Nat→OMap
 |[],t,x,n=>[(t,[(x,.int .i64 (n:Int))])]
 |p::r,t,x,n=>if p.1=t then (t,y1e p.2 x n)::r else p::addO r t x n
def y33 (ts:List DefD) (m:OMap) (p:DefD×Nat):OMap:=
 if p.1.kind=3 then p.1.ifaces.foldl (fun m n=>if y0e ts n.name=4 then addO m n.name p.1.name p.2 else m) (addO m p.1.name p.1.name p.2)
 else if p.1.kind=5 then p.1.members.zipIdx.foldl (fun m q=>if y0e ts q.1.name=3 then addO m p.1.name q.1.name q.2 else m) m
 else m
def y1z (ts:List DefD):OMap:=ts.zipIdx.foldl (y33 ts) []
theorem z4e {l:List DefD} {i:Nat} {e e':DefD} (h:l[i]?=some e) (hn:e'.name=e.name):y0a (l.set i e')=y0a l:=by
 apply Qby;intro j;simp only [y0a,Qbz,List.getElem?_set];by_cases hj:i=j
 ·subst hj;have hlt:=(Qac.1 h).1;rw [if_pos rfl,if_pos hlt,h];simp [hn]
 ·rw [if_neg hj]
theorem y7l {l:List DefD} {d:DefD} (h:(y0a l).Nodup):(y0a (addD l d)).Nodup:=by
 unfold addD;split
 ·exact h
 ·rename_i hn;simp only [y0a,Qas,List.map_cons,List.map_nil];rw [Qbr];refine ⟨h,by simp,?_⟩;intro a ha b hb he;simp only [Qax] at hb;subst hb he;exact hn ha
theorem y1o {l:List DefD} {x:Txt} {i:Nat} (h:y1u l x=some i): ∃d,l[i]?=some d∧d.name=x:=by
 unfold y1u at h;rw [Qbs] at h;obtain ⟨hi,h1,_⟩:=h
 have hi':i<l.length:=by simpa using hi
 exact ⟨l[i],Qad hi',by simpa using h1⟩
theorem y7m {l:List DefD} {x:Txt} (h:y1u l x=none):x∉y0a l:=by
 unfold y1u at h;rw [List.findIdx?_eq_none_iff] at h;intro hx;have:=h x hx;simp at this
theorem z9f {l:List DefD} {d:DefD}:y0a (step2 l d)=y0a l:=by
 unfold step2;split
 ·rfl
 ·split
  ·rfl
  ·split
   ·rename_i he _;exact z4e he rfl
   ·rfl
theorem x62 {α:Type} {f:α→Nat}: ∀{l:List α} {i:Nat} {e:α} (e':α),l[i]?=some e→sumN f (l.set i e')+f e=sumN f l+f e'
 |[],i,e,e',h=>by simp at h
 |x::r,0,e,e',h=>by simp only [List.getElem?_cons_zero] at h;injection h with h;subst h;simp only [List.set_cons_zero,sumN];omega
 |x::r,i+1,e,e',h=>by simp only [List.getElem?_cons_succ] at h;have:=x62 (f:=f) e' h;simp only [List.set_cons_succ,sumN];omega
theorem z5r {α:Type} {f:α→Nat} (l:List α) (k:Nat):sumN f (l.take k)≤sumN f l:=by
 have:=y8m (f:=f) (l.take k) (l.drop k);rw [List.take_append_drop] at this;omega
theorem q0u (e d:DefD):defN (y1k e d)≤defN e+defN d:=by
 simp only [defN,y1k,y8m,Qae];omega
theorem z01 (l:List DefD) (d:DefD):y0k (addD l d)≤y0k l+defN d:=by
 unfold addD;split
 ·omega
 ·unfold y0k;rw [y8m];simp only [sumN];omega
theorem x63 (l:List DefD) (d:DefD):y0k (step2 l d)≤y0k l+defN d:=by
 unfold step2;split
 ·omega
 ·split
  ·omega
  ·split
   ·rename_i e he _;have h1:=x62 (f:=defN) (y1k e d) he;have h2:=q0u e d;unfold y0k;omega
   ·omega
theorem y8q {f:List DefD→DefD→List DefD} (h: ∀l d,y0k (f l d)≤y0k l+defN d): ∀(l s:List DefD),y0k (l.foldl f s)≤y0k s+y0k l
 |[],s=>by simp [y0k,sumN]
 |d::r,s=>by
  have h1:=y8q h r (f s d);have h2:=h s d;simp only [List.foldl_cons,y0k,sumN] at h1 h2 ⊢;omega
theorem z7f: ∀(l:List DefD) (p:List DefD×List DefD),y0k (l.foldl step1 p).1≤y0k p.1+y0k l∧y0k (l.foldl step1 p).2≤y0k p.2+y0k l
 |[],p=>by simp [y0k,sumN]
 |d::r,p=>by
  have h1:=z7f r (step1 p d)
  have h2:y0k (step1 p d).1≤y0k p.1+defN d∧y0k (step1 p d).2≤y0k p.2+defN d:=by
   have a1:=z01 p.1 d;have a2:=z01 p.2 d;unfold step1;split
   ·dsimp only;split<;>omega
   ·split
    ·dsimp only;split<;>omega
    ·omega
  simp only [List.foldl_cons,y0k,sumN] at h1 h2 ⊢;omega
theorem y3j {α β:Type} {Q:β→Prop} {f:β→α→β} (h: ∀b a,Q b→Q (f b a)): ∀(l:List α) (b:β),Q b→Q (l.foldl f b)
 |[],b,hb=>hb
 |a::r,b,hb=>y3j h r (f b a) (h b a hb)
theorem z4f (l:List DefD):(y0a (bare l).1).Nodup∧(y0a (bare l).2).Nodup:=by
 refine y3j (Q:=fun p:List DefD×List DefD=>(y0a p.1).Nodup∧(y0a p.2).Nodup) ?_ l ([],[]) ⟨List.nodup_nil,List.nodup_nil⟩;intro p d h;have a1:=y7l (d:=d) h.1;have a2:=y7l (d:=d) h.2;unfold step1;split
 ·dsimp only;split
  ·exact h
  ·exact ⟨h.1,a2⟩
 ·split
  ·dsimp only;split
   ·exact h
   ·exact ⟨a1,h.2⟩
  ·exact h
theorem z7g (l:List DefD):(y0a (y2j l)).Nodup:=y3j (Q:=fun p:List DefD=>(y0a p).Nodup) (fun p d h=>y7l h) givenT _ (z4f l).1
theorem x3j (l:List DefD):(y0a (y21 l)).Nodup:=y3j (Q:=fun p:List DefD=>(y0a p).Nodup) (fun p d h=>y7l h) givenDirsD _ (z4f l).2
theorem z2k: ∀(l s:List DefD),y0a (l.foldl step2 s)=y0a s
 |[],s=>rfl
 |d::r,s=>by rw [List.foldl_cons,z2k r,z9f]
theorem z9g (l:List DefD):y0a (y0i l)=y0a (y2j l):=z2k l _
theorem y3k (l:List DefD):(y0a (y0i l)).Nodup:=by rw [z9g];exact z7g l
theorem q3k (l:List DefD):y0k (y0i l)≤2*y0k l+y0k givenT:=by
 have h1:=y8q x63 l (y2j l);have h2:=y8q z01 givenT (bare l).1;have h3:=(z7f l ([],[])).1;simp only [y0i,y2j,bare,y0k,sumN] at h1 h2 h3 ⊢;omega
theorem q54 (l:List DefD):y0k (y21 l)≤y0k l+y0k givenDirsD:=by
 have h2:=y8q z01 givenDirsD (bare l).2;have h3:=(z7f l ([],[])).2;simp only [y21,bare,y0k,sumN] at h2 h3 ⊢;omega
theorem x64 (s d:DefD):defN (y44 s d)≤defN s+defN d:=by
 unfold y44;split
 ·simp only [defN,y8m,Qae];omega
 ·omega
theorem z2l: ∀(l:List DefD) (s:DefD),defN (l.foldl y44 s)≤defN s+y0k l
 |[],s=>by simp [y0k,sumN]
 |d::r,s=>by
  have h1:=z2l r (y44 s d);have h2:=x64 s d;simp only [List.foldl_cons,y0k,sumN] at h1 ⊢;omega
end Go.Proofs.YtbpgkkoeehopjaaGreat.ty
namespace Go.Proofs.YtbpgkkoeehopjaaGreat.hp
open Go.RowKit words enc tree gram lex rd dec dat held ty
section
variable {w0 w w' K K' : World} {M : List Ent}
theorem Hp.rotAt (C A B:List Ent) (H:Hp w0 w K (C++(A++(B++M)))):Hp w0 w K (C++(B++(A++M))):=
 H.perm (List.Perm.append_left C (by rw [←Qat,←Qat];exact (List.perm_append_comm).append_right M))
def Bst (g ga gd gf go:Nat) (ts ds:List DefD) (w0 w K:World) (M:List Ent):Prop:=
 ∃TS VT VD xD,ts=TS.map (·.1)∧tok K TS∧RL K (y0s ds) xD∧
  Hp w0 w K (tbox g ga gd gf go VT VD:: .map ga (y0z (nmap (y0a ts))):: .row 43 17 VT ts.length (y03 TS):: .map gd (y0z (nmap (y0a ds))):: .row 43 17 VD ds.length xD::(y09 TS++M))
theorem x3k {l:List DefD} {d:DefD} {xs ys:List Value} (h:RL K (y0s l) xs) (h':RL K (defL d) ys):RL K (y0s (l++[d])) (xs++ys):=by
 have:y0s (l++[d])=y0s l++defL d:=by simp [y0s]
 rw [this];exact h.app h'
theorem z9h (d:DefD) (cs:Array Value) (g ga gd gf go:Nat) (ts ds:List DefD) (H:Bst g ga gd gf go ts ds w0 w K M) (hd:RL K (defL d) cs.toList) (hm:defN d≤9000000) (hk:ts.length≤9000000):
  Calls Tryz.prog 59 #[.pointer (some ⟨g,0,none⟩),.agg cs] w fun e w'=>∃K',e= .returned (.tuple #[])∧Sat K' K∧Bst g ga gd gf go (addD ts d) ds w0 w' K' M:=by
 obtain ⟨TS,VT,VD,xD,hts,hok,hxD,H⟩:=H;have hlen:(y0a ts).length=ts.length:=Qay ..;by_cases hin:d.name∈y0a ts
 ·refine (z9d d cs (y0a ts) g ga gd gf go VT VD w0 w K _ H hd hin).mono ?_;rintro e w' ⟨rfl,H⟩;have hadd:addD ts d=ts:=if_pos hin;rw [hadd];exact ⟨K,rfl,Sat.refl K,TS,VT,VD,xD,hts,hok,hxD,H⟩
 ·have H1:Hp w0 w K (tbox g ga gd gf go VT VD:: .map ga (y0z (nmap (y0a ts))):: .row 43 17 VT (y0a ts).length (y03 TS)::(.map gd (y0z (nmap (y0a ds))):: .row 43 17 VD ds.length xD::(y09 TS++M))):=by rw [hlen];exact H
  refine (z9e d cs (y0a ts) g ga gd gf go VT VD (y03 TS) w0 w K _ H1 hd hin hm (by omega)).mono ?_;rintro e w' ⟨K',V,VT',rfl,hle,H2,hV⟩;have hadd:addD ts d=ts++[d]:=if_neg hin;rw [hadd];refine ⟨K',rfl,hle,TS++[(d,V)],VT',VD,xD,by rw [Qas,←hts];rfl,?_,hxD.sat hle,?_⟩
  ·intro p hp;rcases Qbf.1 hp with hp|hp
   ·exact (hok p hp).sat hle
   ·obtain rfl:=Qax.1 hp;exact hV
  ·have H3:=Hp.rotAt [tbox g ga gd gf go VT' VD,.map ga (y0z (nmap (y0a ts++[d.name]))),.row 43 17 VT' ((y0a ts).length+1) (y03 TS++DV.cells d V)] (DV.rows d V) (.map gd (y0z (nmap (y0a ds))):: .row 43 17 VD ds.length xD::y09 TS) (M:=M) H2
   have e1:y03 (TS++[(d,V)])=y03 TS++DV.cells d V:=by rw [z0a];simp [y03]
   have e2:y09 (TS++[(d,V)])=y09 TS++DV.rows d V:=by rw [z7e];simp [y09]
   have e3:y0a (ts++[d])=y0a ts++[d.name]:=by simp [y0a]
   have e4:(ts++[d]).length=(y0a ts).length+1:=by rw [hlen];simp
   rw [e1,e2,e3,e4,Qat];exact H3
theorem x3l (d:DefD) (cs:Array Value) (g ga gd gf go:Nat) (ts ds:List DefD) (H:Bst g ga gd gf go ts ds w0 w K M) (hd:RL K (defL d) cs.toList) (hm:defN d≤9000000) (hk:ds.length≤9000000):
  Calls Tryz.prog 58 #[.pointer (some ⟨g,0,none⟩),.agg cs] w fun e w'=>∃K',e= .returned (.tuple #[])∧Sat K' K∧Bst g ga gd gf go ts (addD ds d) w0 w' K' M:=by
 obtain ⟨TS,VT,VD,xD,hts,hok,hxD,H⟩:=H;have hlen:(y0a ds).length=ds.length:=Qay ..
 have H1:Hp w0 w K (tbox g ga gd gf go VT VD:: .map gd (y0z (nmap (y0a ds))):: .row 43 17 VD (y0a ds).length xD::(.map ga (y0z (nmap (y0a ts))):: .row 43 17 VT ts.length (y03 TS)::(y09 TS++M))):=by
  rw [hlen];exact Hp.rotAt [tbox g ga gd gf go VT VD] [.map ga (y0z (nmap (y0a ts))),.row 43 17 VT ts.length (y03 TS)] [.map gd (y0z (nmap (y0a ds))),.row 43 17 VD ds.length xD] (M:=y09 TS++M) H
 by_cases hin:d.name∈y0a ds
 ·refine (x3f d cs (y0a ds) g ga gd gf go VT VD w0 w K _ H1 hd hin).mono ?_;rintro e w' ⟨rfl,H⟩;have hadd:addD ds d=ds:=if_pos hin;rw [hadd];refine ⟨K,rfl,Sat.refl K,TS,VT,VD,xD,hts,hok,hxD,?_⟩;rw [hlen] at H;exact Hp.rotAt [tbox g ga gd gf go VT VD] [.map gd (y0z (nmap (y0a ds))),.row 43 17 VD ds.length xD] [.map ga (y0z (nmap (y0a ts))),.row 43 17 VT ts.length (y03 TS)] (M:=y09 TS++M) H
 ·refine (x3g d cs (y0a ds) g ga gd gf go VT VD xD w0 w K _ H1 hd hin hm (by omega)).mono ?_;rintro e w' ⟨K',xs,VD',rfl,hle,H2,hxs⟩;have hadd:addD ds d=ds++[d]:=if_neg hin;rw [hadd];refine ⟨K',rfl,hle,TS,VT,VD',xD++xs,hts,hok.sat hle,x3k (hxD.sat hle) hxs,?_⟩
  have e3:y0a (ds++[d])=y0a ds++[d.name]:=by simp [y0a]
  have e4:(ds++[d]).length=(y0a ds).length+1:=by rw [hlen];simp
  rw [e3,e4];exact Hp.rotAt [tbox g ga gd gf go VT VD'] [.map gd (y0z (nmap (y0a ds++[d.name]))),.row 43 17 VD' ((y0a ds).length+1) (xD++xs)] [.map ga (y0z (nmap (y0a ts))),.row 43 17 VT ts.length (y03 TS)] (M:=y09 TS++M) H2
end
def y1l (OB:List (Txt×Nat×List (Txt×Value))):List Ent:=OB.map fun p=>.map p.2.1 (y0z p.2.2)
def y1m (OB:List (Txt×Nat×List (Txt×Value))):List (Txt×Value):=OB.map fun p=>(p.1,.map (some p.2.1))
def omap (OB:List (Txt×Nat×List (Txt×Value))):OMap:=OB.map fun p=>(p.1,p.2.2)
def Ost (go:Nat) (om:OMap) (w0 w K:World) (M:List Ent):Prop:=∃OB,om=omap OB∧Hp w0 w K (.map go (y0z (y1m OB))::(y1l OB++M))
theorem z4g (x:Txt): ∀OB:List (Txt×Nat×List (Txt×Value)),(y0r (y1m OB) x=none∧ ∀n m,addO (omap OB) x n m=omap OB++[(x,[(n,.int .i64 (m:Int))])])∨ ∃A b s B,OB=A++(x,b,s)::B∧y0r (y1m OB) x=some (.map (some b))∧ ∀n m,addO (omap OB) x n m=omap A++(x,y1e s n m)::omap B
 |[]=>.inl ⟨rfl,fun _ _=>rfl⟩
 |p::r=>by
  by_cases h:p.1=x
  ·obtain ⟨a,b,s⟩:=p;simp only at h;subst h;exact .inr ⟨[],b,s,r,rfl,by simp [y0r,y1m],fun n m=>by simp [addO,omap]⟩
  ·have hk:y0r (y1m (p::r)) x=y0r (y1m r) x:=by simp [y0r,y1m,h]
   have ha: ∀n m,addO (omap (p::r)) x n m=(p.1,p.2.2)::addO (omap r) x n m:=fun n m=>by simp [addO,omap,h]
   rcases z4g x r with ⟨h1,h2⟩|⟨A,b,s,B,rfl,h1,h2⟩
   ·exact .inl ⟨hk.trans h1,fun n m=>by rw [ha,h2];simp [omap]⟩
   ·exact .inr ⟨p::A,b,s,B,rfl,hk.trans h1,fun n m=>by rw [ha,h2];simp [omap]⟩
structure TysD where
 schema:DefD
 types:List DefD
 dirs:List DefD
 fields:FMap
 objects:OMap
def y0w (defs:List DefD):TysD:=⟨y2b defs (y0i defs),y0i defs,y21 defs,fieldsOf (y0i defs),y1z (y0i defs)⟩
structure TyA (K:World) (g ga gd gf go:Nat) (sch:List Value) (VT VD:Value) (s:DefD) (ts ds:List DefD):Prop where
 box:Kb K g (sch++[VT,.map (some ga),VD,.map (some gd),.map (some gf),.map (some go)]) 91
 sch:RL K (defL s) sch
 types:RD K (.list ts.length (y0s ts)) VT
 dirs:RD K (.list ds.length (y0s ds)) VD
 at_:Km K ga (y0o ks (nmap (y0a ts)))
 dirAt:Km K gd (y0o ks (nmap (y0a ds)))
theorem ty_c {sch:List Value} (h:sch.length=17) (l:List Value) (k:Nat):(sch++l)[17+k]?=l[k]?:=by
 rw [Qba (by omega),h];congr 1;omega
section
variable {K K' : World} {g ga gd gf go : Nat} {sch : List Value} {VT VD : Value} {s : DefD} {ts ds : List DefD}
theorem TyA.len (h:TyA K g ga gd gf go sch VT VD s ts ds):sch.length=17:=h.sch.len
theorem TyA.c17 (h:TyA K g ga gd gf go sch VT VD s ts ds):(sch++[VT,.map (some ga),VD,.map (some gd),.map (some gf),.map (some go)])[17]?=some VT:=ty_c h.len _ 0
theorem TyA.c18 (h:TyA K g ga gd gf go sch VT VD s ts ds):(sch++[VT,.map (some ga),VD,.map (some gd),.map (some gf),.map (some go)])[18]?=some (.map (some ga)):=ty_c h.len _ 1
theorem TyA.c19 (h:TyA K g ga gd gf go sch VT VD s ts ds):(sch++[VT,.map (some ga),VD,.map (some gd),.map (some gf),.map (some go)])[19]?=some VD:=ty_c h.len _ 2
theorem TyA.c20 (h:TyA K g ga gd gf go sch VT VD s ts ds):(sch++[VT,.map (some ga),VD,.map (some gd),.map (some gf),.map (some go)])[20]?=some (.map (some gd)):=ty_c h.len _ 3
theorem TyA.c21 (h:TyA K g ga gd gf go sch VT VD s ts ds):(sch++[VT,.map (some ga),VD,.map (some gd),.map (some gf),.map (some go)])[21]?=some (.map (some gf)):=ty_c h.len _ 4
theorem TyA.c22 (h:TyA K g ga gd gf go sch VT VD s ts ds):(sch++[VT,.map (some ga),VD,.map (some gd),.map (some gf),.map (some go)])[22]?=some (.map (some go)):=ty_c h.len _ 5
theorem TyA.sat (h:TyA K g ga gd gf go sch VT VD s ts ds) (hs:Sat K' K):TyA K' g ga gd gf go sch VT VD s ts ds:=
 ⟨h.box.sat hs,h.sch.sat hs,h.types.sat hs,h.dirs.sat hs,h.at_.sat hs,h.dirAt.sat hs⟩
end
structure Tys (K:World) (g:Nat) (D:TysD) (ga gd gf go:Nat) (sch:List Value) (VT VD:Value) (OB:List (Txt×Nat×List (Txt×Value))):Prop where
 a:TyA K g ga gd gf go sch VT VD D.schema D.types D.dirs
 fields:Km K gf (y0o kp D.fields)
 objects:Km K go (y0o ks (y1m OB))
 om:D.objects=omap OB
 sets: ∀p∈OB,Km K p.2.1 (y0o ks p.2.2)
def TysK (K:World) (g:Nat) (D:TysD):Prop:=∃ga gd gf go sch VT VD OB,Tys K g D ga gd gf go sch VT VD OB
section
variable {K K' : World} {g : Nat} {D : TysD}
theorem Tys.sat {ga gd gf go:Nat} {sch:List Value} {VT VD:Value} {OB:List (Txt×Nat×List (Txt×Value))} (h:Tys K g D ga gd gf go sch VT VD OB) (hs:Sat K' K):Tys K' g D ga gd gf go sch VT VD OB:=
 ⟨h.a.sat hs,h.fields.sat hs,h.objects.sat hs,h.om,fun p hp=>(h.sets p hp).sat hs⟩
theorem TysK.sat (h:TysK K g D) (hs:Sat K' K):TysK K' g D:=by
 obtain ⟨ga,gd,gf,go,sch,VT,VD,OB,h⟩:=h;exact ⟨ga,gd,gf,go,sch,VT,VD,OB,h.sat hs⟩
end
end Go.Proofs.YtbpgkkoeehopjaaGreat.hp
namespace Go.Proofs.YtbpgkkoeehopjaaGreat.ty
open Go.RowKit lex gram dat hp
theorem y22 {α β:Type} {Q:β→Prop} {f:β→α→β}: ∀(l:List α) (b:β),(∀b a,a∈l→Q b→Q (f b a))→Q b→Q (l.foldl f b)
 |[],b,_,hb=>hb
 |a::r,b,h,hb=>y22 r (f b a) (fun b' a' ha=>h b' a' (Qa2 _ ha)) (h b a (Qaz ..) hb)
theorem y7n {α:Type} {l:List α} {p:α×Nat} (h:p∈l.zipIdx):l[p.2]?=some p.1:=by
 rw [Qb0] at h;exact h
def FOk (ts:List DefD) (m:FMap):Prop:=∀p∈m,∃(i:Nat) (d:DefD) (k:Nat) (f:FieldD),ts[i]?=some d∧d.name=p.1.1∧d.fields[k]?=some f∧f.name=p.1.2∧p.2= .int .i64 ((k:Nat):Int)
theorem q3l {ts:List DefD} {m:FMap} {i k:Nat} {d:DefD} {f:FieldD} (h:FOk ts m) (hd:ts[i]?=some d) (hf:d.fields[k]?=some f):FOk ts (addF m d.name f.name k):=by
 unfold addF;split
 ·exact h
 ·intro p hp;rcases Qbf.1 hp with hp|hp
  ·exact h p hp
  ·obtain rfl:=Qax.1 hp;exact ⟨i,d,k,f,hd,rfl,hf,rfl,rfl⟩
theorem z9i (ts:List DefD):FOk ts (fieldsOf ts):=by
 refine y22 (Q:=FOk ts) ts [] ?_ (fun _ h=>by cases h);intro m d hd h;obtain ⟨i,hi⟩:=Qbp.1 hd;refine y22 (Q:=FOk ts) d.fields.zipIdx m ?_ h;intro m p hp h;exact q3l h hi (y7n hp)
theorem y7o {ts:List DefD} {i:Nat} {d:DefD} (hn:(y0a ts).Nodup) (h:ts[i]?=some d):y1u ts d.name=some i:=by
 unfold y1u
 have hi:i<(y0a ts).length:=by have:=(Qac.1 h).1;simpa using this
 have hx:(y0a ts)[i]=d.name:=by
  have h2:(y0a ts)[i]?=some d.name:=by simp [y0a,h]
  rw [Qad hi] at h2;injection h2
 rw [Qbs];refine ⟨hi,by simp [hx],?_⟩;intro j hj;have hne:(y0a ts)[j]≠(y0a ts)[i]:=List.pairwise_iff_getElem.1 hn j i (by omega) hi hj;rw [hx] at hne;simpa using hne
theorem z7h {ts:List DefD} {i:Nat} {d:DefD} (hn:(y0a ts).Nodup) (h:ts[i]?=some d):y0e ts d.name=d.kind:=by
 simp [y0e,y7o hn h,h]
theorem y8r {ts:List DefD} {i:Nat} {x:Txt} {d:DefD} (h:y1u ts x=some i) (hd:ts[i]?=some d):y0e ts x=d.kind:=by
 simp [y0e,h,hd]
theorem y4p {ts:List DefD} {x:Txt} (h:y1u ts x=none):y0e ts x=0:=by
 simp [y0e,h]
def nmAt (ts:List DefD) (t:Txt) (n:Nat):Option Txt:=
 if y0e ts t=5 then (((y1u ts t).bind fun i=>ts[i]?).bind fun d=>d.members[n]?).map (·.name) else (ts[n]?).map (·.name)
def SOk (f:Nat→Option Txt) (s:List (Txt×Value)):Prop:=(s.map (·.1)).Nodup∧ ∀q∈s,∃n:Nat,q.2= .int .i64 (n:Int)∧f n=some q.1
def OOk (ts:List DefD) (om:OMap):Prop:=∀p∈om,SOk (nmAt ts p.1) p.2
theorem x65 {f:Nat→Option Txt} {s:List (Txt×Value)} {x:Txt} {n:Nat} (h:SOk f s) (hx:f n=some x):SOk f (y1e s x n):=by
 unfold y1e;split
 ·exact h
 ·rename_i hs
  have hs:y0r s x=none:=by simpa using hs
  refine ⟨?_,?_⟩
  ·rw [Qas,Qbr];refine ⟨h.1,by simp,?_⟩;intro a ha b hb he;simp only [List.map_cons,List.map_nil,Qax] at hb;subst hb he;obtain ⟨p,hp,rfl⟩:=Qbe.1 ha;exact z4d hs p hp rfl
  ·intro q hq;rcases Qbf.1 hq with hq|hq
   ·exact h.2 q hq
   ·obtain rfl:=Qax.1 hq;exact ⟨n,rfl,hx⟩
theorem z5s {ts:List DefD}: ∀{om:OMap} {t x:Txt} {n:Nat},OOk ts om→nmAt ts t n=some x→OOk ts (addO om t x n)
 |[],t,x,n,_,hx=>by
  intro p hp;obtain rfl:=Qax.1 hp;exact ⟨by simp,fun q hq=>by obtain rfl:=Qax.1 hq;exact ⟨n,rfl,hx⟩⟩
 |p::r,t,x,n,h,hx=>by
  unfold addO;split
  ·rename_i hp;intro q hq;rcases Qbd.1 hq with rfl|hq
   ·have:=h p (Qaz ..);rw [hp] at this;exact x65 this hx
   ·exact h q (Qa2 _ hq)
  ·intro q hq;rcases Qbd.1 hq with rfl|hq
   ·exact h _ (Qaz ..)
   ·exact z5s (fun a ha=>h a (Qa2 _ ha)) hx q hq
theorem y6y {ts:List DefD} (hn:(y0a ts).Nodup):OOk ts (y1z ts):=by
 refine y22 (Q:=OOk ts) ts.zipIdx [] ?_ (fun _ h=>by cases h);rintro m ⟨d,i⟩ hd h;have hd:ts[i]?=some d:=y7n hd;have hk:=z7h hn hd
 have hi: ∀t,y0e ts t≠5→nmAt ts t i=some d.name:=fun t ht=>by simp [nmAt,ht,hd]
 unfold y33;dsimp only;split
 ·rename_i h3;refine y22 (Q:=OOk ts) d.ifaces _ ?_ (z5s h (hi _ (by omega)));intro m n _ hm;split
  ·exact z5s hm (hi _ (by omega))
  ·exact hm
 ·split
  ·rename_i h5;refine y22 (Q:=OOk ts) d.members.zipIdx m ?_ h;rintro m ⟨n,k⟩ hnk hm;have hnk:d.members[k]?=some n:=y7n hnk;dsimp only;split
   ·refine z5s hm ?_;simp [nmAt,hk,h5,y7o hn hd,hd,hnk]
   ·exact hm
  ·exact h
def y1g (om:OMap) (t:Txt):List (Txt×Value):=((om.find? (fun p=>decide (p.1=t))).map (·.2)).getD []
theorem z5t {ts:List DefD} {om:OMap} (h:OOk ts om) (t:Txt):SOk (nmAt ts t) (y1g om t):=by
 unfold y1g
 cases hq:om.find? (fun p=>decide (p.1=t)) with
 |none=>exact ⟨List.nodup_nil,fun _ h=>by cases h⟩
 |some p=>
  have h1:=List.find?_some hq;have h1:p.1=t:=Qa6 h1;have:=h p (List.mem_of_find?_eq_some hq);rw [h1] at this;exact this
theorem q3m {ts:List DefD} {t x:Txt} {n:Nat} (h:nmAt ts t n=some x):n<ts.length∨ ∃d∈ts,n<d.members.length:=by
 unfold nmAt at h;split at h
 ·right
  cases hi:y1u ts t with
  |none=>simp [hi] at h
  |some i=>
   cases hd:ts[i]? with
   |none=>simp [hi,hd] at h
   |some d=>
    refine ⟨d,Qaf hd,?_⟩;rcases Qbm n d.members.length with hl|hl
    ·exact hl
    ·simp [hi,hd,Qbg hl] at h
 ·left;rcases Qbm n ts.length with hl|hl
  ·exact hl
  ·simp [Qbg hl] at h
def y8s (s:List (Txt×Value)) (x:Txt):Int:=match y0r s x with|some (.int .i64 n)=>n|_=>0
theorem x08 {f:Nat→Option Txt} {s:List (Txt×Value)} (h:SOk f s) (x:Txt):(y0r s x=none∧ ∀p∈s,p.1≠x)∨ ∃n:Nat,y0r s x=some (.int .i64 (n:Int))∧f n=some x∧(x,.int .i64 (n:Int))∈s:=by
 cases hq:y0r s x with
 |none=>exact .inl ⟨rfl,z4d hq⟩
 |some v=>
  have hm:=x6y hq;obtain ⟨n,h1,h2⟩:=h.2 _ hm;simp only at h1 h2;subst h1;exact .inr ⟨n,rfl,h2,hm⟩
theorem x66 {f:Nat→Option Txt} {s:List (Txt×Value)} (h:SOk f s) (x:Txt):(y0r s x).getD (.int .i64 0)= .int .i64 (y8s s x):=by
 unfold y8s
 rcases x08 h x with ⟨h1,_⟩|⟨n,h1,_⟩<;>rw [h1]<;>rfl
theorem x09 {α:Type} {l:List α} {k:Nat} {x:α} (hx:l[k]?=some x):(l.take (k+1)).zipIdx=(l.take k).zipIdx++[(x,k)]:=by
 have hk:=(Qac.1 hx).1
 have h1:l.take (k+1)=l.take k++[x]:=by rw [List.take_add_one,hx];rfl
 have h2:(l.take k).length=k:=by rw [Qau];omega
 rw [h1,List.zipIdx_append,h2];simp
theorem y3z {α β:Type} {l:List α} {k:Nat} {x:α} (hx:l[k]?=some x) (f:β→α→β) (b:β):(l.take (k+1)).foldl f b=f ((l.take k).foldl f b) x:=by
 have h1:l.take (k+1)=l.take k++[x]:=by rw [List.take_add_one,hx];rfl
 rw [h1,List.foldl_append];rfl
theorem y23 {α β:Type} {l:List α} {k:Nat} {x:α} (hx:l[k]?=some x) (f:β→α×Nat→β) (b:β):(l.take (k+1)).zipIdx.foldl f b=f ((l.take k).zipIdx.foldl f b) (x,k):=by
 rw [x09 hx,List.foldl_append];rfl
theorem y24 {ts:List DefD} {i:Nat} {d:DefD} (h:ts[i]?=some d):defN d≤y0k ts:=by
 have h1:ts=ts.take i++d::ts.drop (i+1):=by
  obtain ⟨hi,rfl⟩:=Qac.1 h;simp
 rw [h1];unfold y0k;rw [y8m];simp only [sumN];omega
theorem z0b (d:DefD):d.members.length≤defN d:=by unfold defN;omega
theorem z2m (d:DefD):d.ifaces.length≤defN d:=by unfold defN;omega
theorem x67 (d:DefD):d.fields.length≤defN d:=by have:=y0x y3h d.fields;unfold defN;omega
theorem x68 {ts:List DefD} {t x:Txt} {n:Nat} (h:nmAt ts t n=some x):n<y0k ts:=by
 have hl:ts.length≤y0k ts:=y0x y3m ts;rcases q3m h with h|⟨d,hd,h⟩
 ·omega
 ·obtain ⟨i,hi⟩:=Qbp.1 hd;have:=y24 hi;have:=z0b d;omega
end Go.Proofs.YtbpgkkoeehopjaaGreat.ty
namespace Go.Proofs.YtbpgkkoeehopjaaGreat.hp
open Go.RowKit words enc tree gram lex rd dec dat held ty
set_option maxRecDepth 100000
attribute [local go_sem ↓] Go.wp_at_zero Go.wp_at_succ
theorem x69 (l:List (Txt×Value)) (x:Txt):y0r l x=y4o l x:=by
 have e1:(fun p:Txt×Value=>p.1==x)=fun p=>decide (p.1=x):=by funext p;rw [Bool.eq_iff_iff];simp
 unfold y0r y4o;rw [e1]
theorem y13 (ts:List DefD) (x:Txt):y0r (nmap (y0a ts)) x=(y1u ts x).map fun i=>.int .i64 ((i:Nat):Int):=(x69 _ x).trans (y9l (y0a ts) x)
theorem y5z {ts:List DefD} {x:Txt} {i:Nat} (h:y1u ts x=some i):i<ts.length:=by
 obtain ⟨d,hd,_⟩:=y1o h;exact (Qac.1 hd).1
section
variable {K : World} {g ga gd gf go : Nat} {sch : List Value} {VT VD : Value} {s : DefD} {ts ds : List DefD}
theorem y25 {n:Nat} {l:List Leaf} {v:Value} (h:RD K (.list n l) v): ∃A c,v= .slice A n c∧n≤c∧c≤maxLen:=by
 obtain ⟨A,c,vs,h1,h2,h3,_⟩:=y0j h.reads;exact ⟨A,c,h1,h2,h3⟩
theorem y3d {α:Type} {f:α→List Leaf} {m n c k:Nat} {A:Option Addr} {l:List α} {x:α} (hf: ∀x,(f x).length=m) (h:RD K (.list n (l.flatMap f)) (.slice A n c)) (hk:l[k]?=some x) (hm:0<m):
  ∃ad vs,A=some ad∧RL K (f x) vs∧vs.length=m∧At K (ad.add (k*m)) vs:=by
 obtain ⟨ad,vs,h1,h2,h3,_,h5,h6⟩:=y43 hf h hk hm;exact ⟨ad,vs,h1,h2,h3,⟨h5,h6⟩⟩
end
set_option maxHeartbeats 4000000 in
theorem q3n (x:Txt) (g ga gd gf go:Nat) (sch:List Value) (VT VD:Value) (s:DefD) (ts ds:List DefD) (w0 w K:World) (M:List Ent) (H:Hp w0 w K M) (T:TyA K g ga gd gf go sch VT VD s ts ds):
  Calls Tryz.prog 79 #[.pointer (some ⟨g,0,none⟩),.string (str x)] w fun e w'=>e= .returned (.int .i64 (y0e ts x))∧Hp w0 w' K M:=by
 have hq:=y13 ts x;have h18:=T.c18
 cases hi:y1u ts x with
 |none=>
  rw [hi] at hq;have hk:y0e ts x=0:=y4p hi;go_enter Tryz.func79,Tryz.ntmps79;have cf1:(w).cell? ⟨g,18,none⟩=some (.map (some ga)):=H.kcell T.box h18
  go_upto_region 2 with (first
   |(refine y08 (by rfl) (.tmp 11) (.tmp 12) 87 true (by rfl) Tryz.underlying87 (y07 Tryz.underlying9) (.int .i64 0) y0n ga (nmap (y0a ts)) (H.kmap T.at_) (by first|rfl|simp [Act.eval,Act.put]) (x) (by first|rfl|simp [Act.eval,Act.put]) (.tuple #[.int .i64 0,.bool false]) (by rw [hq];rfl) ?_))
  go_wp2_with fail
  go_ret;exact ⟨by rw [hk];rfl,H⟩
 |some i=>
  rw [hi] at hq;obtain ⟨d,hd,-⟩:=y1o hi;have hlt:=y5z hi;have hk:y0e ts x=d.kind:=y8r hi hd;obtain ⟨A,c,rfl,hc1,hc2⟩:=y25 T.types;obtain ⟨ad,vs,rfl,hxd,_,hat⟩:=y5y (m:=17) (f:=defL) y05 H T.types hd (by omega);obtain ⟨A6,c6,A7,c7,A8,c8,A9,c9,A10,c10,A11,c11,A12,c12,A14,c14,rfl,-,-,-,-,-,-,-,-⟩:=y0c hxd;have hcell:=hat.1 _ rfl;clear hat hxd
  have hltI:(i:Int)<(ts.length:Int):=by omega
  have h17:=H.kcell T.box T.c17;go_enter Tryz.func79,Tryz.ntmps79;have cf2:(w).cell? ⟨g,18,none⟩=some (.map (some ga)):=H.kcell T.box h18
  go_upto_region 2 with (first
   |(refine y08 (by rfl) (.tmp 11) (.tmp 12) 87 true (by rfl) Tryz.underlying87 (y07 Tryz.underlying9) (.int .i64 0) y0n ga (nmap (y0a ts)) (H.kmap T.at_) (by first|rfl|simp [Act.eval,Act.put]) (x) (by first|rfl|simp [Act.eval,Act.put]) (.tuple #[.int .i64 (i:Int),.bool true]) (by rw [hq];rfl) ?_))
  go_wp2_with fail
  go_ret;exact ⟨by rw [hk];rfl,H⟩
theorem x7a (d:DefD) (cs:Array Value) (w0 w K:World) (M:List Ent) (H:Hp w0 w K M) (hd:RL K (defL d) cs.toList):
  Calls Tryz.prog 107 #[.agg cs] w fun e w'=>e= .returned (.bool (y2k d))∧Hp w0 w' K M:=by
 obtain ⟨A6,c6,A7,c7,A8,c8,A9,c9,A10,c10,A11,c11,A12,c12,A14,c14,hcs,-,-,-,-,-,-,-,-⟩:=y0c hd;clear hd;have hs:y2k d=(decide (d.kind=1)&& !d.ext):=rfl;obtain ⟨kd,hkd⟩: ∃kd,d.kind=kd:=⟨_,rfl⟩;obtain ⟨ex,hex⟩: ∃ex,d.ext=ex:=⟨_,rfl⟩;rw [hs];clear hs;rw [hkd,hex] at hcs ⊢;clear hkd hex;obtain rfl:cs= #[.int .i64 kd,.bool ex,.bool d.note.has,.bool d.note.block,.string (str d.note.text),.string (str d.name),.slice A6 d.ifaces.length c6,.slice A7 d.dirs.length c7,.slice A8 d.fields.length c8,.slice A9 d.inputs.length c9,.slice A10 d.members.length c10,.slice A11 d.values.length c11,.slice A12 d.roots.length c12,.bool d.rep,.slice A14 d.places.length c14,.int .i64 d.line,.int .i64 d.col]:=Qal.1 hcs;clear hcs;by_cases h1:kd=1
 ·subst h1;go_enter Tryz.func107,Tryz.ntmps107
  go_wp2_with (first
   |(refine z0y (by rfl) 43 (.tmp 0) (by rfl) [.int .i64 1,.bool ex,.bool d.note.has,.bool d.note.block,.string (str d.note.text),.string (str d.name),.slice A6 d.ifaces.length c6,.slice A7 d.dirs.length c7,.slice A8 d.fields.length c8,.slice A9 d.inputs.length c9,.slice A10 d.members.length c10,.slice A11 d.values.length c11,.slice A12 d.roots.length c12,.bool d.rep,.slice A14 d.places.length c14,.int .i64 d.line,.int .i64 d.col] _ (by rfl) (by rfl) (some 1) (by rfl) H ?_;clear H;intro w1 g1 H hg2;clear hg2;have:=H.c 0 0;have:=H.c 0 1))
  replace H:=H.sub (Qai _ (Qam _));go_ret;exact ⟨by simp,H⟩
 ·skip
  go_enter Tryz.func107,Tryz.ntmps107
  go_wp2_with (first
   |(refine z0y (by rfl) 43 (.tmp 0) (by rfl) [.int .i64 kd,.bool ex,.bool d.note.has,.bool d.note.block,.string (str d.note.text),.string (str d.name),.slice A6 d.ifaces.length c6,.slice A7 d.dirs.length c7,.slice A8 d.fields.length c8,.slice A9 d.inputs.length c9,.slice A10 d.members.length c10,.slice A11 d.values.length c11,.slice A12 d.roots.length c12,.bool d.rep,.slice A14 d.places.length c14,.int .i64 d.line,.int .i64 d.col] _ (by rfl) (by rfl) (some 1) (by rfl) H ?_;clear H;intro w3 g1 H hg4;clear hg4;have:=H.c 0 0;have:=H.c 0 1))
  replace H:=H.sub (Qai _ (Qam _));go_ret;exact ⟨by simp [h1],H⟩
theorem z0c {α:Type} {p:α→Bool}: ∀{l:List α} {k:Nat} {x:α},(∀y∈l.take k,p y=false)→l[k]?=some x→p x=true→l.findIdx? p=some k
 |[],k,x,_,h,_=>by simp at h
 |a::r,0,x,_,h,hp=>by
  simp only [List.getElem?_cons_zero,Option.some.injEq] at h;subst h;simp [List.findIdx?_cons,hp]
 |a::r,k+1,x,h0,h,hp=>by
  have ha:p a=false:=h0 a (by simp);have:=z0c (l:=r) (k:=k) (fun y hy=>h0 y (by rw [List.take_succ_cons];exact Qa2 _ hy)) (by simpa using h) hp;simp [List.findIdx?_cons,ha,this]
theorem z4h {α:Type} {p:α→Bool} {l:List α} (h: ∀y∈l,p y=false):l.findIdx? p=none:=by
 rw [List.findIdx?_eq_none_iff];exact h
def idxI (o:Option Nat):Int:=match o with|none=> -1|some i=>i
set_option maxHeartbeats 4000000 in
theorem z7i (defs:List DefD) (n c:Nat) (A:Option Addr) (w0 w K:World) (M:List Ent) (H:Hp w0 w K M) (hn:defs.length=n) (hd:RD K (.list n (y0s defs)) (.slice A n c)) (hm:n≤20000000):
  Calls Tryz.prog 106 #[.slice A n c,.func (.func 107) #[] #[]] w fun e w'=>e= .returned (.int .i64 (idxI (defs.findIdx? y2k)))∧Hp w0 w' K M:=by
 have HN:=hide hn;clear hn;go_enter Tryz.func106,Tryz.ntmps106
 go_wp2_with fail
 go_loopw [8] (fun i wr=>∃k:Nat,k≤n∧i= .int .i64 k∧Hp w0 wr K M∧ ∀y∈defs.take k,y2k y=false) (fun i _=>n - (intOf i).toNat)
 case atStart=>exact ⟨0,Qak _,rfl,H,by simp⟩
 case round=>
  clear H;obtain ⟨k,hk,rfl,H,hno⟩:=hrel;by_cases hlt:k<n
  ·have hkI:(k:Int)<(n:Int):=by omega
   obtain ⟨x,hx⟩: ∃x,defs[k]?=some x:=⟨_,Qad (by rw [HN.out];exact hlt)⟩;have HX:=hide hx;obtain ⟨ad,xs,rfl,hxd,_,hat⟩:=y5y (m:=17) (f:=defL) y05 H hd hx (by omega);clear hx;have hsz:(Tryz.prog.info? 43).map (·.size)=some 17:=y4u;have hxl:xs.length=17:=hxd.len;have hno:=hide hno
   cases hb:y2k x with
   |true=>
    go_wp2_with (first
     |((with_reducible show wpList _ _ _ (_::_) _ _);refine y0d (by rfl) 43 (.tmp 14) (by rfl) (ad.add (k*17)) (by simp [Act.eval,Act.put]) _ _ hat Tryz.underlying43 rfl (by rw [hxl];exact hsz) ?_)
     |(go_at_call 107;refine (x7a x xs.toArray _ _ _ _ H hxd).mono ?_;clear H;rintro e w1 ⟨rfl,H⟩;rw [hb]))
    go_ret;exact ⟨by rw [z0c hno.out HX.out hb];rfl,H⟩
   |false=>
    go_wp2_with (first
     |((with_reducible show wpList _ _ _ (_::_) _ _);refine y0d (by rfl) 43 (.tmp 14) (by rfl) (ad.add (k*17)) (by simp [Act.eval,Act.put]) _ _ hat Tryz.underlying43 rfl (by rw [hxl];exact hsz) ?_)
     |(go_at_call 107;refine (x7a x xs.toArray _ _ _ _ H hxd).mono ?_;clear H;rintro e w1 ⟨rfl,H⟩;rw [hb]))
    go_roundw
    case rel=>exact ⟨k+1,by omega,by go_num,H,by
     intro y hy;rw [y1j HX.out] at hy;rcases Qbf.1 hy with hy|hy
     ·exact hno.out y hy
     ·obtain rfl:=Qax.1 hy;exact hb⟩
    case measure=>simp [intOf];omega
  ·obtain rfl:n=k:=by omega
   have htk:defs.take n=defs:=by rw [←HN.out];exact List.take_length
   rw [htk] at hno;have hno:=hide hno
   go_wp2_with fail
   go_ret;exact ⟨by rw [z4h hno.out];rfl,H⟩
def y9m (ts:List DefD) (k:Nat):List RootD:=((rootN.zipIdx.take k).filter fun p=>y0e ts p.1==3).map fun p=>⟨1+(p.2:Int),p.1,0,0⟩
theorem x3m (ts:List DefD):y9m ts 3=y8p ts:=rfl
theorem z9j (ts:List DefD) {k:Nat} {x:Txt} (h:rootN[k]?=some x):y9m ts (k+1)=y9m ts k++if y0e ts x=3 then [⟨1+(k:Int),x,0,0⟩] else []:=by
 have h1:rootN.zipIdx[k]?=some (x,k):=by rw [List.getElem?_zipIdx,h];simp
 unfold y9m;rw [List.take_add_one,h1,List.filter_append,Qas]
 congr 1
 by_cases h3:y0e ts x=3
 ·simp [h3]
 ·simp [h3]
theorem x3n {K:World} {l:List RootD} {r:RootD} {vs:List Value} (h:RL K (y3b l) vs):RL K (y3b (l++[r])) (vs++[.int .i64 r.op,.string (str r.type),.int .i64 r.line,.int .i64 r.col]):=by
 rw [y4e];exact h.app (by simp only [y3b,List.flatMap_cons,List.flatMap_nil,List.append_nil];exact .lit (.lit (.lit (.lit RL.z))))
def SchP (s:DefD) (w0 K:World) (M:List Ent) (e:Ending) (w':World):Prop:=
 ∃K' cs,e= .returned (.agg cs)∧Sat K' K∧Hp w0 w' K' M∧RL K' (defL s) cs.toList
set_option maxHeartbeats 16000000 in
theorem x3o (defs ts:List DefD) (n c nt ct:Nat) (A Aty:Option Addr) (g ga gd gf go:Nat) (VD:Value) (w0 w K:World) (M:List Ent) (H:Hp w0 w K (tbox g ga gd gf go (.slice Aty nt ct) VD::M)) (hn:defs.length=n) (hd:RD K (.list n (y0s defs)) (.slice A n c)) (hm:n≤20000000)
  (hnt:ts.length=nt) (ht:RD K (.list nt (y0s ts)) (.slice Aty nt ct)) (hat:Km K ga (y0o ks (nmap (y0a ts)))) (hno:defs.findIdx? y2k=none):
  Calls Tryz.prog 61 #[.pointer (some ⟨g,0,none⟩),.slice A n c] w (SchP {y5f with roots:=y8p ts} w0 K (tbox g ga gd gf go (.slice Aty nt ct) VD::M)):=by
 have HN:=hide hn;have HNT:=hide hnt;clear hn hnt;obtain ⟨k0,hk0,k0z,k0s,k0b⟩:=info_parts z1z;have hM: ∃M',(tbox g ga gd gf go (.slice Aty nt ct) VD::M)=M':=⟨_,rfl⟩;go_enter Tryz.func61,Tryz.ntmps61;replace H:Hp _ _ _ (.box _ [_,_,_,_,_,_,_,_,_,_,_,_,_,_,_,_,_,_,_,_,_,_,_] _::M):=H
 try dsimp only at H
 have hK:=Sat.refl K
 go_upto_region 4 with (first
  |(go_at_call 106;refine (z7i defs n c A _ _ _ _ H HN.out hd hm).mono ?_;clear H;rintro e w5 ⟨rfl,H⟩;rw [hno];clear hno;simp only [idxI])
  |((with_reducible refine isL ?_);first
   |(refine al z43 4 H ?_;clear H;intro w1 g4 H)
   |(refine al z43 6 H ?_;clear H;intro w4 g6 H)
   |(refine sA 6 0 H ?_;clear H;intro w6 H)))
 go_upto_region 5 with (first
  |(refine y2a (by rfl) 27 9 3 _ (by rfl) (some 20) (by rfl) Tryz.underlying27 [.string ⟨#[81,117,101,114,121]⟩,.string ⟨#[77,117,116,97,116,105,111,110]⟩,.string ⟨#[83,117,98,115,99,114,105,112,116,105,111,110]⟩] (by kernel_rfl) H ?_;clear H;intro w7 g20 H;obtain ⟨K2,hle8,H,hnames⟩:=H.freezeBox (n:=3) (ls:=y1c rootN) ((rt_s (rt_s (rt_s RL.z)))) (by simp only [maxLen];omega);replace hd:=hd.sat hle8;replace ht:=ht.sat hle8;replace hat:=hat.sat hle8;replace hK:=hle8.trans hK))
 go_wp2_with fail
 go_loopw [22] (fun i wr=>∃(k:Nat) (V:Value) (vs:List Value),k≤3∧i= .int .i64 k∧Hp w0 wr K2 (.row 100 4 V (y9m ts k).length vs:: .box g6 [.int .i64 1,.bool false,.bool false,.bool false,.string ⟨#[]⟩,.string ⟨#[]⟩,.slice none 0 0,.slice none 0 0,.slice none 0 0,.slice none 0 0,.slice none 0 0,.slice none 0 0,V,.bool false,.slice none 0 0,.int .i64 0,.int .i64 0] 43:: .box g4 [.int .i64 0,.bool false,.bool false,.bool false,.string ⟨#[]⟩,.string ⟨#[]⟩,.slice none 0 0,.slice none 0 0,.slice none 0 0,.slice none 0 0,.slice none 0 0,.slice none 0 0,.slice none 0 0,.bool false,.slice none 0 0,.int .i64 0,.int .i64 0] 43::tbox g ga gd gf go (.slice Aty nt ct) VD::M)∧RL K2 (y3b (y9m ts k)) vs) (fun i _=>3 - (intOf i).toNat)
 case atStart=>exact ⟨0,_,[],Qak _,rfl,H.nilRow 100 4,RL.z⟩
 case round=>
  clear H;obtain ⟨k,V,vs,hk,rfl,H,hvs⟩:=hrel;obtain ⟨Av,cv,rfl,_,_⟩:=H.slice (i:=0) rfl
  have hrl:(y9m ts k).length≤3:=by unfold y9m;rw [Qay];exact Qah (Qb3 _ _) (by rw [Qau];exact Nat.min_le_right _ _)
  obtain ⟨rs,hrs⟩: ∃rs,y9m ts k=rs:=⟨_,rfl⟩;by_cases hlt:k<3
  ·have hkI:(k:Int)<(3:Int):=by omega
   obtain ⟨x,hx⟩: ∃x,rootN[k]?=some x:=⟨_,Qad hlt⟩;have HE:=hide (z9j ts hx);rw [hrs] at H hvs HE hrl;clear hrs;obtain ⟨ad,had,hc⟩:=z2i H hnames hx;injection had with had;subst had;rw [y2s] at hc;clear hx;have hq:=y13 ts x;obtain ⟨m,hmr⟩: ∃m,rs.length=m:=⟨_,rfl⟩;have HM:=hide hmr;rw [hmr] at H hrl;clear hmr;replace H:Hp _ _ _ (_:: .box _ [_,_,_,_,_,_,_,_,_,_,_,_,_,_,_,_,_] _:: .box _ [_,_,_,_,_,_,_,_,_,_,_,_,_,_,_,_,_] _:: .box _ [_,_,_,_,_,_,_,_,_,_,_,_,_,_,_,_,_,_,_,_,_,_,_] _::M):=H
   try dsimp only at H
   cases hi:y1u ts x with
   |none=>
    rw [hi] at hq;have hk0:y0e ts x=0:=y4p hi;rw [if_neg (by omega),List.append_nil] at HE;have:=H.c 3 18
    go_upto_region 8 with (first
     |(refine y08 (by rfl) (.tmp 31) (.tmp 32) 87 true (by rfl) Tryz.underlying87 (y07 Tryz.underlying9) (.int .i64 0) y0n ga (nmap (y0a ts)) (H.kmap hat) (by first|rfl|simp [Act.eval,Act.put]) (x) (by first|rfl|simp [Act.eval,Act.put]) (.tuple #[.int .i64 0,.bool false]) (by rw [hq];rfl) ?_))
    go_wp2_with fail
    go_roundw
    case rel=>exact ⟨k+1,_,vs,by omega,by go_num,by rw [HE.out,HM.out];exact H,by rw [HE.out];exact hvs⟩
    case measure=>simp [intOf];omega
   |some i=>
    rw [hi] at hq;obtain ⟨d,hd1,-⟩:=y1o hi;have hil:=y5z hi;rw [HNT.out] at hil;have hkk:y0e ts x=d.kind:=y8r hi hd1;obtain ⟨ad2,xs,rfl,hxd,_,hat2⟩:=y5y (m:=17) (f:=defL) y05 H ht hd1 (by omega);obtain ⟨A6,c6,A7,c7,A8,c8,A9,c9,A10,c10,A11,c11,A12,c12,A14,c14,rfl,-,-,-,-,-,-,-,-⟩:=y0c hxd;have hcell:=hat2.1 _ rfl;clear hat2 hxd hd1;rw [hkk] at HE;clear hkk;obtain ⟨kd,hkd⟩: ∃kd,d.kind=kd:=⟨_,rfl⟩;rw [hkd] at hcell HE;clear hkd
    have hiI:(i:Int)<(nt:Int):=by omega
    by_cases h3:kd=3
    ·subst h3;rw [if_pos rfl] at HE;have:=H.c 3 18
     go_upto_region 8 with (first
      |(refine y08 (by rfl) (.tmp 31) (.tmp 32) 87 true (by rfl) Tryz.underlying87 (y07 Tryz.underlying9) (.int .i64 0) y0n ga (nmap (y0a ts)) (H.kmap hat) (by first|rfl|simp [Act.eval,Act.put]) (x) (by first|rfl|simp [Act.eval,Act.put]) (.tuple #[.int .i64 (i:Int),.bool true]) (by rw [hq];rfl) ?_))
     have:=H.c 3 17
     go_upto_region 9 with (fail)
     have:=H.c 1 12
     go_upto_region 10 with (first
      |(refine y2a (by rfl) 39 100 1 _ (by rfl) (some 54) (by rfl) Tryz.underlying39 [.int .i64 (1+(k:Int)),.string (str x),.int .i64 0,.int .i64 0] (by kernel_rfl) H ?_;clear H;intro w9 g54 H;have:=H.c 2 12)
      |(at_builtin;refine y3y (by rfl) _ _ 39 (by rfl) 100 k0 _ 4 40 Tryz.underlying39 hk0 k0z k0s k0b (by rfl) (by decide) H 1 (.slice Av m cv) (m) (vs) (by rfl) (by first|rfl|simp [Act.eval,Act.put]) (some ⟨g54,0,none⟩) 1 1 [.int .i64 (1+(k:Int)),.string (str x),.int .i64 0,.int .i64 0] (by first|rfl|simp [Act.eval,Act.put]) (by rfl) (H.rd (i:=0) rfl) (by simp [Value.oneCell']) (by simp only [maxLen];omega) (by omega) ?_;clear H;intro V2 w2 H;replace H:Hp w0 w2 K2 (.box g54 [.int .i64 (1+(k:Int)),.string (str x),.int .i64 0,.int .i64 0] 100:: .row 100 4 (V2) (m+1) (vs++[.int .i64 (1+(k:Int)),.string (str x),.int .i64 0,.int .i64 0]):: .box g6 [.int .i64 1,.bool false,.bool false,.bool false,.string ⟨#[]⟩,.string ⟨#[]⟩,.slice none 0 0,.slice none 0 0,.slice none 0 0,.slice none 0 0,.slice none 0 0,.slice none 0 0,.slice Av m cv,.bool false,.slice none 0 0,.int .i64 0,.int .i64 0] 43:: .box g4 [.int .i64 0,.bool false,.bool false,.bool false,.string ⟨#[]⟩,.string ⟨#[]⟩,.slice none 0 0,.slice none 0 0,.slice none 0 0,.slice none 0 0,.slice none 0 0,.slice none 0 0,.slice none 0 0,.bool false,.slice none 0 0,.int .i64 0,.int .i64 0] 43:: .box g [.int .i64 0,.bool false,.bool false,.bool false,.string ⟨#[]⟩,.string ⟨#[]⟩,.slice none 0 0,.slice none 0 0,.slice none 0 0,.slice none 0 0,.slice none 0 0,.slice none 0 0,.slice none 0 0,.bool false,.slice none 0 0,.int .i64 0,.int .i64 0,.slice (some ad2) nt ct,.map (some ga),VD,.map (some gd),.map (some gf),.map (some go)] 91::M):=H;obtain ⟨V2A,V2c,rfl,V2l,V2m⟩:=H.slice (i:=1) rfl;have:=H.c 2 12)
      |((with_reducible refine isL ?_);first
       |(refine s1 56 2 (.slice V2A (m+1) V2c) H ?_;clear H;intro w10 H;have:=H.c 2 12)))
     replace H:=H.sub (Qai _ (Qaa _ (Qaa _ (Qaa _ (Qaa _ (Qam _))))))
     go_wp2_with fail
     go_roundw
     case rel=>exact ⟨k+1,_,_,by omega,by go_num,by rw [HE.out];simp only [Qae,List.length_cons,List.length_nil,HM.out];exact H,by rw [HE.out];exact x3n hvs⟩
     case measure=>simp [intOf];omega
    ·rw [if_neg h3,List.append_nil] at HE;have:=H.c 3 18
     go_upto_region 8 with (first
      |(refine y08 (by rfl) (.tmp 31) (.tmp 32) 87 true (by rfl) Tryz.underlying87 (y07 Tryz.underlying9) (.int .i64 0) y0n ga (nmap (y0a ts)) (H.kmap hat) (by first|rfl|simp [Act.eval,Act.put]) (x) (by first|rfl|simp [Act.eval,Act.put]) (.tuple #[.int .i64 (i:Int),.bool true]) (by rw [hq];rfl) ?_))
     have:=H.c 3 17
     go_upto_region 9 with (fail)
     go_wp2_with fail
     go_roundw
     case rel=>exact ⟨k+1,_,vs,by omega,by go_num,by rw [HE.out,HM.out];exact H,by rw [HE.out];exact hvs⟩
     case measure=>simp [intOf];omega
  ·obtain rfl:k=3:=by omega
   rw [x3m] at H hvs hrs;clear hrs;replace H:Hp _ _ _ (_:: .box _ [_,_,_,_,_,_,_,_,_,_,_,_,_,_,_,_,_] _:: .box _ [_,_,_,_,_,_,_,_,_,_,_,_,_,_,_,_,_] _:: .box _ [_,_,_,_,_,_,_,_,_,_,_,_,_,_,_,_,_,_,_,_,_,_,_] _::M):=H
   try dsimp only at H
   go_upto_region 11 with (fail)
   go_wp2_with (first
    |((with_reducible refine isL ?_);first
     |(refine ld 6 1 17 Tryz.underlying43 H ?_)
     |(refine sA 4 2 H ?_;clear H;intro w11 H)))
   refine bodyPost_ret (v:=.agg #[.int .i64 1,.bool false,.bool false,.bool false,.string ⟨#[]⟩,.string ⟨#[]⟩,.slice none 0 0,.slice none 0 0,.slice none 0 0,.slice none 0 0,.slice none 0 0,.slice none 0 0,.slice Av (y8p ts).length cv,.bool false,.slice none 0 0,.int .i64 0,.int .i64 0]) (results_cell_row rfl _ _ g4 43 _ (0,0) _ (by rfl) (H.blkAt (i:=2) rfl) Tryz.underlying43 rfl (by kernel_rfl)) rfl ?_;replace H:=H.sub (Qaa _ (Qai _ (Qai _ (Qaa _ (Qam _)))));obtain ⟨K',hle,H,hv⟩:=H.freezeRow hvs;exact ⟨K',_,rfl,hle.trans hK,H,.lit (.lit (.lit (.lit (.lit (.lit (.cons RD.z (.cons RD.z (.cons RD.z (.cons RD.z (.cons RD.z (.cons RD.z (.cons hv (.lit (.cons RD.z (.lit (.lit RL.z))))))))))))))))⟩
end Go.Proofs.YtbpgkkoeehopjaaGreat.hp
