/- Part 14 of a proof: see the text that holds the statement. -/
import Derived.Test.YtbpgkkoeehopjaaGreatP4
import Derived.Test.YtbpgkkoeehopjaaGreatP8
set_option linter.unusedVariables false
set_option linter.unusedSimpArgs false
namespace Go.Proofs.YtbpgkkoeehopjaaGreat.gram
open tree
set_option maxRecDepth 100000
def y51 (g:List Txt→Option (List Txt)):List (List Txt)→Option (List Txt)
 |[]=>some []
 |c::r=>match g c with
  |none=>none
  |some a=>match y51 g r with
   |none=>none
   |some b=>some (a++b)
def y5g (g:List Txt→Option (List Txt)) (nu:Txt→Option Bool) (R:List RuleD):List Txt→Option (List Txt)
 |[]=>some []
 |s::r=>
  if s=[]∨1000<s.length then none
  else if y3p s=true then
   match y51 g (y02 R s) with
   |none=>none
   |some F=>match nu s with
    |none=>none
    |some true=>(match y5g g nu R r with
     |none=>none
     |some G=>some (F++G))
    |some false=>some F
  else some [s]
def x1j (R:List RuleD) (nf:Nat):Nat→List Txt→Option (List Txt)
 |0,_=>none
 |f+1,l=>y5g (x1j R nf f) (y9c R nf) R l
def fits (F:List Txt) (t:TokD):Bool:=F.any fun s=>y1a s t
theorem z51 (F G:List Txt) (t:TokD):fits (F++G) t=(fits F t||fits G t):=by simp [fits]
theorem z7u {g:List Txt→Option (List Txt)} {b:List Txt→Option Bool} {t:TokD} (h: ∀l F,g l=some F→b l=some (fits F t)): ∀{cs:List (List Txt)} {F:List Txt},y51 g cs=some F→anyO b cs=some (fits F t)
 |[],F,hF=>by rw [y51] at hF;injection hF with hF;subst hF;rfl
 |c::r,F,hF=>by
  rw [y51] at hF
  cases hg:g c with
  |none=>rw [hg] at hF;cases hF
  |some a=>
   rw [hg] at hF
   cases hr:y51 g r with
   |none=>rw [hr] at hF;cases hF
   |some G=>
    rw [hr] at hF;injection hF with hF;subst hF;rw [anyO,h c a hg,z51]
    cases fits a t with
    |true=>rfl
    |false=>exact z7u h hr
theorem z4n {g:List Txt→Option (List Txt)} {b:List Txt→Option Bool} {nu:Txt→Option Bool} {R:List RuleD} {t:TokD} (h: ∀l F,g l=some F→b l=some (fits F t)): ∀{l F:List Txt},y5g g nu R l=some F→y5p b nu R t l=some (fits F t)
 |[],F,hF=>by rw [y5g] at hF;injection hF with hF;subst hF;rfl
 |s::r,F,hF=>by
  rw [y5g] at hF;rw [y5p];by_cases h0:s=[]∨1000<s.length
  ·rw [if_pos h0] at hF;cases hF
  rw [if_neg h0] at hF ⊢
  cases hr:y3p s with
  |false=>
   rw [hr,if_neg (by decide)] at hF;rw [if_neg (by decide)];injection hF with hF;subst hF;simp [fits]
  |true=>
   rw [hr,if_pos rfl] at hF;rw [if_pos rfl]
   cases ha:y51 g (y02 R s) with
   |none=>rw [ha] at hF;cases hF
   |some G=>
    rw [ha] at hF;rw [z7u h ha]
    cases hz:nu s with
    |none=>rw [hz] at hF;cases hF
    |some z=>
     rw [hz] at hF
     cases z with
     |false=>
      injection hF with hF;subst hF
      cases fits G t<;>rfl
     |true=>
      simp only at hF
      cases hf:y5g g nu R r with
      |none=>rw [hf] at hF;cases hF
      |some H=>
       rw [hf] at hF;injection hF with hF;subst hF;rw [z51]
       cases fits G t with
       |true=>rfl
       |false=>exact z4n h hf
theorem z7v {R:List RuleD} {nf:Nat} {t:TokD}: ∀{f:Nat} {l F:List Txt},x1j R nf f l=some F→begF R nf t f l=some (fits F t)
 |0,l,F,h=>by cases h
 |f+1,l,F,h=>z4n (fun l F h=>z7v h) h
def z9o (R:List RuleD) (nf bf:Nat):List (List Txt)→Option (List (List Txt×List Txt))
 |[]=>some []
 |c::r=>match x1j R nf bf c with
  |none=>none
  |some F=>match z9o R nf bf r with
   |none=>none
   |some T=>some ((F,c)::T)
def pick (t:TokD):List (List Txt×List Txt)→Option (List Txt)
 |[]=>none
 |(F,c)::r=>if fits F t=true then some c else pick t r
theorem x1k {R:List RuleD} {nf bf:Nat} {t:TokD}: ∀{cs:List (List Txt)} {T:List (List Txt×List Txt)},z9o R nf bf cs=some T→choF (begF R nf t bf) cs=some (pick t T)
 |[],T,h=>by rw [z9o] at h;injection h with h;subst h;rfl
 |c::r,T,h=>by
  rw [z9o] at h
  cases hf:x1j R nf bf c with
  |none=>rw [hf] at h;cases h
  |some F=>
   rw [hf] at h
   cases hr:z9o R nf bf r with
   |none=>rw [hr] at h;cases h
   |some U=>
    rw [hr] at h;injection h with h;subst h;rw [choF,z7v hf,pick]
    cases fits F t with
    |true=>rfl
    |false=>exact x1k hr
def tabF (R:List RuleD) (nf bf:Nat) (s:Txt):Option (List (List Txt×List Txt)×Bool):=
 match z9o R nf bf (y02 R s) with
 |none=>none
 |some T=>match y9c R nf s with
  |none=>none
  |some z=>some (T,z)
theorem z4o {R:List RuleD} {nf bf:Nat} {t:TokD} {s:Txt} {T:List (List Txt×List Txt)} {z:Bool} (h:tabF R nf bf s=some (T,z)):y92 R nf bf t s=some (match pick t T with|some c=>(c,true)|none=>([],z)):=by
 unfold tabF at h
 cases hr:z9o R nf bf (y02 R s) with
 |none=>rw [hr] at h;cases h
 |some U=>
  rw [hr] at h
  cases hz:y9c R nf s with
  |none=>rw [hz] at h;cases h
  |some y=>
   rw [hz] at h;injection h with h;injection h with h1 h2;subst h1 h2;unfold y92;rw [x1k hr]
   cases pick t U with
   |none=>simp only [hz]
   |some c=>rfl
abbrev nfG:Nat:=40
abbrev bfG:Nat:=40
def tabG (s:Txt):Option (List (List Txt×List Txt)×Bool):=tabF rulesG nfG bfG s
def q3y (R:List RuleD):Nat→Txt→Nat
 |0,_=>0
 |f+1,s=>if y3p s=true then ((y02 R s).map fun c=>match c with|[]=>0|x::_=>q3y R f x).foldl max 0+1 else 0
def rank (s:Txt):Nat:=q3y rulesG 40 s
def z0h (s:Txt):List Txt:=if y3p s=true then (match tabG s with
 |some (T,_)=>T.flatMap (·.1)
 |none=>[]) else [s]
def z7w (s:Txt):Bool:=decide (s≠[])&&decide (s.length≤1000)&&(!y3p s||(rulesG.any fun r=>decide (r.name=s)))
abbrev endT:Txt:=[46,101,110,100]
def q3z (s:Txt) (p:List Txt×List Txt):Bool:=match p.2 with
 |[]=>p.1.isEmpty
 |x::r=>decide (r.length≤11)&&(x::r).all z7w&&decide (p.1=z0h x)&&decide (rank x<rank s)&&decide (endT∉p.1)
def q58 (s:Txt):Bool:=match tabG s with
 |some (T,_)=>T.all (q3z s)
 |none=>false
theorem q59: ∀r∈rulesG,(q58 r.name&&decide (rank r.name≤12))=true:=by decide+kernel
theorem x1l {s:Txt} (h:z7w s=true) (hr:y3p s=true):(∃T z,tabG s=some (T,z)∧ ∀p∈T,q3z s p=true)∧rank s≤12:=by
 unfold z7w at h;rw [hr] at h;simp only [Bool.not_true,Bool.false_or,Qao,Qbh,decide_eq_true_eq] at h;obtain ⟨_,r,hm,rfl⟩:=h;have h1:=q59 r hm;simp only [Qao,decide_eq_true_eq] at h1;refine ⟨?_,h1.2⟩;have h2:=h1.1;unfold q58 at h2
 cases ht:tabG r.name with
 |none=>rw [ht] at h2;cases h2
 |some p=>
  obtain ⟨T,z⟩:=p;rw [ht] at h2;exact ⟨T,z,rfl,Qbi.1 h2⟩
theorem q6a {s:Txt} (h:z7w s=true): ¬(s=[]∨1000<s.length):=by
 unfold z7w at h;simp only [Qao,decide_eq_true_eq] at h;rintro (h0|h0)
 ·exact h.1.1 h0
 ·have:=h.1.2;omega
theorem z7x {s:Txt} (h:y3p s=false):rank s=0:=by
 unfold rank q3y;rw [h,if_neg (by decide)]
theorem z2s {s:Txt} {t:TokD} (h:y1a s t=true):t.kind≠1∧(s≠endT→t.kind≠0):=by
 unfold y1a at h;split at h
 ·have:t.kind=3:=by simpa using h
  omega
 split at h
 ·simp only [Qao] at h
  have:t.kind=3:=by simpa using h.1
  omega
 split at h
 ·simp only [Qao] at h
  have:t.kind=3:=by simpa using h.1
  omega
 split at h
 ·simp only [Qao] at h
  have:t.kind=3:=by simpa using h.1
  omega
 split at h
 ·simp only [Bool.or_eq_true] at h;rcases h with h|h
  ·have:t.kind=6:=by simpa using h
   omega
  ·have:t.kind=7:=by simpa using h
   omega
 split at h
 ·simp only [Bool.or_eq_true] at h;rcases h with h|h
  ·have:t.kind=4:=by simpa using h
   omega
  ·have:t.kind=5:=by simpa using h
   omega
 split at h
 ·rename_i he
  have:t.kind=0:=by simpa using h
  exact ⟨by omega,fun h=>absurd he h⟩
 cases s with
 |nil=>cases h
 |cons c r=>
  simp only at h;split at h
  ·simp only [Qao] at h
   have:t.kind=3:=by simpa using h.1
   omega
  ·simp only [Qao] at h
   have:t.kind=2:=by simpa using h.1
   omega
theorem y4y {F:List Txt} {t:TokD} (h:fits F t=true) (hn:endT∉F):t.kind≠0:=by
 unfold fits at h;obtain ⟨s,hs,hf⟩:=Qbh.1 h;exact (z2s hf).2 (fun e=>hn (e▸hs))
theorem z7y {t:TokD} {c:List Txt}: ∀{T:List (List Txt×List Txt)},pick t T=some c→ ∃F,(F,c)∈T∧fits F t=true
 |[],h=>by cases h
 |(F,d)::r,h=>by
  rw [pick] at h;split at h
  ·rename_i hf;injection h with h;subst h;exact ⟨F,Qaz ..,hf⟩
  ·obtain ⟨G,hm,hG⟩:=z7y h;exact ⟨G,Qa2 _ hm,hG⟩
theorem z7z {t:TokD}: ∀{T:List (List Txt×List Txt)},pick t T=none→fits (T.flatMap (·.1)) t=false
 |[],h=>rfl
 |(F,d)::r,h=>by
  rw [pick] at h;split at h
  ·cases h
  ·rename_i hf;rw [List.flatMap_cons,z51,z7z h];simpa using hf
theorem q09 {t:TokD} {F G:List Txt} (h:fits F t=true) (hs: ∀x∈F,x∈G):fits G t=true:=by
 unfold fits at h ⊢;obtain ⟨s,hm,hf⟩:=Qbh.1 h;exact Qbh.2 ⟨s,hs s hm,hf⟩
structure TokE (toks:List TokD):Prop where
 ends: ∀k t,toks[k]?=some t→((t.kind=0∨t.kind=1)↔k+1=toks.length)
def sure (t:TokD) (s:Txt):Bool:=fits (z0h s) t&&(t.kind !=0)
def phi (toks:List TokD) (st:List Txt) (k:Nat):Nat:=match st,toks[k]? with
 |s::r,some t=>if sure t s=true then (s::r).length+200*(toks.length - k - 1)+12*rank s else (s::r).length+200*(toks.length - k)
 |_,_=>200*(toks.length - k)
theorem x1m {toks:List TokD} {st:List Txt} {k:Nat} (hok: ∀s∈st,z7w s=true) (hk:k<toks.length):phi toks st k≤st.length+200*(toks.length - k):=by
 unfold phi;split
 ·rename_i s r t ht;split
  ·have hr:rank s≤12:=by
    cases hr:y3p s with
    |true=>exact (x1l (hok s (Qaz ..)) hr).2
    |false=>rw [z7x hr];omega
   omega
  ·omega
 ·omega
theorem y9p (toks:List TokD) (depth:Int) (hE:TokE toks): ∀(f:Nat) (st:List Txt) (k:Nat) (op:Int),k<toks.length→(∀s∈st,z7w s=true)→phi toks st k<f→f≤900000000→ ∃r,runF rulesG nfG bfG toks depth f st k op=some r
 |0,st,k,op,hk,hok,hp,hf=>by omega
 |f+1,[],k,op,hk,hok,hp,hf=>⟨_,rfl⟩
 |f+1,s::r,k,op,hk,hok,hp,hf=>by
  obtain ⟨t,ht⟩: ∃t,toks[k]?=some t:=⟨_,Qad hk⟩;have hs:=hok s (Qaz ..);have hrest: ∀x∈r,z7w x=true:=fun x hx=>hok x (Qa2 _ hx)
  have hp0:phi toks (s::r) k=if sure t s=true then (s::r).length+200*(toks.length - k - 1)+12*rank s else (s::r).length+200*(toks.length - k):=by unfold phi;simp only [ht]
  rw [hp0] at hp;rw [runF,ht];simp only;rw [if_neg (q6a hs)]
  cases hr:y3p s with
  |true=>
   rw [if_pos rfl];obtain ⟨⟨T,z,hT,hall⟩,hrk⟩:=x1l hs hr
   have hfs:z0h s=T.flatMap (·.1):=by unfold z0h;rw [hr,if_pos rfl,hT]
   rw [z4o hT]
   cases hpk:pick t T with
   |none=>
    have hns:sure t s=false:=by unfold sure;rw [hfs,z7z hpk];rfl
    rw [hns,if_neg (by decide)] at hp
    cases z with
    |false=>exact ⟨_,rfl⟩
    |true=>
     simp only [List.nil_append,List.length_nil];have h1:=x1m hrest hk;simp only [List.length_cons] at hp;rw [if_neg (by omega)];exact y9p toks depth hE f r k op hk hrest (by omega) (by omega)
   |some c=>
    obtain ⟨F,hm,hF⟩:=z7y hpk;have hro:=hall _ hm;unfold q3z at hro
    cases c with
    |nil=>
     simp only [List.isEmpty_iff] at hro;subst hro;cases hF
    |cons x c=>
     simp only [Qao,decide_eq_true_eq,Qbi] at hro;obtain ⟨⟨⟨⟨h1,h2⟩,h3⟩,h4⟩,h5⟩:=hro;have hk0:=y4y hF h5
     have hsu:sure t s=true:=by
      unfold sure;rw [hfs,q09 hF (fun y hy=>List.mem_flatMap.2 ⟨_,hm,hy⟩)];simpa using hk0
     have hsx:sure t x=true:=by
      unfold sure;rw [←h3,hF];simpa using hk0
     rw [hsu,if_pos rfl] at hp;simp only [List.length_cons] at hp;simp only [List.length_cons]
     have hpx:phi toks (x::c++r) k=(x::c++r).length+200*(toks.length - k - 1)+12*rank x:=by
      unfold phi;simp only [ht,List.cons_append];rw [hsx,if_pos rfl]
     have hl:(x::c++r).length=c.length+1+r.length:=by simp;omega
     rw [if_neg (by omega)];refine y9p toks depth hE f (x::c++r) k op hk ?_ (by omega) (by omega);intro y hy;rcases Qbf.1 hy with hy|hy
     ·exact h2 y hy
     ·exact hrest y hy
  |false=>
   rw [if_neg (by decide)]
   cases hft:y1a s t with
   |false=>exact ⟨_,rfl⟩
   |true=>
    rw [if_neg (by decide)];by_cases hb:y1p s=1∧depth≤op
    ·rw [if_pos hb];exact ⟨_,rfl⟩
    rw [if_neg hb]
    have hfs:z0h s=[s]:=by unfold z0h;rw [hr,if_neg (by decide)]
    have hk1:=(z2s hft).1;by_cases h0:t.kind=0
    ·have hl:=(hE.ends k t ht).1 (.inl h0)
     have hns:sure t s=false:=by unfold sure;rw [h0];simp
     rw [hns,if_neg (by decide)] at hp;simp only [List.length_cons] at hp;rw [if_neg (by omega)];have h1:=x1m hrest hk;exact y9p toks depth hE f r k _ hk hrest (by omega) (by omega)
    ·have hl: ¬k+1=toks.length:=fun e=>by have:=(hE.ends k t ht).2 e;omega
     have hsu:sure t s=true:=by
      unfold sure;rw [hfs];simp only [fits,List.any_cons,List.any_nil,hft,Bool.or_false,Bool.true_and];simpa using h0
     rw [hsu,if_pos rfl,z7x hr] at hp;simp only [List.length_cons] at hp
     have hk2:k+1<toks.length:=by omega
     rw [if_pos hk2];have h1:=x1m hrest hk2;exact y9p toks depth hE f r (k+1) _ hk2 hrest (by omega) (by omega)
def Runs (toks:List TokD) (n:Nat) (st:List Txt) (k:Nat) (op:Int):Prop:=runF rulesG nfG bfG toks 200 n st k op=some (0,0,0)
def Alt:List (List Txt×List Txt)→Bool→TokD→(List Txt→Prop)→Prop
 |[],true,_,P=>P []
 |[],false,_,_=>False
 |(F,c)::r,z,t,P=>(fits F t=true∧P c)∨(fits F t=false∧Alt r z t P)
theorem x1n {t:TokD} {P:List Txt→Prop} {z:Bool}: ∀{T:List (List Txt×List Txt)},(∀c,pick t T=some c→P c)→(pick t T=none→z=true∧P [])→Alt T z t P
 |[],h1,h2=>by
  obtain ⟨rfl,h⟩:=h2 rfl;exact h
 |(F,c)::r,h1,h2=>by
  cases hf:fits F t with
  |true=>exact .inl ⟨hf,h1 c (by rw [pick,if_pos hf])⟩
  |false=>
   have he:pick t ((F,c)::r)=pick t r:=by rw [pick,if_neg (by rw [hf];decide)]
   rw [he] at h1 h2;exact .inr ⟨hf,x1n h1 h2⟩
theorem Runs.rule {toks:List TokD} {n k:Nat} {s:Txt} {rest:List Txt} {op:Int} {T:List (List Txt×List Txt)} {z:Bool} (h:Runs toks n (s::rest) k op) (hT:tabG s=some (T,z)) (hs:(decide (s≠[])&&decide (s.length≤1000)&&y3p s)=true):
  ∃m t,n=m+1∧toks[k]?=some t∧Alt T z t (fun c=>Runs toks m (c++rest) k op):=by
 simp only [Qao,decide_eq_true_eq] at hs;unfold Runs at h
 cases n with
 |zero=>cases h
 |succ m=>
  rw [runF] at h
  cases ht:toks[k]? with
  |none=>rw [ht] at h;cases h
  |some t=>
   rw [ht] at h;simp only at h;rw [if_neg (by rintro (h0|h0);exact hs.1.1 h0;have:=hs.1.2;omega),hs.2,if_pos rfl,z4o hT] at h;refine ⟨m,t,rfl,rfl,x1n ?_ ?_⟩
   ·intro c hc;rw [hc] at h;simp only at h;split at h
    ·cases h
    ·exact h
   ·intro hc;rw [hc] at h
    cases z with
    |false=>simp at h
    |true=>
     simp only at h;split at h
     ·cases h
     ·exact ⟨rfl,h⟩
abbrev nDOC:Txt:=[68,79,67]
abbrev z71:Txt:=[68,69,70,83]
abbrev nDEF:Txt:=[68,69,70]
abbrev z9p:Txt:=[66,79,68,89]
abbrev z72:Txt:=[88,66,79,68,89]
abbrev z1g:Txt:=[88,83,67,72,69,77,65]
abbrev y8t:Txt:=[82,79,79,84,83,48]
abbrev y5h:Txt:=[82,79,79,84,83]
abbrev z2t:Txt:=[82,79,79,84,76]
abbrev z73:Txt:=[82,79,79,84]
abbrev y38:Txt:=[88,79,66,74,69,67,84]
abbrev y45:Txt:=[73,70,65,67,69,83]
abbrev y52:Txt:=[73,70,65,67,69,83,49]
abbrev nAMP:Txt:=[65,77,80]
abbrev y8u:Txt:=[73,70,65,67,69,76]
abbrev y27:Txt:=[70,73,69,76,68,83]
abbrev y53:Txt:=[70,73,69,76,68,83,49]
abbrev y8v:Txt:=[70,73,69,76,68,76]
abbrev z03:Txt:=[70,73,69,76,68]
abbrev y8w:Txt:=[70,73,69,76,68,48]
abbrev y61:Txt:=[73,78,80,85,84,83]
abbrev y46:Txt:=[86,65,76,85,69,76]
abbrev y8c:Txt:=[86,65,76,85,69]
abbrev y8x:Txt:=[86,65,76,85,69,48]
abbrev z1h:Txt:=[68,69,70,65,85,76,84]
abbrev y39:Txt:=[77,69,77,66,69,82,83]
abbrev y4q:Txt:=[77,69,77,66,69,82,83,49]
abbrev y54:Txt:=[77,69,77,66,69,82,76]
abbrev nBAR:Txt:=[66,65,82]
abbrev z0i:Txt:=[88,85,78,73,79,78]
abbrev y9q:Txt:=[67,65,83,69,83]
abbrev y8y:Txt:=[67,65,83,69,83,49]
abbrev z2u:Txt:=[67,65,83,69,76]
abbrev z74:Txt:=[67,65,83,69]
abbrev z2v:Txt:=[67,65,83,69,48]
abbrev z4p:Txt:=[88,69,78,85,77]
abbrev y55:Txt:=[66,76,65,78,75,83]
abbrev y56:Txt:=[66,76,65,78,75,83,49]
abbrev z0j:Txt:=[88,73,78,80,85,84]
abbrev z2w:Txt:=[82,69,80,69,65,84]
abbrev y47:Txt:=[80,76,65,67,69,83]
abbrev y04:Txt:=[68,73,82,83]
abbrev nDIR:Txt:=[68,73,82]
abbrev x7r:Txt:=[65,82,71,83]
abbrev z75:Txt:=[65,82,71,76]
abbrev nARG:Txt:=[65,82,71]
abbrev nLIT:Txt:=[76,73,84]
abbrev z9q:Txt:=[76,73,84,76]
abbrev z9r:Txt:=[79,66,74,76]
abbrev z54:Txt:=[84,89,80,69]
abbrev z78:Txt:=[84,89,80,69,48]
abbrev x3y:Txt:=[66,65,78,71]
theorem q30:tabG nDOC=some ([([[46,115,116,114],[39,115,99,104,101,109,97],[39,115,99,97,108,97,114],[39,116,121,112,101],[39,105,110,116,101,114,102,97,99,101],[39,117,110,105,111,110],[39,101,110,117,109],[39,105,110,112,117,116],[39,100,105,114,101,99,116,105,118,101],[39,101,120,116,101,110,100]],[nDEF,z71,[46,101,110,100]])],false):=by kernel_rfl
theorem q6b {toks:List TokD} {n k:Nat} {rest:List Txt} {op:Int} (h:Runs toks n (nDOC::rest) k op): ∃m t,n=m+1∧toks[k]?=some t∧((fits [[46,115,116,114],[39,115,99,104,101,109,97],[39,115,99,97,108,97,114],[39,116,121,112,101],[39,105,110,116,101,114,102,97,99,101],[39,117,110,105,111,110],[39,101,110,117,109],[39,105,110,112,117,116],[39,100,105,114,101,99,116,105,118,101],[39,101,120,116,101,110,100]] t=true∧Runs toks m (nDEF::z71::[46,101,110,100]::rest) k op)∨(fits [[46,115,116,114],[39,115,99,104,101,109,97],[39,115,99,97,108,97,114],[39,116,121,112,101],[39,105,110,116,101,114,102,97,99,101],[39,117,110,105,111,110],[39,101,110,117,109],[39,105,110,112,117,116],[39,100,105,114,101,99,116,105,118,101],[39,101,120,116,101,110,100]] t=false∧(False))):=h.rule q30 (by decide+kernel)
theorem q1a:tabG z71=some ([([[46,115,116,114],[39,115,99,104,101,109,97],[39,115,99,97,108,97,114],[39,116,121,112,101],[39,105,110,116,101,114,102,97,99,101],[39,117,110,105,111,110],[39,101,110,117,109],[39,105,110,112,117,116],[39,100,105,114,101,99,116,105,118,101],[39,101,120,116,101,110,100]],[nDEF,z71]),([],[])],true):=by kernel_rfl
theorem q31 {toks:List TokD} {n k:Nat} {rest:List Txt} {op:Int} (h:Runs toks n (z71::rest) k op): ∃m t,n=m+1∧toks[k]?=some t∧((fits [[46,115,116,114],[39,115,99,104,101,109,97],[39,115,99,97,108,97,114],[39,116,121,112,101],[39,105,110,116,101,114,102,97,99,101],[39,117,110,105,111,110],[39,101,110,117,109],[39,105,110,112,117,116],[39,100,105,114,101,99,116,105,118,101],[39,101,120,116,101,110,100]] t=true∧Runs toks m (nDEF::z71::rest) k op)∨(fits [[46,115,116,114],[39,115,99,104,101,109,97],[39,115,99,97,108,97,114],[39,116,121,112,101],[39,105,110,116,101,114,102,97,99,101],[39,117,110,105,111,110],[39,101,110,117,109],[39,105,110,112,117,116],[39,100,105,114,101,99,116,105,118,101],[39,101,120,116,101,110,100]] t=false∧((fits [] t=true∧Runs toks m (rest) k op)∨(fits [] t=false∧(Runs toks m rest k op))))):=h.rule q1a (by decide+kernel)
theorem q32:tabG nDEF=some ([([[46,115,116,114]],[[46,115,116,114],z9p]),([[39,115,99,104,101,109,97],[39,115,99,97,108,97,114],[39,116,121,112,101],[39,105,110,116,101,114,102,97,99,101],[39,117,110,105,111,110],[39,101,110,117,109],[39,105,110,112,117,116],[39,100,105,114,101,99,116,105,118,101]],[z9p]),([[39,101,120,116,101,110,100]],[[39,101,120,116,101,110,100],z72])],false):=by kernel_rfl
theorem q6c {toks:List TokD} {n k:Nat} {rest:List Txt} {op:Int} (h:Runs toks n (nDEF::rest) k op): ∃m t,n=m+1∧toks[k]?=some t∧((fits [[46,115,116,114]] t=true∧Runs toks m ([46,115,116,114]::z9p::rest) k op)∨(fits [[46,115,116,114]] t=false∧((fits [[39,115,99,104,101,109,97],[39,115,99,97,108,97,114],[39,116,121,112,101],[39,105,110,116,101,114,102,97,99,101],[39,117,110,105,111,110],[39,101,110,117,109],[39,105,110,112,117,116],[39,100,105,114,101,99,116,105,118,101]] t=true∧Runs toks m (z9p::rest) k op)∨(fits [[39,115,99,104,101,109,97],[39,115,99,97,108,97,114],[39,116,121,112,101],[39,105,110,116,101,114,102,97,99,101],[39,117,110,105,111,110],[39,101,110,117,109],[39,105,110,112,117,116],[39,100,105,114,101,99,116,105,118,101]] t=false∧((fits [[39,101,120,116,101,110,100]] t=true∧Runs toks m ([39,101,120,116,101,110,100]::z72::rest) k op)∨(fits [[39,101,120,116,101,110,100]] t=false∧(False))))))):=h.rule q32 (by decide+kernel)
theorem q1b:tabG z9p=some ([([[39,115,99,104,101,109,97]],[[39,115,99,104,101,109,97],y04,y5h]),([[39,115,99,97,108,97,114]],[[39,115,99,97,108,97,114],[46,110,97,109,101],y04]),([[39,116,121,112,101]],[[39,116,121,112,101],[46,110,97,109,101],y45,y04,y27]),([[39,105,110,116,101,114,102,97,99,101]],[[39,105,110,116,101,114,102,97,99,101],[46,110,97,109,101],y45,y04,y27]),([[39,117,110,105,111,110]],[[39,117,110,105,111,110],[46,110,97,109,101],y04,y39]),([[39,101,110,117,109]],[[39,101,110,117,109],[46,110,97,109,101],y04,y9q]),([[39,105,110,112,117,116]],[[39,105,110,112,117,116],[46,110,97,109,101],y04,y55]),([[39,100,105,114,101,99,116,105,118,101]],[[39,100,105,114,101,99,116,105,118,101],[64],[46,110,97,109,101],y61,z2w,[39,111,110],nBAR,[46,112,108,97,99,101],y47])],false):=by kernel_rfl
theorem q33 {toks:List TokD} {n k:Nat} {rest:List Txt} {op:Int} (h:Runs toks n (z9p::rest) k op): ∃m t,n=m+1∧toks[k]?=some t∧((fits [[39,115,99,104,101,109,97]] t=true∧Runs toks m ([39,115,99,104,101,109,97]::y04::y5h::rest) k op)∨(fits [[39,115,99,104,101,109,97]] t=false∧((fits [[39,115,99,97,108,97,114]] t=true∧Runs toks m ([39,115,99,97,108,97,114]::[46,110,97,109,101]::y04::rest) k op)∨(fits [[39,115,99,97,108,97,114]] t=false∧((fits [[39,116,121,112,101]] t=true∧Runs toks m ([39,116,121,112,101]::[46,110,97,109,101]::y45::y04::y27::rest) k op)∨(fits [[39,116,121,112,101]] t=false∧((fits [[39,105,110,116,101,114,102,97,99,101]] t=true∧Runs toks m ([39,105,110,116,101,114,102,97,99,101]::[46,110,97,109,101]::y45::y04::y27::rest) k op)∨(fits [[39,105,110,116,101,114,102,97,99,101]] t=false∧((fits [[39,117,110,105,111,110]] t=true∧Runs toks m ([39,117,110,105,111,110]::[46,110,97,109,101]::y04::y39::rest) k op)∨(fits [[39,117,110,105,111,110]] t=false∧((fits [[39,101,110,117,109]] t=true∧Runs toks m ([39,101,110,117,109]::[46,110,97,109,101]::y04::y9q::rest) k op)∨(fits [[39,101,110,117,109]] t=false∧((fits [[39,105,110,112,117,116]] t=true∧Runs toks m ([39,105,110,112,117,116]::[46,110,97,109,101]::y04::y55::rest) k op)∨(fits [[39,105,110,112,117,116]] t=false∧((fits [[39,100,105,114,101,99,116,105,118,101]] t=true∧Runs toks m ([39,100,105,114,101,99,116,105,118,101]::[64]::[46,110,97,109,101]::y61::z2w::[39,111,110]::nBAR::[46,112,108,97,99,101]::y47::rest) k op)∨(fits [[39,100,105,114,101,99,116,105,118,101]] t=false∧(False))))))))))))))))):=h.rule q1b (by decide+kernel)
theorem x7s:tabG z72=some ([([[39,115,99,104,101,109,97]],[[39,115,99,104,101,109,97],z1g]),([[39,115,99,97,108,97,114]],[[39,115,99,97,108,97,114],[46,110,97,109,101],nDIR,y04]),([[39,116,121,112,101]],[[39,116,121,112,101],[46,110,97,109,101],y38]),([[39,105,110,116,101,114,102,97,99,101]],[[39,105,110,116,101,114,102,97,99,101],[46,110,97,109,101],y38]),([[39,117,110,105,111,110]],[[39,117,110,105,111,110],[46,110,97,109,101],z0i]),([[39,101,110,117,109]],[[39,101,110,117,109],[46,110,97,109,101],z4p]),([[39,105,110,112,117,116]],[[39,105,110,112,117,116],[46,110,97,109,101],z0j])],false):=by kernel_rfl
theorem q1c {toks:List TokD} {n k:Nat} {rest:List Txt} {op:Int} (h:Runs toks n (z72::rest) k op): ∃m t,n=m+1∧toks[k]?=some t∧((fits [[39,115,99,104,101,109,97]] t=true∧Runs toks m ([39,115,99,104,101,109,97]::z1g::rest) k op)∨(fits [[39,115,99,104,101,109,97]] t=false∧((fits [[39,115,99,97,108,97,114]] t=true∧Runs toks m ([39,115,99,97,108,97,114]::[46,110,97,109,101]::nDIR::y04::rest) k op)∨(fits [[39,115,99,97,108,97,114]] t=false∧((fits [[39,116,121,112,101]] t=true∧Runs toks m ([39,116,121,112,101]::[46,110,97,109,101]::y38::rest) k op)∨(fits [[39,116,121,112,101]] t=false∧((fits [[39,105,110,116,101,114,102,97,99,101]] t=true∧Runs toks m ([39,105,110,116,101,114,102,97,99,101]::[46,110,97,109,101]::y38::rest) k op)∨(fits [[39,105,110,116,101,114,102,97,99,101]] t=false∧((fits [[39,117,110,105,111,110]] t=true∧Runs toks m ([39,117,110,105,111,110]::[46,110,97,109,101]::z0i::rest) k op)∨(fits [[39,117,110,105,111,110]] t=false∧((fits [[39,101,110,117,109]] t=true∧Runs toks m ([39,101,110,117,109]::[46,110,97,109,101]::z4p::rest) k op)∨(fits [[39,101,110,117,109]] t=false∧((fits [[39,105,110,112,117,116]] t=true∧Runs toks m ([39,105,110,112,117,116]::[46,110,97,109,101]::z0j::rest) k op)∨(fits [[39,105,110,112,117,116]] t=false∧(False))))))))))))))):=h.rule x7s (by decide+kernel)
theorem z9s:tabG z1g=some ([([[64]],[nDIR,y04,y8t]),([[123]],[y5h])],false):=by kernel_rfl
theorem x3z {toks:List TokD} {n k:Nat} {rest:List Txt} {op:Int} (h:Runs toks n (z1g::rest) k op): ∃m t,n=m+1∧toks[k]?=some t∧((fits [[64]] t=true∧Runs toks m (nDIR::y04::y8t::rest) k op)∨(fits [[64]] t=false∧((fits [[123]] t=true∧Runs toks m (y5h::rest) k op)∨(fits [[123]] t=false∧(False))))):=h.rule z9s (by decide+kernel)
theorem x30:tabG y8t=some ([([[123]],[y5h]),([],[])],true):=by kernel_rfl
theorem x7t {toks:List TokD} {n k:Nat} {rest:List Txt} {op:Int} (h:Runs toks n (y8t::rest) k op): ∃m t,n=m+1∧toks[k]?=some t∧((fits [[123]] t=true∧Runs toks m (y5h::rest) k op)∨(fits [[123]] t=false∧((fits [] t=true∧Runs toks m (rest) k op)∨(fits [] t=false∧(Runs toks m rest k op))))):=h.rule x30 (by decide+kernel)
theorem x7u:tabG y5h=some ([([[123]],[[123],z73,z2t,[125]])],false):=by kernel_rfl
theorem x1o {toks:List TokD} {n k:Nat} {rest:List Txt} {op:Int} (h:Runs toks n (y5h::rest) k op): ∃m t,n=m+1∧toks[k]?=some t∧((fits [[123]] t=true∧Runs toks m ([123]::z73::z2t::[125]::rest) k op)∨(fits [[123]] t=false∧(False))):=h.rule x7u (by decide+kernel)
theorem x7v:tabG z2t=some ([([[46,114,111,111,116]],[z73,z2t]),([],[])],true):=by kernel_rfl
theorem q1d {toks:List TokD} {n k:Nat} {rest:List Txt} {op:Int} (h:Runs toks n (z2t::rest) k op): ∃m t,n=m+1∧toks[k]?=some t∧((fits [[46,114,111,111,116]] t=true∧Runs toks m (z73::z2t::rest) k op)∨(fits [[46,114,111,111,116]] t=false∧((fits [] t=true∧Runs toks m (rest) k op)∨(fits [] t=false∧(Runs toks m rest k op))))):=h.rule x7v (by decide+kernel)
theorem q1e:tabG z73=some ([([[46,114,111,111,116]],[[46,114,111,111,116],[58],[46,110,97,109,101]])],false):=by kernel_rfl
theorem x7w {toks:List TokD} {n k:Nat} {rest:List Txt} {op:Int} (h:Runs toks n (z73::rest) k op): ∃m t,n=m+1∧toks[k]?=some t∧((fits [[46,114,111,111,116]] t=true∧Runs toks m ([46,114,111,111,116]::[58]::[46,110,97,109,101]::rest) k op)∨(fits [[46,114,111,111,116]] t=false∧(False))):=h.rule q1e (by decide+kernel)
theorem z9t:tabG y38=some ([([[39,105,109,112,108,101,109,101,110,116,115]],[y52,y04,y27]),([[64]],[nDIR,y04,y27]),([[123]],[y53])],false):=by kernel_rfl
theorem x31 {toks:List TokD} {n k:Nat} {rest:List Txt} {op:Int} (h:Runs toks n (y38::rest) k op): ∃m t,n=m+1∧toks[k]?=some t∧((fits [[39,105,109,112,108,101,109,101,110,116,115]] t=true∧Runs toks m (y52::y04::y27::rest) k op)∨(fits [[39,105,109,112,108,101,109,101,110,116,115]] t=false∧((fits [[64]] t=true∧Runs toks m (nDIR::y04::y27::rest) k op)∨(fits [[64]] t=false∧((fits [[123]] t=true∧Runs toks m (y53::rest) k op)∨(fits [[123]] t=false∧(False))))))):=h.rule z9t (by decide+kernel)
theorem x32:tabG y45=some ([([[39,105,109,112,108,101,109,101,110,116,115]],[y52]),([],[])],true):=by kernel_rfl
theorem x7x {toks:List TokD} {n k:Nat} {rest:List Txt} {op:Int} (h:Runs toks n (y45::rest) k op): ∃m t,n=m+1∧toks[k]?=some t∧((fits [[39,105,109,112,108,101,109,101,110,116,115]] t=true∧Runs toks m (y52::rest) k op)∨(fits [[39,105,109,112,108,101,109,101,110,116,115]] t=false∧((fits [] t=true∧Runs toks m (rest) k op)∨(fits [] t=false∧(Runs toks m rest k op))))):=h.rule x32 (by decide+kernel)
theorem z9u:tabG y52=some ([([[39,105,109,112,108,101,109,101,110,116,115]],[[39,105,109,112,108,101,109,101,110,116,115],nAMP,[46,110,97,109,101],y8u])],false):=by kernel_rfl
theorem x33 {toks:List TokD} {n k:Nat} {rest:List Txt} {op:Int} (h:Runs toks n (y52::rest) k op): ∃m t,n=m+1∧toks[k]?=some t∧((fits [[39,105,109,112,108,101,109,101,110,116,115]] t=true∧Runs toks m ([39,105,109,112,108,101,109,101,110,116,115]::nAMP::[46,110,97,109,101]::y8u::rest) k op)∨(fits [[39,105,109,112,108,101,109,101,110,116,115]] t=false∧(False))):=h.rule z9u (by decide+kernel)
theorem q34:tabG nAMP=some ([([[38]],[[38]]),([],[])],true):=by kernel_rfl
theorem q6d {toks:List TokD} {n k:Nat} {rest:List Txt} {op:Int} (h:Runs toks n (nAMP::rest) k op): ∃m t,n=m+1∧toks[k]?=some t∧((fits [[38]] t=true∧Runs toks m ([38]::rest) k op)∨(fits [[38]] t=false∧((fits [] t=true∧Runs toks m (rest) k op)∨(fits [] t=false∧(Runs toks m rest k op))))):=h.rule q34 (by decide+kernel)
theorem x34:tabG y8u=some ([([[38]],[[38],[46,110,97,109,101],y8u]),([],[])],true):=by kernel_rfl
theorem x7y {toks:List TokD} {n k:Nat} {rest:List Txt} {op:Int} (h:Runs toks n (y8u::rest) k op): ∃m t,n=m+1∧toks[k]?=some t∧((fits [[38]] t=true∧Runs toks m ([38]::[46,110,97,109,101]::y8u::rest) k op)∨(fits [[38]] t=false∧((fits [] t=true∧Runs toks m (rest) k op)∨(fits [] t=false∧(Runs toks m rest k op))))):=h.rule x34 (by decide+kernel)
theorem x35:tabG y27=some ([([[123]],[y53]),([],[])],true):=by kernel_rfl
theorem x7z {toks:List TokD} {n k:Nat} {rest:List Txt} {op:Int} (h:Runs toks n (y27::rest) k op): ∃m t,n=m+1∧toks[k]?=some t∧((fits [[123]] t=true∧Runs toks m (y53::rest) k op)∨(fits [[123]] t=false∧((fits [] t=true∧Runs toks m (rest) k op)∨(fits [] t=false∧(Runs toks m rest k op))))):=h.rule x35 (by decide+kernel)
theorem z9v:tabG y53=some ([([[123]],[[123],z03,y8v,[125]])],false):=by kernel_rfl
theorem x36 {toks:List TokD} {n k:Nat} {rest:List Txt} {op:Int} (h:Runs toks n (y53::rest) k op): ∃m t,n=m+1∧toks[k]?=some t∧((fits [[123]] t=true∧Runs toks m ([123]::z03::y8v::[125]::rest) k op)∨(fits [[123]] t=false∧(False))):=h.rule z9v (by decide+kernel)
theorem x37:tabG y8v=some ([([[46,115,116,114],[46,110,97,109,101]],[z03,y8v]),([],[])],true):=by kernel_rfl
theorem x70 {toks:List TokD} {n k:Nat} {rest:List Txt} {op:Int} (h:Runs toks n (y8v::rest) k op): ∃m t,n=m+1∧toks[k]?=some t∧((fits [[46,115,116,114],[46,110,97,109,101]] t=true∧Runs toks m (z03::y8v::rest) k op)∨(fits [[46,115,116,114],[46,110,97,109,101]] t=false∧((fits [] t=true∧Runs toks m (rest) k op)∨(fits [] t=false∧(Runs toks m rest k op))))):=h.rule x37 (by decide+kernel)
theorem x71:tabG z03=some ([([[46,115,116,114]],[[46,115,116,114],y8w]),([[46,110,97,109,101]],[y8w])],false):=by kernel_rfl
theorem x1p {toks:List TokD} {n k:Nat} {rest:List Txt} {op:Int} (h:Runs toks n (z03::rest) k op): ∃m t,n=m+1∧toks[k]?=some t∧((fits [[46,115,116,114]] t=true∧Runs toks m ([46,115,116,114]::y8w::rest) k op)∨(fits [[46,115,116,114]] t=false∧((fits [[46,110,97,109,101]] t=true∧Runs toks m (y8w::rest) k op)∨(fits [[46,110,97,109,101]] t=false∧(False))))):=h.rule x71 (by decide+kernel)
theorem x38:tabG y8w=some ([([[46,110,97,109,101]],[[46,110,97,109,101],y61,[58],z54,y04])],false):=by kernel_rfl
theorem x72 {toks:List TokD} {n k:Nat} {rest:List Txt} {op:Int} (h:Runs toks n (y8w::rest) k op): ∃m t,n=m+1∧toks[k]?=some t∧((fits [[46,110,97,109,101]] t=true∧Runs toks m ([46,110,97,109,101]::y61::[58]::z54::y04::rest) k op)∨(fits [[46,110,97,109,101]] t=false∧(False))):=h.rule x38 (by decide+kernel)
theorem x39:tabG y61=some ([([[40]],[[40],y8c,y46,[41]]),([],[])],true):=by kernel_rfl
theorem x73 {toks:List TokD} {n k:Nat} {rest:List Txt} {op:Int} (h:Runs toks n (y61::rest) k op): ∃m t,n=m+1∧toks[k]?=some t∧((fits [[40]] t=true∧Runs toks m ([40]::y8c::y46::[41]::rest) k op)∨(fits [[40]] t=false∧((fits [] t=true∧Runs toks m (rest) k op)∨(fits [] t=false∧(Runs toks m rest k op))))):=h.rule x39 (by decide+kernel)
theorem x4a:tabG y46=some ([([[46,115,116,114],[46,110,97,109,101]],[y8c,y46]),([],[])],true):=by kernel_rfl
theorem x74 {toks:List TokD} {n k:Nat} {rest:List Txt} {op:Int} (h:Runs toks n (y46::rest) k op): ∃m t,n=m+1∧toks[k]?=some t∧((fits [[46,115,116,114],[46,110,97,109,101]] t=true∧Runs toks m (y8c::y46::rest) k op)∨(fits [[46,115,116,114],[46,110,97,109,101]] t=false∧((fits [] t=true∧Runs toks m (rest) k op)∨(fits [] t=false∧(Runs toks m rest k op))))):=h.rule x4a (by decide+kernel)
theorem x75:tabG y8c=some ([([[46,115,116,114]],[[46,115,116,114],y8x]),([[46,110,97,109,101]],[y8x])],false):=by kernel_rfl
theorem x1q {toks:List TokD} {n k:Nat} {rest:List Txt} {op:Int} (h:Runs toks n (y8c::rest) k op): ∃m t,n=m+1∧toks[k]?=some t∧((fits [[46,115,116,114]] t=true∧Runs toks m ([46,115,116,114]::y8x::rest) k op)∨(fits [[46,115,116,114]] t=false∧((fits [[46,110,97,109,101]] t=true∧Runs toks m (y8x::rest) k op)∨(fits [[46,110,97,109,101]] t=false∧(False))))):=h.rule x75 (by decide+kernel)
theorem x4b:tabG y8x=some ([([[46,110,97,109,101]],[[46,110,97,109,101],[58],z54,z1h,y04])],false):=by kernel_rfl
theorem x76 {toks:List TokD} {n k:Nat} {rest:List Txt} {op:Int} (h:Runs toks n (y8x::rest) k op): ∃m t,n=m+1∧toks[k]?=some t∧((fits [[46,110,97,109,101]] t=true∧Runs toks m ([46,110,97,109,101]::[58]::z54::z1h::y04::rest) k op)∨(fits [[46,110,97,109,101]] t=false∧(False))):=h.rule x4b (by decide+kernel)
theorem z9w:tabG z1h=some ([([[61]],[[61],nLIT]),([],[])],true):=by kernel_rfl
theorem x4c {toks:List TokD} {n k:Nat} {rest:List Txt} {op:Int} (h:Runs toks n (z1h::rest) k op): ∃m t,n=m+1∧toks[k]?=some t∧((fits [[61]] t=true∧Runs toks m ([61]::nLIT::rest) k op)∨(fits [[61]] t=false∧((fits [] t=true∧Runs toks m (rest) k op)∨(fits [] t=false∧(Runs toks m rest k op))))):=h.rule z9w (by decide+kernel)
theorem z9x:tabG y39=some ([([[61]],[y4q]),([],[])],true):=by kernel_rfl
theorem x4d {toks:List TokD} {n k:Nat} {rest:List Txt} {op:Int} (h:Runs toks n (y39::rest) k op): ∃m t,n=m+1∧toks[k]?=some t∧((fits [[61]] t=true∧Runs toks m (y4q::rest) k op)∨(fits [[61]] t=false∧((fits [] t=true∧Runs toks m (rest) k op)∨(fits [] t=false∧(Runs toks m rest k op))))):=h.rule z9x (by decide+kernel)
theorem z79:tabG y4q=some ([([[61]],[[61],nBAR,[46,110,97,109,101],y54])],false):=by kernel_rfl
theorem z9y {toks:List TokD} {n k:Nat} {rest:List Txt} {op:Int} (h:Runs toks n (y4q::rest) k op): ∃m t,n=m+1∧toks[k]?=some t∧((fits [[61]] t=true∧Runs toks m ([61]::nBAR::[46,110,97,109,101]::y54::rest) k op)∨(fits [[61]] t=false∧(False))):=h.rule z79 (by decide+kernel)
theorem z9z:tabG y54=some ([([[124]],[[124],[46,110,97,109,101],y54]),([],[])],true):=by kernel_rfl
theorem x4e {toks:List TokD} {n k:Nat} {rest:List Txt} {op:Int} (h:Runs toks n (y54::rest) k op): ∃m t,n=m+1∧toks[k]?=some t∧((fits [[124]] t=true∧Runs toks m ([124]::[46,110,97,109,101]::y54::rest) k op)∨(fits [[124]] t=false∧((fits [] t=true∧Runs toks m (rest) k op)∨(fits [] t=false∧(Runs toks m rest k op))))):=h.rule z9z (by decide+kernel)
theorem q35:tabG nBAR=some ([([[124]],[[124]]),([],[])],true):=by kernel_rfl
theorem q2h {toks:List TokD} {n k:Nat} {rest:List Txt} {op:Int} (h:Runs toks n (nBAR::rest) k op): ∃m t,n=m+1∧toks[k]?=some t∧((fits [[124]] t=true∧Runs toks m ([124]::rest) k op)∨(fits [[124]] t=false∧((fits [] t=true∧Runs toks m (rest) k op)∨(fits [] t=false∧(Runs toks m rest k op))))):=h.rule q35 (by decide+kernel)
theorem x4f:tabG z0i=some ([([[64]],[nDIR,y04,y39]),([[61]],[y4q])],false):=by kernel_rfl
theorem x77 {toks:List TokD} {n k:Nat} {rest:List Txt} {op:Int} (h:Runs toks n (z0i::rest) k op): ∃m t,n=m+1∧toks[k]?=some t∧((fits [[64]] t=true∧Runs toks m (nDIR::y04::y39::rest) k op)∨(fits [[64]] t=false∧((fits [[61]] t=true∧Runs toks m (y4q::rest) k op)∨(fits [[61]] t=false∧(False))))):=h.rule x4f (by decide+kernel)
theorem x78:tabG y9q=some ([([[123]],[y8y]),([],[])],true):=by kernel_rfl
theorem q1f {toks:List TokD} {n k:Nat} {rest:List Txt} {op:Int} (h:Runs toks n (y9q::rest) k op): ∃m t,n=m+1∧toks[k]?=some t∧((fits [[123]] t=true∧Runs toks m (y8y::rest) k op)∨(fits [[123]] t=false∧((fits [] t=true∧Runs toks m (rest) k op)∨(fits [] t=false∧(Runs toks m rest k op))))):=h.rule x78 (by decide+kernel)
theorem x4g:tabG y8y=some ([([[123]],[[123],z74,z2u,[125]])],false):=by kernel_rfl
theorem x79 {toks:List TokD} {n k:Nat} {rest:List Txt} {op:Int} (h:Runs toks n (y8y::rest) k op): ∃m t,n=m+1∧toks[k]?=some t∧((fits [[123]] t=true∧Runs toks m ([123]::z74::z2u::[125]::rest) k op)∨(fits [[123]] t=false∧(False))):=h.rule x4g (by decide+kernel)
theorem x8a:tabG z2u=some ([([[46,115,116,114],[46,99,97,115,101]],[z74,z2u]),([],[])],true):=by kernel_rfl
theorem q1g {toks:List TokD} {n k:Nat} {rest:List Txt} {op:Int} (h:Runs toks n (z2u::rest) k op): ∃m t,n=m+1∧toks[k]?=some t∧((fits [[46,115,116,114],[46,99,97,115,101]] t=true∧Runs toks m (z74::z2u::rest) k op)∨(fits [[46,115,116,114],[46,99,97,115,101]] t=false∧((fits [] t=true∧Runs toks m (rest) k op)∨(fits [] t=false∧(Runs toks m rest k op))))):=h.rule x8a (by decide+kernel)
theorem q1h:tabG z74=some ([([[46,115,116,114]],[[46,115,116,114],z2v]),([[46,99,97,115,101]],[z2v])],false):=by kernel_rfl
theorem x8b {toks:List TokD} {n k:Nat} {rest:List Txt} {op:Int} (h:Runs toks n (z74::rest) k op): ∃m t,n=m+1∧toks[k]?=some t∧((fits [[46,115,116,114]] t=true∧Runs toks m ([46,115,116,114]::z2v::rest) k op)∨(fits [[46,115,116,114]] t=false∧((fits [[46,99,97,115,101]] t=true∧Runs toks m (z2v::rest) k op)∨(fits [[46,99,97,115,101]] t=false∧(False))))):=h.rule q1h (by decide+kernel)
theorem x8c:tabG z2v=some ([([[46,99,97,115,101]],[[46,99,97,115,101],y04])],false):=by kernel_rfl
theorem q1i {toks:List TokD} {n k:Nat} {rest:List Txt} {op:Int} (h:Runs toks n (z2v::rest) k op): ∃m t,n=m+1∧toks[k]?=some t∧((fits [[46,99,97,115,101]] t=true∧Runs toks m ([46,99,97,115,101]::y04::rest) k op)∨(fits [[46,99,97,115,101]] t=false∧(False))):=h.rule x8c (by decide+kernel)
theorem x8d:tabG z4p=some ([([[64]],[nDIR,y04,y9q]),([[123]],[y8y])],false):=by kernel_rfl
theorem q1j {toks:List TokD} {n k:Nat} {rest:List Txt} {op:Int} (h:Runs toks n (z4p::rest) k op): ∃m t,n=m+1∧toks[k]?=some t∧((fits [[64]] t=true∧Runs toks m (nDIR::y04::y9q::rest) k op)∨(fits [[64]] t=false∧((fits [[123]] t=true∧Runs toks m (y8y::rest) k op)∨(fits [[123]] t=false∧(False))))):=h.rule x8d (by decide+kernel)
theorem x4h:tabG y55=some ([([[123]],[y56]),([],[])],true):=by kernel_rfl
theorem x8e {toks:List TokD} {n k:Nat} {rest:List Txt} {op:Int} (h:Runs toks n (y55::rest) k op): ∃m t,n=m+1∧toks[k]?=some t∧((fits [[123]] t=true∧Runs toks m (y56::rest) k op)∨(fits [[123]] t=false∧((fits [] t=true∧Runs toks m (rest) k op)∨(fits [] t=false∧(Runs toks m rest k op))))):=h.rule x4h (by decide+kernel)
theorem z90:tabG y56=some ([([[123]],[[123],y8c,y46,[125]])],false):=by kernel_rfl
theorem x4i {toks:List TokD} {n k:Nat} {rest:List Txt} {op:Int} (h:Runs toks n (y56::rest) k op): ∃m t,n=m+1∧toks[k]?=some t∧((fits [[123]] t=true∧Runs toks m ([123]::y8c::y46::[125]::rest) k op)∨(fits [[123]] t=false∧(False))):=h.rule z90 (by decide+kernel)
theorem x4j:tabG z0j=some ([([[64]],[nDIR,y04,y55]),([[123]],[y56])],false):=by kernel_rfl
theorem x8f {toks:List TokD} {n k:Nat} {rest:List Txt} {op:Int} (h:Runs toks n (z0j::rest) k op): ∃m t,n=m+1∧toks[k]?=some t∧((fits [[64]] t=true∧Runs toks m (nDIR::y04::y55::rest) k op)∨(fits [[64]] t=false∧((fits [[123]] t=true∧Runs toks m (y56::rest) k op)∨(fits [[123]] t=false∧(False))))):=h.rule x4j (by decide+kernel)
theorem x4k:tabG z2w=some ([([[39,114,101,112,101,97,116,97,98,108,101]],[[39,114,101,112,101,97,116,97,98,108,101]]),([],[])],true):=by kernel_rfl
theorem x8g {toks:List TokD} {n k:Nat} {rest:List Txt} {op:Int} (h:Runs toks n (z2w::rest) k op): ∃m t,n=m+1∧toks[k]?=some t∧((fits [[39,114,101,112,101,97,116,97,98,108,101]] t=true∧Runs toks m ([39,114,101,112,101,97,116,97,98,108,101]::rest) k op)∨(fits [[39,114,101,112,101,97,116,97,98,108,101]] t=false∧((fits [] t=true∧Runs toks m (rest) k op)∨(fits [] t=false∧(Runs toks m rest k op))))):=h.rule x4k (by decide+kernel)
theorem x4l:tabG y47=some ([([[124]],[[124],[46,112,108,97,99,101],y47]),([],[])],true):=by kernel_rfl
theorem x8h {toks:List TokD} {n k:Nat} {rest:List Txt} {op:Int} (h:Runs toks n (y47::rest) k op): ∃m t,n=m+1∧toks[k]?=some t∧((fits [[124]] t=true∧Runs toks m ([124]::[46,112,108,97,99,101]::y47::rest) k op)∨(fits [[124]] t=false∧((fits [] t=true∧Runs toks m (rest) k op)∨(fits [] t=false∧(Runs toks m rest k op))))):=h.rule x4l (by decide+kernel)
theorem q1k:tabG y04=some ([([[64]],[nDIR,y04]),([],[])],true):=by kernel_rfl
theorem q36 {toks:List TokD} {n k:Nat} {rest:List Txt} {op:Int} (h:Runs toks n (y04::rest) k op): ∃m t,n=m+1∧toks[k]?=some t∧((fits [[64]] t=true∧Runs toks m (nDIR::y04::rest) k op)∨(fits [[64]] t=false∧((fits [] t=true∧Runs toks m (rest) k op)∨(fits [] t=false∧(Runs toks m rest k op))))):=h.rule q1k (by decide+kernel)
theorem q37:tabG nDIR=some ([([[64]],[[64],[46,110,97,109,101],x7r])],false):=by kernel_rfl
theorem q6e {toks:List TokD} {n k:Nat} {rest:List Txt} {op:Int} (h:Runs toks n (nDIR::rest) k op): ∃m t,n=m+1∧toks[k]?=some t∧((fits [[64]] t=true∧Runs toks m ([64]::[46,110,97,109,101]::x7r::rest) k op)∨(fits [[64]] t=false∧(False))):=h.rule q37 (by decide+kernel)
theorem q1l:tabG x7r=some ([([[40]],[[40],nARG,z75,[41]]),([],[])],true):=by kernel_rfl
theorem q38 {toks:List TokD} {n k:Nat} {rest:List Txt} {op:Int} (h:Runs toks n (x7r::rest) k op): ∃m t,n=m+1∧toks[k]?=some t∧((fits [[40]] t=true∧Runs toks m ([40]::nARG::z75::[41]::rest) k op)∨(fits [[40]] t=false∧((fits [] t=true∧Runs toks m (rest) k op)∨(fits [] t=false∧(Runs toks m rest k op))))):=h.rule q1l (by decide+kernel)
theorem q1m:tabG z75=some ([([[46,110,97,109,101]],[nARG,z75]),([],[])],true):=by kernel_rfl
theorem q39 {toks:List TokD} {n k:Nat} {rest:List Txt} {op:Int} (h:Runs toks n (z75::rest) k op): ∃m t,n=m+1∧toks[k]?=some t∧((fits [[46,110,97,109,101]] t=true∧Runs toks m (nARG::z75::rest) k op)∨(fits [[46,110,97,109,101]] t=false∧((fits [] t=true∧Runs toks m (rest) k op)∨(fits [] t=false∧(Runs toks m rest k op))))):=h.rule q1m (by decide+kernel)
theorem q4a:tabG nARG=some ([([[46,110,97,109,101]],[[46,110,97,109,101],[58],nLIT])],false):=by kernel_rfl
theorem q6f {toks:List TokD} {n k:Nat} {rest:List Txt} {op:Int} (h:Runs toks n (nARG::rest) k op): ∃m t,n=m+1∧toks[k]?=some t∧((fits [[46,110,97,109,101]] t=true∧Runs toks m ([46,110,97,109,101]::[58]::nLIT::rest) k op)∨(fits [[46,110,97,109,101]] t=false∧(False))):=h.rule q4a (by decide+kernel)
theorem q4b:tabG nLIT=some ([([[46,110,97,109,101]],[[46,110,97,109,101]]),([[46,115,116,114]],[[46,115,116,114]]),([[46,110,117,109]],[[46,110,117,109]]),([[91]],[[91],z9q,[93]]),([[123]],[[123],z9r,[125]])],false):=by kernel_rfl
theorem q6g {toks:List TokD} {n k:Nat} {rest:List Txt} {op:Int} (h:Runs toks n (nLIT::rest) k op): ∃m t,n=m+1∧toks[k]?=some t∧((fits [[46,110,97,109,101]] t=true∧Runs toks m ([46,110,97,109,101]::rest) k op)∨(fits [[46,110,97,109,101]] t=false∧((fits [[46,115,116,114]] t=true∧Runs toks m ([46,115,116,114]::rest) k op)∨(fits [[46,115,116,114]] t=false∧((fits [[46,110,117,109]] t=true∧Runs toks m ([46,110,117,109]::rest) k op)∨(fits [[46,110,117,109]] t=false∧((fits [[91]] t=true∧Runs toks m ([91]::z9q::[93]::rest) k op)∨(fits [[91]] t=false∧((fits [[123]] t=true∧Runs toks m ([123]::z9r::[125]::rest) k op)∨(fits [[123]] t=false∧(False))))))))))):=h.rule q4b (by decide+kernel)
theorem q1n:tabG z9q=some ([([[46,110,97,109,101],[46,115,116,114],[46,110,117,109],[91],[123]],[nLIT,z9q]),([],[])],true):=by kernel_rfl
theorem q4c {toks:List TokD} {n k:Nat} {rest:List Txt} {op:Int} (h:Runs toks n (z9q::rest) k op): ∃m t,n=m+1∧toks[k]?=some t∧((fits [[46,110,97,109,101],[46,115,116,114],[46,110,117,109],[91],[123]] t=true∧Runs toks m (nLIT::z9q::rest) k op)∨(fits [[46,110,97,109,101],[46,115,116,114],[46,110,117,109],[91],[123]] t=false∧((fits [] t=true∧Runs toks m (rest) k op)∨(fits [] t=false∧(Runs toks m rest k op))))):=h.rule q1n (by decide+kernel)
theorem q1o:tabG z9r=some ([([[46,110,97,109,101]],[[46,110,97,109,101],[58],nLIT,z9r]),([],[])],true):=by kernel_rfl
theorem q4d {toks:List TokD} {n k:Nat} {rest:List Txt} {op:Int} (h:Runs toks n (z9r::rest) k op): ∃m t,n=m+1∧toks[k]?=some t∧((fits [[46,110,97,109,101]] t=true∧Runs toks m ([46,110,97,109,101]::[58]::nLIT::z9r::rest) k op)∨(fits [[46,110,97,109,101]] t=false∧((fits [] t=true∧Runs toks m (rest) k op)∨(fits [] t=false∧(Runs toks m rest k op))))):=h.rule q1o (by decide+kernel)
theorem q1p:tabG z54=some ([([[46,110,97,109,101],[91]],[z78,x3y])],false):=by kernel_rfl
theorem q4e {toks:List TokD} {n k:Nat} {rest:List Txt} {op:Int} (h:Runs toks n (z54::rest) k op): ∃m t,n=m+1∧toks[k]?=some t∧((fits [[46,110,97,109,101],[91]] t=true∧Runs toks m (z78::x3y::rest) k op)∨(fits [[46,110,97,109,101],[91]] t=false∧(False))):=h.rule q1p (by decide+kernel)
theorem x8i:tabG z78=some ([([[46,110,97,109,101]],[[46,110,97,109,101]]),([[91]],[[91],z54,[93]])],false):=by kernel_rfl
theorem q1q {toks:List TokD} {n k:Nat} {rest:List Txt} {op:Int} (h:Runs toks n (z78::rest) k op): ∃m t,n=m+1∧toks[k]?=some t∧((fits [[46,110,97,109,101]] t=true∧Runs toks m ([46,110,97,109,101]::rest) k op)∨(fits [[46,110,97,109,101]] t=false∧((fits [[91]] t=true∧Runs toks m ([91]::z54::[93]::rest) k op)∨(fits [[91]] t=false∧(False))))):=h.rule x8i (by decide+kernel)
theorem q1r:tabG x3y=some ([([[33]],[[33]]),([],[])],true):=by kernel_rfl
theorem q4f {toks:List TokD} {n k:Nat} {rest:List Txt} {op:Int} (h:Runs toks n (x3y::rest) k op): ∃m t,n=m+1∧toks[k]?=some t∧((fits [[33]] t=true∧Runs toks m ([33]::rest) k op)∨(fits [[33]] t=false∧((fits [] t=true∧Runs toks m (rest) k op)∨(fits [] t=false∧(Runs toks m rest k op))))):=h.rule q1r (by decide+kernel)
end Go.Proofs.YtbpgkkoeehopjaaGreat.gram
namespace Go.Proofs.YtbpgkkoeehopjaaGreat.acr
open tree gram rd dat lex
set_option maxRecDepth 100000
structure TokW (t:TokD):Prop where
 mark: ∀p,p∈([33,38,40,41,58,61,64,91,93,123,124,125]:Txt)→t.text=[p]→t.kind=2∨t.kind=6∨t.kind=7
 word: ∀w,w∈([[101,120,116,101,110,100],[105,109,112,108,101,109,101,110,116,115],[114,101,112,101,97,116,97,98,108,101],[111,110]]:List Txt)→t.text=w→t.kind=3∨t.kind=6∨t.kind=7
structure TokA (toks:List TokD):Prop extends TokE toks where
 wf: ∀(k:Nat) t,toks[k]?=some t→TokW t
theorem z91 {p:UInt8} (hp:p∈([33,38,40,41,58,61,64,91,93,123,124,125]:Txt)) (t:TokD):y1a [p] t=((t.kind==2)&&decide (t.text=[p])):=by
 simp only [Qbd,List.mem_nil_iff,or_false] at hp
 rcases hp with rfl|rfl|rfl|rfl|rfl|rfl|rfl|rfl|rfl|rfl|rfl|rfl<;>rfl
theorem y00 {t:TokD} (hW:TokW t) {p:UInt8} (hp:p∈([33,38,40,41,58,61,64,91,93,123,124,125]:Txt)):isF t [p]=y1a [p] t:=by
 rw [z91 hp];unfold isF;by_cases h:t.text=[p]
 ·have hk:=hW.mark p hp h;rw [Qa5 h]
  rcases hk with hk|hk|hk<;>rw [hk]<;>rfl
 ·rw [Qa4 h];simp
theorem q4g {w:Txt} (hw:w∈([[101,120,116,101,110,100],[105,109,112,108,101,109,101,110,116,115],[114,101,112,101,97,116,97,98,108,101],[111,110]]:List Txt)) (t:TokD):y1a (39::w) t=((t.kind==3)&&decide (t.text=w)):=by
 simp only [Qbd,List.mem_nil_iff,or_false] at hw
 rcases hw with rfl|rfl|rfl|rfl<;>rfl
theorem z0k {t:TokD} (hW:TokW t) {w:Txt} (hw:w∈([[101,120,116,101,110,100],[105,109,112,108,101,109,101,110,116,115],[114,101,112,101,97,116,97,98,108,101],[111,110]]:List Txt)):isF t w=y1a (39::w) t:=by
 rw [q4g hw];unfold isF;by_cases h:t.text=w
 ·have hk:=hW.word w hw h;rw [Qa5 h]
  rcases hk with hk|hk|hk<;>rw [hk]<;>rfl
 ·rw [Qa4 h];simp
theorem q1s {t:TokD} {s:Txt} {p:UInt8} (hp:p∈([33,38,40,41,58,61,64,91,93,123,124,125]:Txt)) (h:y1a [p] t=true) (hs:y1a s t=true):s=[p]:=by
 rw [z91 hp] at h;simp only [Qao,Qa7,decide_eq_true_eq] at h;obtain ⟨hk,ht⟩:=h;unfold y1a at hs;rw [hk] at hs;split at hs
 ·cases hs
 split at hs
 ·cases hs
 split at hs
 ·cases hs
 split at hs
 ·cases hs
 split at hs
 ·cases hs
 split at hs
 ·cases hs
 split at hs
 ·cases hs
 cases s with
 |nil=>cases hs
 |cons c r=>
  simp only at hs;split at hs
  ·cases hs
  ·simp only [Qao,decide_eq_true_eq] at hs;rw [←hs.2,ht]
theorem y62 {t:TokD} (hW:TokW t) {p:UInt8} (hp:p∈([33,38,40,41,58,61,64,91,93,123,124,125]:Txt)) {F:List Txt} (hF:fits F t=true) (hn:F.contains [p]=false):isF t [p]=false:=by
 rw [y00 hW hp]
 cases h:y1a [p] t with
 |false=>rfl
 |true=>
  obtain ⟨s,hs,hf⟩:=Qbh.1 hF;rw [q1s hp h hf] at hs;rw [List.contains_iff_mem.2 hs] at hn;cases hn
theorem y16 {t:TokD} {F:List Txt} {s:Txt} (h:fits F t=false) (hs:F.contains s=true):y1a s t=false:=by
 cases hf:y1a s t with
 |false=>rfl
 |true=>
  have:fits F t=true:=Qbh.2 ⟨s,List.contains_iff_mem.1 hs,hf⟩;rw [h] at this;cases this
section
variable {toks : List TokD}
theorem _root_.Go.Proofs.YtbpgkkoeehopjaaGreat.gram.Runs.tok {n:Nat} {s:Txt} {st:List Txt} {k:Nat} {op:Int} (h:Runs toks n (s::st) k op): ∃t,toks[k]?=some t:=by
 unfold Runs at h
 cases n with
 |zero=>cases h
 |succ m=>
  rw [runF] at h
  cases ht:toks[k]? with
  |none=>rw [ht] at h;cases h
  |some t=>exact ⟨t,rfl⟩
theorem _root_.Go.Proofs.YtbpgkkoeehopjaaGreat.gram.Runs.term (hE:TokA toks) {n:Nat} {s:Txt} {rest:List Txt} {k:Nat} {op:Int} (h:Runs toks n (s::rest) k op) (hs:(decide (s≠[])&&decide (s.length≤1000)&& !y3p s&&decide (s≠endT))=true) {t:TokD} (ht:toks[k]?=some t):
  ∃m,n=m+1∧y1a s t=true∧(y1p s=1→op<200)∧y0q toks.length k=k+1∧k+1<toks.length∧Runs toks m rest (k+1) (op+y1p s):=by
 simp only [Qao,decide_eq_true_eq,Bool.not_eq_true'] at hs;unfold Runs at h
 cases n with
 |zero=>cases h
 |succ m=>
  rw [runF,ht] at h;simp only at h;rw [if_neg (by rintro (h0|h0);exact hs.1.1.1 h0;have:=hs.1.1.2;omega),hs.1.2,if_neg (by decide)] at h
  cases hf:y1a s t with
  |false=>rw [hf,if_pos rfl] at h;simp at h
  |true=>
   rw [hf,if_neg (by decide)] at h;have hk:=z2s hf;have hlt:k<toks.length:=(Qac.1 ht).1
   have hl:k+1<toks.length:=by
    have h1:=hE.ends k t ht;have h2:=hk.2 hs.2
    have h3: ¬k+1=toks.length:=fun e=>by have:=h1.2 e;rcases this with h|h;exact h2 h;exact hk.1 h
    omega
   split at h
   ·simp at h
   ·rename_i hb
    try rw [if_pos hl] at h
    exact ⟨m,rfl,rfl,fun e=>by by_cases h2:op<200;exact h2;exact absurd ⟨e,by omega⟩ hb,by unfold y0q;rw [if_pos hl],hl,h⟩
theorem _root_.Go.Proofs.YtbpgkkoeehopjaaGreat.gram.Runs.t0 (hE:TokA toks) {n:Nat} {s:Txt} {rest:List Txt} {k:Nat} {op:Int} (h:Runs toks n (s::rest) k op) {t:TokD} (ht:toks[k]?=some t) (hs:(decide (s≠[])&&decide (s.length≤1000)&& !y3p s&&decide (s≠endT))=true:=by decide+kernel) (hb:y1p s=0:=by decide+kernel):
  ∃m,n=m+1∧y1a s t=true∧y0q toks.length k=k+1∧k+1<toks.length∧Runs toks m rest (k+1) op:=by
 obtain ⟨m,h1,h2,_,h4,h5,h6⟩:=h.term hE hs ht;rw [hb,Int.add_zero] at h6;exact ⟨m,h1,h2,h4,h5,h6⟩
theorem _root_.Go.Proofs.YtbpgkkoeehopjaaGreat.gram.Runs.topen (hE:TokA toks) {n:Nat} {s:Txt} {rest:List Txt} {k:Nat} {op:Int} (h:Runs toks n (s::rest) k op) {t:TokD} (ht:toks[k]?=some t) (hs:(decide (s≠[])&&decide (s.length≤1000)&& !y3p s&&decide (s≠endT))=true:=by decide+kernel) (hb:y1p s=1:=by decide+kernel):
  ∃m,n=m+1∧y1a s t=true∧y0q toks.length k=k+1∧k+1<toks.length∧op<200∧Runs toks m rest (k+1) (op+1):=by
 obtain ⟨m,h1,h2,h3,h4,h5,h6⟩:=h.term hE hs ht;rw [hb] at h6;exact ⟨m,h1,h2,h4,h5,h3 hb,h6⟩
theorem _root_.Go.Proofs.YtbpgkkoeehopjaaGreat.gram.Runs.tclose (hE:TokA toks) {n:Nat} {s:Txt} {rest:List Txt} {k:Nat} {op:Int} (h:Runs toks n (s::rest) k op) {t:TokD} (ht:toks[k]?=some t) (hs:(decide (s≠[])&&decide (s.length≤1000)&& !y3p s&&decide (s≠endT))=true:=by decide+kernel) (hb:y1p s= -1:=by decide+kernel):
  ∃m,n=m+1∧y1a s t=true∧y0q toks.length k=k+1∧k+1<toks.length∧Runs toks m rest (k+1) (op - 1):=by
 obtain ⟨m,h1,h2,h3,h4,h5,h6⟩:=h.term hE hs ht;rw [hb,←Int.sub_eq_add_neg] at h6;exact ⟨m,h1,h2,h4,h5,h6⟩
def Got {α:Type} (toks:List TokD) (n:Nat) (rest:List Txt) (op:Int) (k:Nat) (N:α→Nat) (x:Option (α×Nat)):Prop:=∃a k' m,x=some (a,k')∧Runs toks m rest k' op∧m<n∧N a+k≤k'
abbrev z56:Txt:=[46,110,97,109,101]
abbrev tSTR:Txt:=[46,115,116,114]
abbrev tNUM:Txt:=[46,110,117,109]
theorem z2x {t:TokD} (h:y1a z56 t=true):t.kind=3:=by have:(t.kind==3)=true:=h;simpa using this
theorem x1r {t:TokD} (h:y1a tSTR t=true):t.kind=6∨t.kind=7:=by have:((t.kind==6)||(t.kind==7))=true:=h;simpa using this
theorem q1t {t:TokD} (h:y1a tNUM t=true):t.kind=4∨t.kind=5:=by have:((t.kind==4)||(t.kind==5))=true:=h;simpa using this
theorem z8a {t:TokD} {p:UInt8} (hp:p∈([33,38,40,41,58,61,64,91,93,123,124,125]:Txt)) (h:y1a [p] t=true):t.kind=2∧t.text=[p]:=by
 rw [z91 hp] at h;simpa using h
theorem x8j (hE:TokA toks) (L:Nat) (hL:toks.length≤L): ∀n,
  (∀(rest:List Txt) (k:Nat) (op:Int) (f:Nat),Runs toks n (nLIT::rest) k op→op≤200→200<op+f→Got toks n rest op k litN (litF toks L f k))∧
  (∀(rest:List Txt) (k:Nat) (op:Int) (f fu:Nat),Runs toks n (z9q::[93]::rest) k op→op≤200→200<op+f→toks.length<fu+k→Got toks n rest (op - 1) k (fun l=>litsN l+1) (z0x toks (litF toks L f) fu k))∧
  (∀(rest:List Txt) (k:Nat) (op:Int) (f fu:Nat),Runs toks n (z9r::[125]::rest) k op→op≤200→200<op+f→toks.length<fu+k→Got toks n rest (op - 1) k (fun l=>pairsN l+1) (y2o toks [125] (litF toks L f) fu k)):=by
 intro n
 induction n using Nat.strongRecOn with
 |_ n ih=>
  refine ⟨fun rest k op f h h1 h2=>?_,fun rest k op f fu h h1 h2 h3=>?_,fun rest k op f fu h h1 h2 h3=>?_⟩
  ·obtain ⟨m,t,rfl,ht,hA⟩:=q6g h;obtain ⟨f,rfl⟩: ∃g,f=g+1:=⟨f - 1,by omega⟩;rw [litF,ht,Option.bind_some];rcases hA with ⟨_,h⟩|⟨_,⟨_,h⟩|⟨_,⟨_,h⟩|⟨_,⟨_,h⟩|⟨_,⟨_,h⟩|⟨_,h⟩⟩⟩⟩⟩
   ·obtain ⟨m',rfl,hf,hn,hl,h⟩:=h.t0 hE ht;rw [if_pos (z2x hf),hn];exact ⟨_,_,m',rfl,h,by omega,by simp [litN,litsN,pairsN];omega⟩
   ·obtain ⟨m',rfl,hf,hn,hl,h⟩:=h.t0 hE ht;have hk:=x1r hf;rw [if_neg (by omega),if_neg (by omega),if_neg (by omega),if_pos hk,hn];exact ⟨_,_,m',rfl,h,by omega,by simp [litN,litsN,pairsN];omega⟩
   ·obtain ⟨m',rfl,hf,hn,hl,h⟩:=h.t0 hE ht;have hk:=q1t hf;rw [if_neg (by omega),hn];by_cases h4:t.kind=4
    ·rw [if_pos h4];exact ⟨_,_,m',rfl,h,by omega,by simp [litN,litsN,pairsN];omega⟩
    ·rw [if_neg h4,if_pos (by omega)];exact ⟨_,_,m',rfl,h,by omega,by simp [litN,litsN,pairsN];omega⟩
   ·obtain ⟨m',rfl,hf,hn,hl,hop,h⟩:=h.topen hE ht;have hk:=z8a (by decide) hf;rw [if_neg (by omega),if_neg (by omega),if_neg (by omega),if_neg (by omega),if_pos hk.2,hn];obtain ⟨a,k',m2,e,hr,hm,hN⟩:=(ih m' (by omega)).2.1 rest (k+1) (op+1) f L h (by omega) (by omega) (by omega);rw [e];refine ⟨_,_,m2,rfl,?_,by omega,by simp only [litN,pairsN] at hN ⊢;omega⟩;rw [Int.add_sub_cancel] at hr;exact hr
   ·obtain ⟨m',rfl,hf,hn,hl,hop,h⟩:=h.topen hE ht;have hk:=z8a (by decide) hf;rw [if_neg (by omega),if_neg (by omega),if_neg (by omega),if_neg (by omega),if_neg (by rw [hk.2];decide),hn];obtain ⟨a,k',m2,e,hr,hm,hN⟩:=(ih m' (by omega)).2.2 rest (k+1) (op+1) f L h (by omega) (by omega) (by omega);rw [e];refine ⟨_,_,m2,rfl,?_,by omega,by simp only [litN,litsN] at hN ⊢;omega⟩;rw [Int.add_sub_cancel] at hr;exact hr
   ·exact h.elim
  ·obtain ⟨m,t,rfl,ht,hA⟩:=q4c h;have hlt:k<toks.length:=(Qac.1 ht).1;obtain ⟨fu,rfl⟩: ∃g,fu=g+1:=⟨fu - 1,by omega⟩;have hW:=hE.wf k t ht;rw [z0x,ht,Option.bind_some]
   have hend:Runs toks m ([93]::rest) k op→Got toks (m+1) rest (op - 1) k (fun l=>litsN l+1) (if isF t [93]=true then some ([],k+1) else (litF toks L f k).bind fun q=>(z0x toks (litF toks L f) fu q.2).bind fun r=>some (q.1::r.1,r.2)):=fun h=>by
    obtain ⟨m',rfl,hf,hn,hl,h⟩:=h.tclose hE ht;rw [if_pos (by rw [y00 hW (by decide)];exact hf)];exact ⟨_,_,m',rfl,h,by omega,by simp [litsN];omega⟩
   rcases hA with ⟨hF,h⟩|⟨_,⟨_,h⟩|⟨_,h⟩⟩
   ·rw [if_neg (by rw [y62 hW (by decide) hF (by decide+kernel)];decide)];obtain ⟨a,k',m2,e,hr,hm,hN⟩:=(ih m (by omega)).1 _ k op f h h1 h2;rw [e,Option.bind_some];have hp:=y7e a;obtain ⟨b,k2,m3,e2,hr2,hm2,hN2⟩:=(ih m2 (by omega)).2.1 rest k' op f fu hr h1 h2 (by omega);rw [e2,Option.bind_some];exact ⟨_,_,m3,rfl,hr2,by omega,by simp only [litsN] at hN2 ⊢;omega⟩
   ·exact hend h
   ·exact hend h
  ·obtain ⟨m,t,rfl,ht,hA⟩:=q4d h;have hlt:k<toks.length:=(Qac.1 ht).1;obtain ⟨fu,rfl⟩: ∃g,fu=g+1:=⟨fu - 1,by omega⟩;have hW:=hE.wf k t ht;rw [y2o,ht,Option.bind_some];rcases hA with ⟨hF,h⟩|⟨_,h⟩
   ·rw [if_neg (by rw [y62 hW (by decide) hF (by decide+kernel)];decide)];obtain ⟨m1,rfl,hf,hn,hl,h⟩:=h.t0 hE ht;obtain ⟨t1,ht1⟩:=h.tok;have hW1:=hE.wf _ t1 ht1;obtain ⟨m2,rfl,hf1,hn1,hl1,h⟩:=h.t0 hE ht1;rw [hn,ht1,Option.bind_some,if_pos (by rw [y00 hW1 (by decide)];exact hf1)];obtain ⟨a,k',m3,e,hr,hm,hN⟩:=(ih m2 (by omega)).1 _ (k+1+1) op f h h1 h2;rw [e,Option.bind_some];have hp:=y7e a;obtain ⟨b,k2,m4,e2,hr2,hm2,hN2⟩:=(ih m3 (by omega)).2.2 rest k' op f fu hr h1 h2 (by omega);rw [e2,Option.bind_some];exact ⟨_,_,m4,rfl,hr2,by omega,by simp only [pairsN,pairN] at hN2 ⊢;omega⟩
   ·have h:Runs toks m ([125]::rest) k op:=by rcases h with ⟨_,h⟩|⟨_,h⟩<;>exact h
    obtain ⟨m',rfl,hf,hn,hl,h⟩:=h.tclose hE ht;rw [if_pos (by rw [y00 hW (by decide)];exact hf)];exact ⟨_,_,m',rfl,h,by omega,by simp [pairsN];omega⟩
end
section
variable {toks : List TokD}
theorem x1s (hE:TokA toks) {n:Nat} {rest:List Txt} {k:Nat} {op:Int} {r:Txt×Txt} (h:Runs toks n (x3y::rest) k op) (hr:r.2.length≤2000):
  ∃r' k' m,x2w toks r k=some (r',k')∧Runs toks m rest k' op∧m<n∧k≤k'∧r'.2.length≤r.2.length+1:=by
 obtain ⟨m,t,rfl,ht,hA⟩:=q4f h;have hW:=hE.wf k t ht;unfold x2w;rw [if_pos hr,ht];simp only;rcases hA with ⟨hF,h⟩|⟨hF,h⟩
 ·obtain ⟨m',rfl,hf,hn,hl,h⟩:=h.t0 hE ht;rw [if_pos (by rw [y00 hW (by decide)];exact hf)];exact ⟨_,_,m',rfl,h,by omega,by omega,by simp⟩
 ·have h:Runs toks m rest k op:=by rcases h with ⟨_,h⟩|⟨_,h⟩<;>exact h
  rw [if_neg (by rw [y00 hW (by decide),y16 hF (by decide+kernel)];decide)];exact ⟨_,_,m,rfl,h,by omega,by omega,by omega⟩
theorem x8k (hE:TokA toks): ∀(n:Nat) (rest:List Txt) (k:Nat) (op:Int) (f:Nat),Runs toks n (z54::rest) k op→0≤op→op≤200→200<op+f→
  ∃r k' m,typF toks f k=some (r,k')∧Runs toks m rest k' op∧m<n∧k+1≤k'∧(r.2.length:Int)≤2*(200 - op)+1:=by
 intro n
 induction n using Nat.strongRecOn with
 |_ n ih=>
  intro rest k op f h h0 h1 h2;obtain ⟨m,t,rfl,ht,hA⟩:=q4e h;obtain ⟨f,rfl⟩: ∃g,f=g+1:=⟨f - 1,by omega⟩
  have h:Runs toks m (z78::x3y::rest) k op:=by rcases hA with ⟨_,h⟩|⟨_,h⟩;exact h;exact h.elim
  obtain ⟨m,t',rfl,ht',hA⟩:=q1q h;rw [ht] at ht';injection ht' with ht';subst ht';have hW:=hE.wf k t ht;rw [typF,ht];simp only;rcases hA with ⟨hF,h⟩|⟨_,⟨hF,h⟩|⟨_,h⟩⟩
  ·obtain ⟨m1,rfl,hf,hn,hl,h⟩:=h.t0 hE ht;rw [if_neg (by rw [y62 hW (by decide) hF (by decide+kernel)];decide),hn];obtain ⟨r',k',m2,e,hr,hm,hk,hlen⟩:=x1s (r:=(t.text,[])) hE h (by simp);rw [e];refine ⟨r',k',m2,rfl,hr,by omega,by omega,?_⟩;simp only [List.length_nil] at hlen;omega
  ·obtain ⟨m1,rfl,hf,hn,hl,hop,h⟩:=h.topen hE ht;rw [if_pos (by rw [y00 hW (by decide)];exact hf)];obtain ⟨r,k',m2,e,hr,hm,hk,hlen⟩:=ih m1 (by omega) _ (k+1) (op+1) f h (by omega) (by omega) (by omega);rw [e];simp only;obtain ⟨t1,ht1⟩:=hr.tok;have hW1:=hE.wf _ t1 ht1;obtain ⟨m3,rfl,hf1,hn1,hl1,h⟩:=hr.tclose hE ht1;rw [Int.add_sub_cancel] at h;rw [ht1];simp only;rw [if_pos (by omega),if_pos (by rw [y00 hW1 (by decide)];exact hf1)];obtain ⟨r',k2,m4,e2,hr2,hm2,hk2,hlen2⟩:=x1s (r:=(r.1,r.2++[93])) hE h (by simp;omega);rw [e2];refine ⟨r',k2,m4,rfl,hr2,by omega,by omega,?_⟩;simp only [Qae,Qbj] at hlen2;omega
  ·exact h.elim
theorem q1u (hE:TokA toks) (L:Nat) (hL:toks.length≤L): ∀n,
  (∀(rest:List Txt) (k:Nat) (op:Int) (f fu:Nat),Runs toks n (z75::[41]::rest) k op→op≤200→200<op+f→toks.length<fu+k→Got toks n rest (op - 1) k (fun l=>pairsN l+1) (y2o toks [41] (litF toks L f) fu k))∧
  (∀(rest:List Txt) (k:Nat) (op:Int) (f fu:Nat),Runs toks n (nARG::z75::[41]::rest) k op→op≤200→200<op+f→toks.length<fu+k→Got toks n rest (op - 1) k (fun l=>pairsN l+1) (y2o toks [41] (litF toks L f) fu k)):=by
 intro n
 induction n using Nat.strongRecOn with
 |_ n ih=>
  refine ⟨fun rest k op f fu h h1 h2 h3=>?_,fun rest k op f fu h h1 h2 h3=>?_⟩
  ·obtain ⟨m,t,rfl,ht,hA⟩:=q39 h;have hlt:k<toks.length:=(Qac.1 ht).1;have hW:=hE.wf k t ht;rcases hA with ⟨hF,h⟩|⟨_,h⟩
   ·obtain ⟨a,k',m1,e,hr,hm,hN⟩:=(ih m (by omega)).2 rest k op f fu h h1 h2 h3;exact ⟨a,k',m1,e,hr,by omega,hN⟩
   ·have h:Runs toks m ([41]::rest) k op:=by rcases h with ⟨_,h⟩|⟨_,h⟩<;>exact h
    obtain ⟨fu,rfl⟩: ∃g,fu=g+1:=⟨fu - 1,by omega⟩;rw [y2o,ht,Option.bind_some];obtain ⟨m',rfl,hf,hn,hl,h⟩:=h.tclose hE ht;rw [if_pos (by rw [y00 hW (by decide)];exact hf)];exact ⟨_,_,m',rfl,h,by omega,by simp [pairsN];omega⟩
  ·obtain ⟨m,t,rfl,ht,hA⟩:=q6f h;have hlt:k<toks.length:=(Qac.1 ht).1;have hW:=hE.wf k t ht;obtain ⟨fu,rfl⟩: ∃g,fu=g+1:=⟨fu - 1,by omega⟩;rw [y2o,ht,Option.bind_some];rcases hA with ⟨hF,h⟩|⟨_,h⟩
   ·rw [if_neg (by rw [y62 hW (by decide) hF (by decide+kernel)];decide)];obtain ⟨m1,rfl,hf,hn,hl,h⟩:=h.t0 hE ht;obtain ⟨t1,ht1⟩:=h.tok;have hW1:=hE.wf _ t1 ht1;obtain ⟨m2,rfl,hf1,hn1,hl1,h⟩:=h.t0 hE ht1;rw [hn,ht1,Option.bind_some,if_pos (by rw [y00 hW1 (by decide)];exact hf1)];obtain ⟨a,k',m3,e,hr,hm,hN⟩:=(x8j hE L hL m2).1 _ (k+1+1) op f h h1 h2;rw [e,Option.bind_some];have hp:=y7e a;obtain ⟨b,k2,m4,e2,hr2,hm2,hN2⟩:=(ih m3 (by omega)).1 rest k' op f fu hr h1 h2 (by omega);rw [e2,Option.bind_some];exact ⟨_,_,m4,rfl,hr2,by omega,by simp only [pairsN,pairN] at hN2 ⊢;omega⟩
   ·exact h.elim
theorem x8l (hE:TokA toks) (L:Nat) (hL:toks.length≤L) {n:Nat} {rest:List Txt} {k:Nat} {op:Int} {f:Nat} (h:Runs toks n (x7r::rest) k op) (h1:op≤200) (h2:200<op+f):Got toks n rest op k pairsN (q0f toks L f k):=by
 obtain ⟨m,t,rfl,ht,hA⟩:=q38 h;have hlt:k<toks.length:=(Qac.1 ht).1;have hW:=hE.wf k t ht;unfold q0f;rw [ht,Option.bind_some];rcases hA with ⟨hF,h⟩|⟨hF,h⟩
 ·obtain ⟨m1,rfl,hf,hn,hl,hop,h⟩:=h.topen hE ht;rw [if_pos (by rw [y00 hW (by decide)];exact hf)];obtain ⟨a,k',m2,e,hr,hm,hN⟩:=(q1u hE L hL m1).2 rest (k+1) (op+1) f L h (by omega) (by omega) (by omega);rw [Int.add_sub_cancel] at hr;exact ⟨a,k',m2,e,hr,by omega,by (try simp only at hN ⊢);omega⟩
 ·have h:Runs toks m rest k op:=by rcases h with ⟨_,h⟩|⟨_,h⟩<;>exact h
  rw [if_neg (by rw [y00 hW (by decide),y16 hF (by decide+kernel)];decide)];exact ⟨_,_,m,rfl,h,by omega,by simp [pairsN]⟩
theorem x1t (hE:TokA toks) (L:Nat) (hL:toks.length≤L): ∀n,
  (∀(rest:List Txt) (k:Nat) (op:Int) (f fu:Nat),Runs toks n (y04::rest) k op→op≤200→200<op+f→toks.length<fu+k→Got toks n rest op k (sumN dirN) (y75 toks L f fu k))∧
  (∀(rest:List Txt) (k:Nat) (op:Int) (f fu:Nat),Runs toks n (nDIR::y04::rest) k op→op≤200→200<op+f→toks.length<fu+k→Got toks n rest op k (sumN dirN) (y75 toks L f fu k)):=by
 intro n
 induction n using Nat.strongRecOn with
 |_ n ih=>
  refine ⟨fun rest k op f fu h h1 h2 h3=>?_,fun rest k op f fu h h1 h2 h3=>?_⟩
  ·obtain ⟨m,t,rfl,ht,hA⟩:=q36 h;have hlt:k<toks.length:=(Qac.1 ht).1;have hW:=hE.wf k t ht;rcases hA with ⟨hF,h⟩|⟨hF,h⟩
   ·obtain ⟨a,k',m1,e,hr,hm,hN⟩:=(ih m (by omega)).2 rest k op f fu h h1 h2 h3;exact ⟨a,k',m1,e,hr,by omega,hN⟩
   ·have h:Runs toks m rest k op:=by rcases h with ⟨_,h⟩|⟨_,h⟩<;>exact h
    obtain ⟨fu,rfl⟩: ∃g,fu=g+1:=⟨fu - 1,by omega⟩;rw [y75,ht,Option.bind_some,if_neg (by rw [y00 hW (by decide),y16 hF (by decide+kernel)];decide)];exact ⟨_,_,m,rfl,h,by omega,by simp [sumN]⟩
  ·obtain ⟨m,t,rfl,ht,hA⟩:=q6e h;have hlt:k<toks.length:=(Qac.1 ht).1;have hW:=hE.wf k t ht;obtain ⟨fu,rfl⟩: ∃g,fu=g+1:=⟨fu - 1,by omega⟩;rw [y75,ht,Option.bind_some];rcases hA with ⟨hF,h⟩|⟨_,h⟩
   ·obtain ⟨m1,rfl,hf,hn,hl,h⟩:=h.t0 hE ht;rw [if_pos (by rw [y00 hW (by decide)];exact hf),hn];obtain ⟨t1,ht1⟩:=h.tok;obtain ⟨m2,rfl,hf1,hn1,hl1,h⟩:=h.t0 hE ht1;rw [ht1,Option.bind_some,hn1];obtain ⟨a,k',m3,e,hr,hm,hN⟩:=x8l hE L hL h h1 h2;rw [e,Option.bind_some];obtain ⟨b,k2,m4,e2,hr2,hm2,hN2⟩:=(ih m3 (by omega)).1 rest k' op f fu hr h1 h2 (by omega);rw [e2,Option.bind_some];exact ⟨_,_,m4,rfl,hr2,by omega,by simp only [sumN,dirN] at hN2 ⊢;omega⟩
   ·exact h.elim
theorem y18 (hE:TokA toks) (L:Nat) (hL:toks.length≤L) {n:Nat} {rest:List Txt} {k:Nat} {op:Int} {f:Nat} (h:Runs toks n (y04::rest) k op) (h1:op≤200) (h2:200<op+f) (hk:0<k):Got toks n rest op k (sumN dirN) (y4i toks L f k):=
 (x1t hE L hL n).1 rest k op f L h h1 h2 (by omega)
theorem y7r (hE:TokA toks) (L:Nat) (hL:toks.length≤L) {n:Nat} {rest:List Txt} {k:Nat} {op:Int} {f:Nat} (h:Runs toks n (nDIR::y04::rest) k op) (h1:op≤200) (h2:200<op+f) (hk:0<k):Got toks n rest op k (sumN dirN) (y4i toks L f k):=
 (x1t hE L hL n).2 rest k op f L h h1 h2 (by omega)
theorem z8b (hE:TokA toks) (mark:UInt8) (hp:mark∈([33,38,40,41,58,61,64,91,93,123,124,125]:Txt)) (hb:y1p [mark]=0) (item list:Txt) (hs:(decide (item≠[])&&decide (item.length≤1000)&& !y3p item&&decide (item≠endT))=true) (hbi:y1p item=0)
  (hin: ∀{n k:Nat} {rest:List Txt} {op:Int},Runs toks n (list::rest) k op→ ∃m t,n=m+1∧toks[k]?=some t∧((fits [[mark]] t=true∧Runs toks m ([mark]::item::list::rest) k op)∨(fits [[mark]] t=false∧((fits [] t=true∧Runs toks m rest k op)∨(fits [] t=false∧(Runs toks m rest k op)))))):
  ∀(n:Nat) (rest:List Txt) (k:Nat) (op:Int) (fu:Nat),Runs toks n (item::list::rest) k op→toks.length<fu+k→Got toks n rest op k (fun l=>l.length) (z0w toks [mark] fu k):=by
 intro n
 induction n using Nat.strongRecOn with
 |_ n ih=>
  intro rest k op fu h h1;obtain ⟨t,ht⟩:=h.tok;have hlt:k<toks.length:=(Qac.1 ht).1;obtain ⟨fu,rfl⟩: ∃g,fu=g+1:=⟨fu - 1,by omega⟩;obtain ⟨m1,rfl,hf,hn,hl,h⟩:=h.t0 hE ht hs hbi;obtain ⟨m2,t1,rfl,ht1,hA⟩:=hin h;have hW1:=hE.wf _ t1 ht1;rw [z0w,ht];simp only;rw [hn,ht1];simp only;rcases hA with ⟨hF,h⟩|⟨hF,h⟩
  ·obtain ⟨m3,rfl,hf1,hn1,hl1,h⟩:=h.t0 hE ht1 (by simp only [Qbd,List.mem_nil_iff,or_false] at hp;rcases hp with rfl|rfl|rfl|rfl|rfl|rfl|rfl|rfl|rfl|rfl|rfl|rfl<;>decide+kernel) hb;rw [if_pos (by rw [y00 hW1 hp];exact hf1)];obtain ⟨a,k',m4,e,hr,hm,hN⟩:=ih m3 (by omega) rest (k+1+1) op fu h (by omega);rw [e];exact ⟨_,_,m4,rfl,hr,by omega,by simp only [List.length_cons] at hN ⊢;omega⟩
  ·have h:Runs toks m2 rest (k+1) op:=by rcases h with ⟨_,h⟩|⟨_,h⟩<;>exact h
   rw [if_neg (by rw [y00 hW1 hp,y16 hF (by simp)];decide)];exact ⟨_,_,m2,rfl,h,by omega,by simp only [Qbj];omega⟩
theorem z0l (hE:TokA toks) (mark:UInt8) (hp:mark∈([33,38,40,41,58,61,64,91,93,123,124,125]:Txt)) (hb:y1p [mark]=0) (item list opt:Txt) (hs:(decide (item≠[])&&decide (item.length≤1000)&& !y3p item&&decide (item≠endT))=true) (hbi:y1p item=0)
  (hno: ∀t,y1a item t=true→t.kind=3)
  (hin: ∀{n k:Nat} {rest:List Txt} {op:Int},Runs toks n (list::rest) k op→ ∃m t,n=m+1∧toks[k]?=some t∧((fits [[mark]] t=true∧Runs toks m ([mark]::item::list::rest) k op)∨(fits [[mark]] t=false∧((fits [] t=true∧Runs toks m rest k op)∨(fits [] t=false∧(Runs toks m rest k op))))))
  (hopt: ∀{n k:Nat} {rest:List Txt} {op:Int},Runs toks n (opt::rest) k op→ ∃m t,n=m+1∧toks[k]?=some t∧((fits [[mark]] t=true∧Runs toks m ([mark]::rest) k op)∨(fits [[mark]] t=false∧((fits [] t=true∧Runs toks m rest k op)∨(fits [] t=false∧(Runs toks m rest k op))))))
  (L:Nat) (hL:toks.length≤L) {n:Nat} {rest:List Txt} {k:Nat} {op:Int} (hk:0<k) (h:Runs toks n (opt::item::list::rest) k op):Got toks n rest op k (fun l=>l.length) (y8k toks [mark] L k):=by
 obtain ⟨m,t,rfl,ht,hA⟩:=hopt h;have hW:=hE.wf _ t ht;unfold y8k;rw [ht];simp only;rcases hA with ⟨hF,h⟩|⟨hF,h⟩
 ·obtain ⟨m1,rfl,hf1,hn1,hl1,h⟩:=h.t0 hE ht (by simp only [Qbd,List.mem_nil_iff,or_false] at hp;rcases hp with rfl|rfl|rfl|rfl|rfl|rfl|rfl|rfl|rfl|rfl|rfl|rfl<;>decide+kernel) hb;rw [if_pos (by rw [y00 hW hp];exact hf1)];obtain ⟨a,k',m2,e,hr,hm,hN⟩:=z8b hE mark hp hb item list hs hbi hin m1 rest (k+1) op L h (by omega);exact ⟨a,k',m2,e,hr,by omega,by (try simp only at hN ⊢);omega⟩
 ·have h:Runs toks m (item::list::rest) k op:=by rcases h with ⟨_,h⟩|⟨_,h⟩<;>exact h
  rw [if_neg (by rw [y00 hW hp,y16 hF (by simp)];decide)];obtain ⟨a,k',m2,e,hr,hm,hN⟩:=z8b hE mark hp hb item list hs hbi hin m rest k op L h (by omega);exact ⟨a,k',m2,e,hr,by omega,hN⟩
theorem z1i {n:Nat} {st:List Txt} {k:Nat} {op:Int} (hE:TokA toks) {t:TokD} (ht:toks[k]?=some t) (h:Runs toks n (tSTR::st) k op): ∃p m,y9e toks k=some (p,k+1)∧n=m+1∧Runs toks m st (k+1) op:=by
 obtain ⟨m,rfl,hf,hn,hl,h⟩:=h.t0 hE ht;unfold y9e;rw [ht,Option.map_some,if_pos (x1r hf)];exact ⟨_,m,rfl,rfl,h⟩
theorem y5i {k:Nat} {t:TokD} (ht:toks[k]?=some t) (hf:y1a tSTR t=false):y9e toks k=some (y6r,k):=by
 unfold y9e;have:((t.kind==6)||(t.kind==7))=false:=hf;simp at this;rw [ht,Option.map_some,if_neg (by omega)]
theorem q2i (hE:TokA toks) (L:Nat) (hL:toks.length≤L) {n:Nat} {rest:List Txt} {k k0:Nat} {op:Int} {f:Nat} {p:NoteD} (hn0:y9e toks k0=some (p,k)) (hk0:k0≤k) (h:Runs toks n (y8x::rest) k op) (h0:0≤op) (h1:op≤200) (h2:200<op+f):
  Got toks n rest op k0 y14 (z30 toks L f k0):=by
 obtain ⟨m,t,rfl,ht,hA⟩:=x76 h;rcases hA with ⟨hF,h⟩|⟨_,h⟩
 ·obtain ⟨m1,rfl,hf,hn,hl,h⟩:=h.t0 hE ht;obtain ⟨t1,ht1⟩:=h.tok;have hW1:=hE.wf _ t1 ht1;obtain ⟨m2,rfl,hf1,hn1,hl1,h⟩:=h.t0 hE ht1;obtain ⟨r,k',m3,e,hr,hm,hN,hlen⟩:=x8k hE _ _ (k+1+1) op f h h0 h1 h2;obtain ⟨m4,t3,rfl,ht3,hA⟩:=x4c hr;have hW3:=hE.wf _ t3 ht3;unfold z30;rw [hn0,Option.bind_some,ht,Option.bind_some,hn,ht1,Option.bind_some,if_pos (by rw [y00 hW1 (by decide)];exact hf1),e,Option.bind_some,ht3,Option.bind_some];rcases hA with ⟨hF,h⟩|⟨hF,h⟩
  ·obtain ⟨m5,rfl,hf3,hn3,hl3,h⟩:=h.t0 hE ht3;rw [if_pos (by rw [y00 hW3 (by decide)];exact hf3)];obtain ⟨a,k2,m6,e2,hr2,hm2,hN2⟩:=(x8j hE L hL _).1 _ _ op f h h1 h2;rw [e2,Option.bind_some];obtain ⟨b,k3,m7,e3,hr3,hm3,hN3⟩:=y18 hE L hL hr2 h1 h2 (by omega);rw [e3,Option.bind_some];exact ⟨_,_,m7,rfl,hr3,by omega,by simp only [y14];omega⟩
  ·have h:Runs toks m4 (y04::rest) k' op:=by rcases h with ⟨_,h⟩|⟨_,h⟩<;>exact h
   rw [if_neg (by rw [y00 hW3 (by decide),y16 hF (by decide+kernel)];decide),Option.bind_some];obtain ⟨b,k3,m7,e3,hr3,hm3,hN3⟩:=y18 hE L hL h h1 h2 (by omega);rw [e3,Option.bind_some];have hz:litN litZ=1:=rfl;exact ⟨_,_,m7,rfl,hr3,by omega,by simp only [y14,hz];omega⟩
 ·exact h.elim
theorem x8m (hE:TokA toks) (L:Nat) (hL:toks.length≤L) {n:Nat} {rest:List Txt} {k:Nat} {op:Int} {f:Nat} (h:Runs toks n (y8c::rest) k op) (h0:0≤op) (h1:op≤200) (h2:200<op+f):
  Got toks n rest op k y14 (z30 toks L f k):=by
 obtain ⟨m,t,rfl,ht,hA⟩:=x1q h;rcases hA with ⟨hF,h⟩|⟨hF,⟨hF2,h⟩|⟨_,h⟩⟩
 ·obtain ⟨p,m1,e,em,h'⟩:=z1i hE ht h;subst em;obtain ⟨a,k2,m6,e2,hr2,hm2,hN2⟩:=q2i hE L hL e (by omega) h' h0 h1 h2;exact ⟨a,k2,m6,e2,hr2,by omega,hN2⟩
 ·obtain ⟨a,k2,m6,e2,hr2,hm2,hN2⟩:=q2i hE L hL (y5i ht (y16 hF (by decide+kernel))) (Qab _) h h0 h1 h2;exact ⟨a,k2,m6,e2,hr2,by omega,hN2⟩
 ·exact h.elim
theorem z4q (hE:TokA toks) (L:Nat) (hL:toks.length≤L) (cl:UInt8) (hc:cl=41∨cl=125): ∀n,
  (∀(rest:List Txt) (k:Nat) (op:Int) (f fu:Nat),Runs toks n (y46::[cl]::rest) k op→0≤op→op≤200→200<op+f→toks.length<fu+k→Got toks n rest (op - 1) k (fun l=>sumN y14 l+1) (y37 toks [cl] L f fu k))∧
  (∀(rest:List Txt) (k:Nat) (op:Int) (f fu:Nat),Runs toks n (y8c::y46::[cl]::rest) k op→0≤op→op≤200→200<op+f→toks.length<fu+k→Got toks n rest (op - 1) k (fun l=>sumN y14 l+1) (y37 toks [cl] L f fu k)):=by
 intro n
 induction n using Nat.strongRecOn with
 |_ n ih=>
  refine ⟨fun rest k op f fu h h0 h1 h2 h3=>?_,fun rest k op f fu h h0 h1 h2 h3=>?_⟩
  ·obtain ⟨m,t,rfl,ht,hA⟩:=x74 h;have hlt:k<toks.length:=(Qac.1 ht).1;have hW:=hE.wf k t ht;rcases hA with ⟨hF,h⟩|⟨hF,h⟩
   ·obtain ⟨a,k',m1,e,hr,hm,hN⟩:=(ih m (by omega)).2 rest k op f fu h h0 h1 h2 h3;exact ⟨a,k',m1,e,hr,by omega,hN⟩
   ·have h:Runs toks m ([cl]::rest) k op:=by rcases h with ⟨_,h⟩|⟨_,h⟩<;>exact h
    obtain ⟨fu,rfl⟩: ∃g,fu=g+1:=⟨fu - 1,by omega⟩;rw [y37,ht,Option.bind_some];obtain ⟨m',rfl,hf,hn,hl,h⟩:=h.tclose hE ht (by rcases hc with rfl|rfl<;>decide+kernel) (by rcases hc with rfl|rfl<;>decide+kernel);rw [if_pos (by rw [y00 hW (by rcases hc with rfl|rfl<;>decide)];exact hf)];exact ⟨_,_,m',rfl,h,by omega,by simp [sumN];omega⟩
  ·obtain ⟨t,ht⟩:=h.tok;have hlt:k<toks.length:=(Qac.1 ht).1;have hW:=hE.wf k t ht
   have hno:isF t [cl]=false:=by
    obtain ⟨m,t',_,ht',hA⟩:=x1q h;rw [ht] at ht';injection ht' with ht';subst ht';rcases hA with ⟨hF,_⟩|⟨_,⟨hF,_⟩|⟨_,h⟩⟩
    ·exact y62 hW (by rcases hc with rfl|rfl<;>decide) hF (by rcases hc with rfl|rfl<;>decide+kernel)
    ·exact y62 hW (by rcases hc with rfl|rfl<;>decide) hF (by rcases hc with rfl|rfl<;>decide+kernel)
    ·exact h.elim
   obtain ⟨fu,rfl⟩: ∃g,fu=g+1:=⟨fu - 1,by omega⟩;rw [y37,ht,Option.bind_some,if_neg (by rw [hno];decide)];obtain ⟨a,k',m3,e,hr,hm,hN⟩:=x8m hE L hL h h0 h1 h2;rw [e,Option.bind_some];have hp:=y4f a;obtain ⟨b,k2,m4,e2,hr2,hm2,hN2⟩:=(ih m3 (by omega)).1 rest k' op f fu hr h0 h1 h2 (by omega);rw [e2,Option.bind_some];exact ⟨_,_,m4,rfl,hr2,by omega,by simp only [sumN] at hN2 ⊢;omega⟩
theorem z2y (hE:TokA toks) (L:Nat) (hL:toks.length≤L) {n:Nat} {rest:List Txt} {k:Nat} {op:Int} {f:Nat} (h:Runs toks n (y61::rest) k op) (h0:0≤op) (h1:op≤200) (h2:200<op+f):Got toks n rest op k (sumN y14) (y3g toks [40] [41] L f k):=by
 obtain ⟨m,t,rfl,ht,hA⟩:=x73 h;have hlt:k<toks.length:=(Qac.1 ht).1;have hW:=hE.wf k t ht;unfold y3g;rw [ht,Option.bind_some];rcases hA with ⟨hF,h⟩|⟨hF,h⟩
 ·obtain ⟨m1,rfl,hf,hn,hl,hop,h⟩:=h.topen hE ht;rw [if_pos (by rw [y00 hW (by decide)];exact hf)];obtain ⟨a,k',m2,e,hr,hm,hN⟩:=(z4q hE L hL 41 (.inl rfl) m1).2 rest (k+1) (op+1) f L h (by omega) (by omega) (by omega) (by omega);rw [Int.add_sub_cancel] at hr;exact ⟨a,k',m2,e,hr,by omega,by (try simp only at hN ⊢);omega⟩
 ·have h:Runs toks m rest k op:=by rcases h with ⟨_,h⟩|⟨_,h⟩<;>exact h
  rw [if_neg (by rw [y00 hW (by decide),y16 hF (by decide+kernel)];decide)];exact ⟨_,_,m,rfl,h,by omega,by simp [sumN]⟩
theorem z2z (hE:TokA toks) (L:Nat) (hL:toks.length≤L) {n:Nat} {rest:List Txt} {k:Nat} {op:Int} {f:Nat} (h:Runs toks n (y56::rest) k op) (h0:0≤op) (h1:op≤200) (h2:200<op+f):Got toks n rest op k (sumN y14) (y3g toks [123] [125] L f k):=by
 obtain ⟨m,t,rfl,ht,hA⟩:=x4i h;have hlt:k<toks.length:=(Qac.1 ht).1;have hW:=hE.wf k t ht;unfold y3g;rw [ht,Option.bind_some];rcases hA with ⟨hF,h⟩|⟨hF,h⟩
 ·obtain ⟨m1,rfl,hf,hn,hl,hop,h⟩:=h.topen hE ht;rw [if_pos (by rw [y00 hW (by decide)];exact hf)];obtain ⟨a,k',m2,e,hr,hm,hN⟩:=(z4q hE L hL 125 (.inr rfl) m1).2 rest (k+1) (op+1) f L h (by omega) (by omega) (by omega) (by omega);rw [Int.add_sub_cancel] at hr;exact ⟨a,k',m2,e,hr,by omega,by (try simp only at hN ⊢);omega⟩
 ·exact h.elim
theorem z4r (hE:TokA toks) (L:Nat) (hL:toks.length≤L) {n:Nat} {rest:List Txt} {k:Nat} {op:Int} {f:Nat} (h:Runs toks n (y55::rest) k op) (h0:0≤op) (h1:op≤200) (h2:200<op+f):Got toks n rest op k (sumN y14) (y3g toks [123] [125] L f k):=by
 obtain ⟨m,t,rfl,ht,hA⟩:=x8e h;have hW:=hE.wf k t ht;rcases hA with ⟨hF,h⟩|⟨hF,h⟩
 ·obtain ⟨a,k',m2,e,hr,hm,hN⟩:=z2z hE L hL h h0 h1 h2;exact ⟨a,k',m2,e,hr,by omega,by (try simp only at hN ⊢);omega⟩
 ·have h:Runs toks m rest k op:=by rcases h with ⟨_,h⟩|⟨_,h⟩<;>exact h
  unfold y3g;rw [ht,Option.bind_some,if_neg (by rw [y00 hW (by decide),y16 hF (by decide+kernel)];decide)];exact ⟨_,_,m,rfl,h,by omega,by simp [sumN]⟩
end
end Go.Proofs.YtbpgkkoeehopjaaGreat.acr
