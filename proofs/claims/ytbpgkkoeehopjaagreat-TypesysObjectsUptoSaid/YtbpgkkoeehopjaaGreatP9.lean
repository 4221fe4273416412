/- Part 9 of 17 of a proof: see the last part. -/
import Derived.Test.YtbpgkkoeehopjaaGreatP4
import Derived.Test.YtbpgkkoeehopjaaGreatP8
set_option linter.unusedVariables false
set_option linter.unusedSimpArgs false
namespace Go.Proofs.YtbpgkkoeehopjaaGreat.gram
open tree
set_option maxRecDepth 100000
def y58 (g:List Txt→Option (List Txt)):List (List Txt)→Option (List Txt)
 |[]=>some []
 |c::r=>match g c with
  |none=>none
  |some a=>match y58 g r with
   |none=>none
   |some b=>some (a++b)
def y5t (g:List Txt→Option (List Txt)) (nu:Txt→Option Bool) (R:List RuleD):List Txt→Option (List Txt)
 |[]=>some []
 |s::r=>
  if s=[]∨1000<s.length then none
  else if y3u s=true then
   match y58 g (y05 R s) with
   |none=>none
   |some F=>match nu s with
    |none=>none
    |some true=>(match y5t g nu R r with
     |none=>none
     |some G=>some (F++G))
    |some false=>some F
  else some [s]
def x1w (R:List RuleD) (nf:Nat):Nat→List Txt→Option (List Txt)
 |0,_=>none
 |f+1,l=>y5t (x1w R nf f) (y9i R nf) R l
def fits (F:List Txt) (t:TokD):Bool:=F.any fun s=>y1h s t
theorem z6e (F G:List Txt) (t:TokD):fits (F++G) t=(fits F t||fits G t):=by simp [fits]
theorem z7n {g:List Txt→Option (List Txt)} {b:List Txt→Option Bool} {t:TokD} (h: ∀l F,g l=some F→b l=some (fits F t)): ∀{cs:List (List Txt)} {F:List Txt},y58 g cs=some F→anyO b cs=some (fits F t)
 |[],F,hF=>by rw [y58] at hF;injection hF with hF;subst hF;rfl
 |c::r,F,hF=>by
  rw [y58] at hF
  cases hg:g c with
  |none=>rw [hg] at hF;cases hF
  |some a=>
   rw [hg] at hF
   cases hr:y58 g r with
   |none=>rw [hr] at hF;cases hF
   |some G=>
    rw [hr] at hF;injection hF with hF;subst hF;rw [anyO,h c a hg,z6e]
    cases fits a t with
    |true=>rfl
    |false=>exact z7n h hr
theorem z4u {g:List Txt→Option (List Txt)} {b:List Txt→Option Bool} {nu:Txt→Option Bool} {R:List RuleD} {t:TokD} (h: ∀l F,g l=some F→b l=some (fits F t)): ∀{l F:List Txt},y5t g nu R l=some F→y54 b nu R t l=some (fits F t)
 |[],F,hF=>by rw [y5t] at hF;injection hF with hF;subst hF;rfl
 |s::r,F,hF=>by
  rw [y5t] at hF;rw [y54];by_cases h0:s=[]∨1000<s.length
  ·rw [if_pos h0] at hF;cases hF
  rw [if_neg h0] at hF ⊢
  cases hr:y3u s with
  |false=>
   rw [hr,if_neg (by decide)] at hF;rw [if_neg (by decide)];injection hF with hF;subst hF;simp [fits]
  |true=>
   rw [hr,if_pos rfl] at hF;rw [if_pos rfl]
   cases ha:y58 g (y05 R s) with
   |none=>rw [ha] at hF;cases hF
   |some G=>
    rw [ha] at hF;rw [z7n h ha]
    cases hz:nu s with
    |none=>rw [hz] at hF;cases hF
    |some z=>
     rw [hz] at hF
     cases z with
     |false=>
      injection hF with hF;subst hF
      cases fits G t<;>rfl
     |true=>
      simp only at hF
      cases hf:y5t g nu R r with
      |none=>rw [hf] at hF;cases hF
      |some H=>
       rw [hf] at hF;injection hF with hF;subst hF;rw [z6e]
       cases fits G t with
       |true=>rfl
       |false=>exact z4u h hf
theorem z7o {R:List RuleD} {nf:Nat} {t:TokD}: ∀{f:Nat} {l F:List Txt},x1w R nf f l=some F→begF R nf t f l=some (fits F t)
 |0,l,F,h=>by cases h
 |f+1,l,F,h=>z4u (fun l F h=>z7o h) h
def z96 (R:List RuleD) (nf bf:Nat):List (List Txt)→Option (List (List Txt×List Txt))
 |[]=>some []
 |c::r=>match x1w R nf bf c with
  |none=>none
  |some F=>match z96 R nf bf r with
   |none=>none
   |some T=>some ((F,c)::T)
def pick (t:TokD):List (List Txt×List Txt)→Option (List Txt)
 |[]=>none
 |(F,c)::r=>if fits F t=true then some c else pick t r
theorem x1x {R:List RuleD} {nf bf:Nat} {t:TokD}: ∀{cs:List (List Txt)} {T:List (List Txt×List Txt)},z96 R nf bf cs=some T→choF (begF R nf t bf) cs=some (pick t T)
 |[],T,h=>by rw [z96] at h;injection h with h;subst h;rfl
 |c::r,T,h=>by
  rw [z96] at h
  cases hf:x1w R nf bf c with
  |none=>rw [hf] at h;cases h
  |some F=>
   rw [hf] at h
   cases hr:z96 R nf bf r with
   |none=>rw [hr] at h;cases h
   |some U=>
    rw [hr] at h;injection h with h;subst h;rw [choF,z7o hf,pick]
    cases fits F t with
    |true=>rfl
    |false=>exact x1x hr
def tabF (R:List RuleD) (nf bf:Nat) (s:Txt):Option (List (List Txt×List Txt)×Bool):=
 match z96 R nf bf (y05 R s) with
 |none=>none
 |some T=>match y9i R nf s with
  |none=>none
  |some z=>some (T,z)
theorem z4v {R:List RuleD} {nf bf:Nat} {t:TokD} {s:Txt} {T:List (List Txt×List Txt)} {z:Bool} (h:tabF R nf bf s=some (T,z)):z0d R nf bf t s=some (match pick t T with|some c=>(c,true)|none=>([],z)):=by
 unfold tabF at h
 cases hr:z96 R nf bf (y05 R s) with
 |none=>rw [hr] at h;cases h
 |some U=>
  rw [hr] at h
  cases hz:y9i R nf s with
  |none=>rw [hz] at h;cases h
  |some y=>
   rw [hz] at h;injection h with h;injection h with h1 h2;subst h1 h2;unfold z0d;rw [x1x hr]
   cases pick t U with
   |none=>simp only [hz]
   |some c=>rfl
abbrev nfG:Nat:=40
abbrev bfG:Nat:=40
def tabG (s:Txt):Option (List (List Txt×List Txt)×Bool):=tabF rulesG nfG bfG s
def q4f (R:List RuleD):Nat→Txt→Nat
 |0,_=>0
 |f+1,s=>if y3u s=true then ((y05 R s).map fun c=>match c with|[]=>0|x::_=>q4f R f x).foldl max 0+1 else 0
def rank (s:Txt):Nat:=q4f rulesG 40 s
def z0g (s:Txt):List Txt:=if y3u s=true then (match tabG s with
 |some (T,_)=>T.flatMap (·.1)
 |none=>[]) else [s]
def z7p (s:Txt):Bool:=decide (s≠[])&&decide (s.length≤1000)&&(!y3u s||(rulesG.any fun r=>decide (r.name=s)))
abbrev endT:Txt:=[46,101,110,100]
def q4g (s:Txt) (p:List Txt×List Txt):Bool:=match p.2 with
 |[]=>p.1.isEmpty
 |x::r=>decide (r.length≤11)&&(x::r).all z7p&&decide (p.1=z0g x)&&decide (rank x<rank s)&&decide (endT∉p.1)
def q6i (s:Txt):Bool:=match tabG s with
 |some (T,_)=>T.all (q4g s)
 |none=>false
theorem q6j: ∀r∈rulesG,(q6i r.name&&decide (rank r.name≤12))=true:=by decide+kernel
theorem x1y {s:Txt} (h:z7p s=true) (hr:y3u s=true):(∃T z,tabG s=some (T,z)∧ ∀p∈T,q4g s p=true)∧rank s≤12:=by
 unfold z7p at h;rw [hr] at h;simp only [Bool.not_true,Bool.false_or,Qao,Qbh,decide_eq_true_eq] at h;obtain ⟨_,r,hm,rfl⟩:=h;have h1:=q6j r hm;simp only [Qao,decide_eq_true_eq] at h1;refine ⟨?_,h1.2⟩;have h2:=h1.1;unfold q6i at h2
 cases ht:tabG r.name with
 |none=>rw [ht] at h2;cases h2
 |some p=>
  obtain ⟨T,z⟩:=p;rw [ht] at h2;exact ⟨T,z,rfl,Qbi.1 h2⟩
theorem q6k {s:Txt} (h:z7p s=true): ¬(s=[]∨1000<s.length):=by
 unfold z7p at h;simp only [Qao,decide_eq_true_eq] at h;rintro (h0|h0)
 ·exact h.1.1 h0
 ·have:=h.1.2;omega
theorem z7q {s:Txt} (h:y3u s=false):rank s=0:=by
 unfold rank q4f;rw [h,if_neg (by decide)]
theorem z21 {s:Txt} {t:TokD} (h:y1h s t=true):t.kind≠1∧(s≠endT→t.kind≠0):=by
 unfold y1h at h;split at h
 ·have:t.kind=3:=by simpa using h
  omega
 split at h
 ·simp only [Qao] at h
  have:t.kind=3:=by simpa using h.1
  omega
 split at h
 ·simp only [Qao] at h
  have:t.kind=3:=by simpa using h.1
  omega
 split at h
 ·simp only [Qao] at h
  have:t.kind=3:=by simpa using h.1
  omega
 split at h
 ·simp only [Bool.or_eq_true] at h;rcases h with h|h
  ·have:t.kind=6:=by simpa using h
   omega
  ·have:t.kind=7:=by simpa using h
   omega
 split at h
 ·simp only [Bool.or_eq_true] at h;rcases h with h|h
  ·have:t.kind=4:=by simpa using h
   omega
  ·have:t.kind=5:=by simpa using h
   omega
 split at h
 ·rename_i he
  have:t.kind=0:=by simpa using h
  exact ⟨by omega,fun h=>absurd he h⟩
 cases s with
 |nil=>cases h
 |cons c r=>
  simp only at h;split at h
  ·simp only [Qao] at h
   have:t.kind=3:=by simpa using h.1
   omega
  ·simp only [Qao] at h
   have:t.kind=2:=by simpa using h.1
   omega
theorem y5c {F:List Txt} {t:TokD} (h:fits F t=true) (hn:endT∉F):t.kind≠0:=by
 unfold fits at h;obtain ⟨s,hs,hf⟩:=Qbh.1 h;exact (z21 hf).2 (fun e=>hn (e▸hs))
theorem z7r {t:TokD} {c:List Txt}: ∀{T:List (List Txt×List Txt)},pick t T=some c→ ∃F,(F,c)∈T∧fits F t=true
 |[],h=>by cases h
 |(F,d)::r,h=>by
  rw [pick] at h;split at h
  ·rename_i hf;injection h with h;subst h;exact ⟨F,Qaz ..,hf⟩
  ·obtain ⟨G,hm,hG⟩:=z7r h;exact ⟨G,Qa2 _ hm,hG⟩
theorem z7s {t:TokD}: ∀{T:List (List Txt×List Txt)},pick t T=none→fits (T.flatMap (·.1)) t=false
 |[],h=>rfl
 |(F,d)::r,h=>by
  rw [pick] at h;split at h
  ·cases h
  ·rename_i hf;rw [List.flatMap_cons,z6e,z7s h];simpa using hf
theorem q1i {t:TokD} {F G:List Txt} (h:fits F t=true) (hs: ∀x∈F,x∈G):fits G t=true:=by
 unfold fits at h ⊢;obtain ⟨s,hm,hf⟩:=Qbh.1 h;exact Qbh.2 ⟨s,hs s hm,hf⟩
structure TokE (toks:List TokD):Prop where
 ends: ∀k t,toks[k]?=some t→((t.kind=0∨t.kind=1)↔k+1=toks.length)
def sure (t:TokD) (s:Txt):Bool:=fits (z0g s) t&&(t.kind !=0)
def phi (toks:List TokD) (st:List Txt) (k:Nat):Nat:=match st,toks[k]? with
 |s::r,some t=>if sure t s=true then (s::r).length+200*(toks.length - k - 1)+12*rank s else (s::r).length+200*(toks.length - k)
 |_,_=>200*(toks.length - k)
theorem x1z {toks:List TokD} {st:List Txt} {k:Nat} (hok: ∀s∈st,z7p s=true) (hk:k<toks.length):phi toks st k≤st.length+200*(toks.length - k):=by
 unfold phi;split
 ·rename_i s r t ht;split
  ·have hr:rank s≤12:=by
    cases hr:y3u s with
    |true=>exact (x1y (hok s (Qaz ..)) hr).2
    |false=>rw [z7q hr];omega
   omega
  ·omega
 ·omega
theorem y9t (toks:List TokD) (depth:Int) (hE:TokE toks): ∀(f:Nat) (st:List Txt) (k:Nat) (op:Int),k<toks.length→(∀s∈st,z7p s=true)→phi toks st k<f→f≤900000000→ ∃r,runF rulesG nfG bfG toks depth f st k op=some r
 |0,st,k,op,hk,hok,hp,hf=>by omega
 |f+1,[],k,op,hk,hok,hp,hf=>⟨_,rfl⟩
 |f+1,s::r,k,op,hk,hok,hp,hf=>by
  obtain ⟨t,ht⟩: ∃t,toks[k]?=some t:=⟨_,Qad hk⟩;have hs:=hok s (Qaz ..);have hrest: ∀x∈r,z7p x=true:=fun x hx=>hok x (Qa2 _ hx)
  have hp0:phi toks (s::r) k=if sure t s=true then (s::r).length+200*(toks.length - k - 1)+12*rank s else (s::r).length+200*(toks.length - k):=by unfold phi;simp only [ht]
  rw [hp0] at hp;rw [runF,ht];simp only;rw [if_neg (q6k hs)]
  cases hr:y3u s with
  |true=>
   rw [if_pos rfl];obtain ⟨⟨T,z,hT,hall⟩,hrk⟩:=x1y hs hr
   have hfs:z0g s=T.flatMap (·.1):=by unfold z0g;rw [hr,if_pos rfl,hT]
   rw [z4v hT]
   cases hpk:pick t T with
   |none=>
    have hns:sure t s=false:=by unfold sure;rw [hfs,z7s hpk];rfl
    rw [hns,if_neg (by decide)] at hp
    cases z with
    |false=>exact ⟨_,rfl⟩
    |true=>
     simp only [List.nil_append,List.length_nil];have h1:=x1z hrest hk;simp only [List.length_cons] at hp;rw [if_neg (by omega)];exact y9t toks depth hE f r k op hk hrest (by omega) (by omega)
   |some c=>
    obtain ⟨F,hm,hF⟩:=z7r hpk;have hro:=hall _ hm;unfold q4g at hro
    cases c with
    |nil=>
     simp only [List.isEmpty_iff] at hro;subst hro;cases hF
    |cons x c=>
     simp only [Qao,decide_eq_true_eq,Qbi] at hro;obtain ⟨⟨⟨⟨h1,h2⟩,h3⟩,h4⟩,h5⟩:=hro;have hk0:=y5c hF h5
     have hsu:sure t s=true:=by
      unfold sure;rw [hfs,q1i hF (fun y hy=>List.mem_flatMap.2 ⟨_,hm,hy⟩)];simpa using hk0
     have hsx:sure t x=true:=by
      unfold sure;rw [←h3,hF];simpa using hk0
     rw [hsu,if_pos rfl] at hp;simp only [List.length_cons] at hp;simp only [List.length_cons]
     have hpx:phi toks (x::c++r) k=(x::c++r).length+200*(toks.length - k - 1)+12*rank x:=by
      unfold phi;simp only [ht,List.cons_append];rw [hsx,if_pos rfl]
     have hl:(x::c++r).length=c.length+1+r.length:=by simp;omega
     rw [if_neg (by omega)];refine y9t toks depth hE f (x::c++r) k op hk ?_ (by omega) (by omega);intro y hy;rcases Qbf.1 hy with hy|hy
     ·exact h2 y hy
     ·exact hrest y hy
  |false=>
   rw [if_neg (by decide)]
   cases hft:y1h s t with
   |false=>exact ⟨_,rfl⟩
   |true=>
    rw [if_neg (by decide)];by_cases hb:y1w s=1∧depth≤op
    ·rw [if_pos hb];exact ⟨_,rfl⟩
    rw [if_neg hb]
    have hfs:z0g s=[s]:=by unfold z0g;rw [hr,if_neg (by decide)]
    have hk1:=(z21 hft).1;by_cases h0:t.kind=0
    ·have hl:=(hE.ends k t ht).1 (.inl h0)
     have hns:sure t s=false:=by unfold sure;rw [h0];simp
     rw [hns,if_neg (by decide)] at hp;simp only [List.length_cons] at hp;rw [if_neg (by omega)];have h1:=x1z hrest hk;exact y9t toks depth hE f r k _ hk hrest (by omega) (by omega)
    ·have hl: ¬k+1=toks.length:=fun e=>by have:=(hE.ends k t ht).2 e;omega
     have hsu:sure t s=true:=by
      unfold sure;rw [hfs];simp only [fits,List.any_cons,List.any_nil,hft,Bool.or_false,Bool.true_and];simpa using h0
     rw [hsu,if_pos rfl,z7q hr] at hp;simp only [List.length_cons] at hp
     have hk2:k+1<toks.length:=by omega
     rw [if_pos hk2];have h1:=x1z hrest hk2;exact y9t toks depth hE f r (k+1) _ hk2 hrest (by omega) (by omega)
def Runs (toks:List TokD) (n:Nat) (st:List Txt) (k:Nat) (op:Int):Prop:=runF rulesG nfG bfG toks 200 n st k op=some (0,0,0)
def Alt:List (List Txt×List Txt)→Bool→TokD→(List Txt→Prop)→Prop
 |[],true,_,P=>P []
 |[],false,_,_=>False
 |(F,c)::r,z,t,P=>(fits F t=true∧P c)∨(fits F t=false∧Alt r z t P)
theorem x15 {t:TokD} {P:List Txt→Prop} {z:Bool}: ∀{T:List (List Txt×List Txt)},(∀c,pick t T=some c→P c)→(pick t T=none→z=true∧P [])→Alt T z t P
 |[],h1,h2=>by
  obtain ⟨rfl,h⟩:=h2 rfl;exact h
 |(F,c)::r,h1,h2=>by
  cases hf:fits F t with
  |true=>exact .inl ⟨hf,h1 c (by rw [pick,if_pos hf])⟩
  |false=>
   have he:pick t ((F,c)::r)=pick t r:=by rw [pick,if_neg (by rw [hf];decide)]
   rw [he] at h1 h2;exact .inr ⟨hf,x15 h1 h2⟩
theorem Runs.rule {toks:List TokD} {n k:Nat} {s:Txt} {rest:List Txt} {op:Int} {T:List (List Txt×List Txt)} {z:Bool} (h:Runs toks n (s::rest) k op) (hT:tabG s=some (T,z)) (hs:(decide (s≠[])&&decide (s.length≤1000)&&y3u s)=true):
  ∃m t,n=m+1∧toks[k]?=some t∧Alt T z t (fun c=>Runs toks m (c++rest) k op):=by
 simp only [Qao,decide_eq_true_eq] at hs;unfold Runs at h
 cases n with
 |zero=>cases h
 |succ m=>
  rw [runF] at h
  cases ht:toks[k]? with
  |none=>rw [ht] at h;cases h
  |some t=>
   rw [ht] at h;simp only at h;rw [if_neg (by rintro (h0|h0);exact hs.1.1 h0;have:=hs.1.2;omega),hs.2,if_pos rfl,z4v hT] at h;refine ⟨m,t,rfl,rfl,x15 ?_ ?_⟩
   ·intro c hc;rw [hc] at h;simp only at h;split at h
    ·cases h
    ·exact h
   ·intro hc;rw [hc] at h
    cases z with
    |false=>simp at h
    |true=>
     simp only at h;split at h
     ·cases h
     ·exact ⟨rfl,h⟩
abbrev nDOC:Txt:=[68,79,67]
abbrev z7t:Txt:=[68,69,70,83]
abbrev nDEF:Txt:=[68,69,70]
abbrev z97:Txt:=[66,79,68,89]
abbrev z7u:Txt:=[88,66,79,68,89]
abbrev z1q:Txt:=[88,83,67,72,69,77,65]
abbrev y8z:Txt:=[82,79,79,84,83,48]
abbrev y5u:Txt:=[82,79,79,84,83]
abbrev z23:Txt:=[82,79,79,84,76]
abbrev z7v:Txt:=[82,79,79,84]
abbrev y4e:Txt:=[88,79,66,74,69,67,84]
abbrev y5k:Txt:=[73,70,65,67,69,83]
abbrev y59:Txt:=[73,70,65,67,69,83,49]
abbrev nAMP:Txt:=[65,77,80]
abbrev y80:Txt:=[73,70,65,67,69,76]
abbrev y3d:Txt:=[70,73,69,76,68,83]
abbrev y6a:Txt:=[70,73,69,76,68,83,49]
abbrev y81:Txt:=[70,73,69,76,68,76]
abbrev z1c:Txt:=[70,73,69,76,68]
abbrev y82:Txt:=[70,73,69,76,68,48]
abbrev y61:Txt:=[73,78,80,85,84,83]
abbrev y5l:Txt:=[86,65,76,85,69,76]
abbrev y8j:Txt:=[86,65,76,85,69]
abbrev y83:Txt:=[86,65,76,85,69,48]
abbrev z1r:Txt:=[68,69,70,65,85,76,84]
abbrev y4f:Txt:=[77,69,77,66,69,82,83]
abbrev y4x:Txt:=[77,69,77,66,69,82,83,49]
abbrev y6b:Txt:=[77,69,77,66,69,82,76]
abbrev nBAR:Txt:=[66,65,82]
abbrev z0h:Txt:=[88,85,78,73,79,78]
abbrev y9u:Txt:=[67,65,83,69,83]
abbrev y84:Txt:=[67,65,83,69,83,49]
abbrev z26:Txt:=[67,65,83,69,76]
abbrev z7w:Txt:=[67,65,83,69]
abbrev z27:Txt:=[67,65,83,69,48]
abbrev z4w:Txt:=[88,69,78,85,77]
abbrev y6c:Txt:=[66,76,65,78,75,83]
abbrev y6d:Txt:=[66,76,65,78,75,83,49]
abbrev z0i:Txt:=[88,73,78,80,85,84]
abbrev z28:Txt:=[82,69,80,69,65,84]
abbrev y5m:Txt:=[80,76,65,67,69,83]
abbrev y09:Txt:=[68,73,82,83]
abbrev nDIR:Txt:=[68,73,82]
abbrev x7m:Txt:=[65,82,71,83]
abbrev z7x:Txt:=[65,82,71,76]
abbrev nARG:Txt:=[65,82,71]
abbrev nLIT:Txt:=[76,73,84]
abbrev z98:Txt:=[76,73,84,76]
abbrev z99:Txt:=[79,66,74,76]
abbrev z6f:Txt:=[84,89,80,69]
abbrev z7y:Txt:=[84,89,80,69,48]
abbrev x38:Txt:=[66,65,78,71]
theorem q4h:tabG nDOC=some ([([[46,115,116,114],[39,115,99,104,101,109,97],[39,115,99,97,108,97,114],[39,116,121,112,101],[39,105,110,116,101,114,102,97,99,101],[39,117,110,105,111,110],[39,101,110,117,109],[39,105,110,112,117,116],[39,100,105,114,101,99,116,105,118,101],[39,101,120,116,101,110,100]],[nDEF,z7t,[46,101,110,100]])],false):=by kernel_rfl
theorem q6l {toks:List TokD} {n k:Nat} {rest:List Txt} {op:Int} (h:Runs toks n (nDOC::rest) k op): ∃m t,n=m+1∧toks[k]?=some t∧((fits [[46,115,116,114],[39,115,99,104,101,109,97],[39,115,99,97,108,97,114],[39,116,121,112,101],[39,105,110,116,101,114,102,97,99,101],[39,117,110,105,111,110],[39,101,110,117,109],[39,105,110,112,117,116],[39,100,105,114,101,99,116,105,118,101],[39,101,120,116,101,110,100]] t=true∧Runs toks m (nDEF::z7t::[46,101,110,100]::rest) k op)∨(fits [[46,115,116,114],[39,115,99,104,101,109,97],[39,115,99,97,108,97,114],[39,116,121,112,101],[39,105,110,116,101,114,102,97,99,101],[39,117,110,105,111,110],[39,101,110,117,109],[39,105,110,112,117,116],[39,100,105,114,101,99,116,105,118,101],[39,101,120,116,101,110,100]] t=false∧(False))):=h.rule q4h (by decide+kernel)
theorem q1j:tabG z7t=some ([([[46,115,116,114],[39,115,99,104,101,109,97],[39,115,99,97,108,97,114],[39,116,121,112,101],[39,105,110,116,101,114,102,97,99,101],[39,117,110,105,111,110],[39,101,110,117,109],[39,105,110,112,117,116],[39,100,105,114,101,99,116,105,118,101],[39,101,120,116,101,110,100]],[nDEF,z7t]),([],[])],true):=by kernel_rfl
theorem q4i {toks:List TokD} {n k:Nat} {rest:List Txt} {op:Int} (h:Runs toks n (z7t::rest) k op): ∃m t,n=m+1∧toks[k]?=some t∧((fits [[46,115,116,114],[39,115,99,104,101,109,97],[39,115,99,97,108,97,114],[39,116,121,112,101],[39,105,110,116,101,114,102,97,99,101],[39,117,110,105,111,110],[39,101,110,117,109],[39,105,110,112,117,116],[39,100,105,114,101,99,116,105,118,101],[39,101,120,116,101,110,100]] t=true∧Runs toks m (nDEF::z7t::rest) k op)∨(fits [[46,115,116,114],[39,115,99,104,101,109,97],[39,115,99,97,108,97,114],[39,116,121,112,101],[39,105,110,116,101,114,102,97,99,101],[39,117,110,105,111,110],[39,101,110,117,109],[39,105,110,112,117,116],[39,100,105,114,101,99,116,105,118,101],[39,101,120,116,101,110,100]] t=false∧((fits [] t=true∧Runs toks m (rest) k op)∨(fits [] t=false∧(Runs toks m rest k op))))):=h.rule q1j (by decide+kernel)
theorem q4j:tabG nDEF=some ([([[46,115,116,114]],[[46,115,116,114],z97]),([[39,115,99,104,101,109,97],[39,115,99,97,108,97,114],[39,116,121,112,101],[39,105,110,116,101,114,102,97,99,101],[39,117,110,105,111,110],[39,101,110,117,109],[39,105,110,112,117,116],[39,100,105,114,101,99,116,105,118,101]],[z97]),([[39,101,120,116,101,110,100]],[[39,101,120,116,101,110,100],z7u])],false):=by kernel_rfl
theorem q6m {toks:List TokD} {n k:Nat} {rest:List Txt} {op:Int} (h:Runs toks n (nDEF::rest) k op): ∃m t,n=m+1∧toks[k]?=some t∧((fits [[46,115,116,114]] t=true∧Runs toks m ([46,115,116,114]::z97::rest) k op)∨(fits [[46,115,116,114]] t=false∧((fits [[39,115,99,104,101,109,97],[39,115,99,97,108,97,114],[39,116,121,112,101],[39,105,110,116,101,114,102,97,99,101],[39,117,110,105,111,110],[39,101,110,117,109],[39,105,110,112,117,116],[39,100,105,114,101,99,116,105,118,101]] t=true∧Runs toks m (z97::rest) k op)∨(fits [[39,115,99,104,101,109,97],[39,115,99,97,108,97,114],[39,116,121,112,101],[39,105,110,116,101,114,102,97,99,101],[39,117,110,105,111,110],[39,101,110,117,109],[39,105,110,112,117,116],[39,100,105,114,101,99,116,105,118,101]] t=false∧((fits [[39,101,120,116,101,110,100]] t=true∧Runs toks m ([39,101,120,116,101,110,100]::z7u::rest) k op)∨(fits [[39,101,120,116,101,110,100]] t=false∧(False))))))):=h.rule q4j (by decide+kernel)
theorem q1k:tabG z97=some ([([[39,115,99,104,101,109,97]],[[39,115,99,104,101,109,97],y09,y5u]),([[39,115,99,97,108,97,114]],[[39,115,99,97,108,97,114],[46,110,97,109,101],y09]),([[39,116,121,112,101]],[[39,116,121,112,101],[46,110,97,109,101],y5k,y09,y3d]),([[39,105,110,116,101,114,102,97,99,101]],[[39,105,110,116,101,114,102,97,99,101],[46,110,97,109,101],y5k,y09,y3d]),([[39,117,110,105,111,110]],[[39,117,110,105,111,110],[46,110,97,109,101],y09,y4f]),([[39,101,110,117,109]],[[39,101,110,117,109],[46,110,97,109,101],y09,y9u]),([[39,105,110,112,117,116]],[[39,105,110,112,117,116],[46,110,97,109,101],y09,y6c]),([[39,100,105,114,101,99,116,105,118,101]],[[39,100,105,114,101,99,116,105,118,101],[64],[46,110,97,109,101],y61,z28,[39,111,110],nBAR,[46,112,108,97,99,101],y5m])],false):=by kernel_rfl
theorem q4k {toks:List TokD} {n k:Nat} {rest:List Txt} {op:Int} (h:Runs toks n (z97::rest) k op): ∃m t,n=m+1∧toks[k]?=some t∧((fits [[39,115,99,104,101,109,97]] t=true∧Runs toks m ([39,115,99,104,101,109,97]::y09::y5u::rest) k op)∨(fits [[39,115,99,104,101,109,97]] t=false∧((fits [[39,115,99,97,108,97,114]] t=true∧Runs toks m ([39,115,99,97,108,97,114]::[46,110,97,109,101]::y09::rest) k op)∨(fits [[39,115,99,97,108,97,114]] t=false∧((fits [[39,116,121,112,101]] t=true∧Runs toks m ([39,116,121,112,101]::[46,110,97,109,101]::y5k::y09::y3d::rest) k op)∨(fits [[39,116,121,112,101]] t=false∧((fits [[39,105,110,116,101,114,102,97,99,101]] t=true∧Runs toks m ([39,105,110,116,101,114,102,97,99,101]::[46,110,97,109,101]::y5k::y09::y3d::rest) k op)∨(fits [[39,105,110,116,101,114,102,97,99,101]] t=false∧((fits [[39,117,110,105,111,110]] t=true∧Runs toks m ([39,117,110,105,111,110]::[46,110,97,109,101]::y09::y4f::rest) k op)∨(fits [[39,117,110,105,111,110]] t=false∧((fits [[39,101,110,117,109]] t=true∧Runs toks m ([39,101,110,117,109]::[46,110,97,109,101]::y09::y9u::rest) k op)∨(fits [[39,101,110,117,109]] t=false∧((fits [[39,105,110,112,117,116]] t=true∧Runs toks m ([39,105,110,112,117,116]::[46,110,97,109,101]::y09::y6c::rest) k op)∨(fits [[39,105,110,112,117,116]] t=false∧((fits [[39,100,105,114,101,99,116,105,118,101]] t=true∧Runs toks m ([39,100,105,114,101,99,116,105,118,101]::[64]::[46,110,97,109,101]::y61::z28::[39,111,110]::nBAR::[46,112,108,97,99,101]::y5m::rest) k op)∨(fits [[39,100,105,114,101,99,116,105,118,101]] t=false∧(False))))))))))))))))):=h.rule q1k (by decide+kernel)
theorem x7n:tabG z7u=some ([([[39,115,99,104,101,109,97]],[[39,115,99,104,101,109,97],z1q]),([[39,115,99,97,108,97,114]],[[39,115,99,97,108,97,114],[46,110,97,109,101],nDIR,y09]),([[39,116,121,112,101]],[[39,116,121,112,101],[46,110,97,109,101],y4e]),([[39,105,110,116,101,114,102,97,99,101]],[[39,105,110,116,101,114,102,97,99,101],[46,110,97,109,101],y4e]),([[39,117,110,105,111,110]],[[39,117,110,105,111,110],[46,110,97,109,101],z0h]),([[39,101,110,117,109]],[[39,101,110,117,109],[46,110,97,109,101],z4w]),([[39,105,110,112,117,116]],[[39,105,110,112,117,116],[46,110,97,109,101],z0i])],false):=by kernel_rfl
theorem q1l {toks:List TokD} {n k:Nat} {rest:List Txt} {op:Int} (h:Runs toks n (z7u::rest) k op): ∃m t,n=m+1∧toks[k]?=some t∧((fits [[39,115,99,104,101,109,97]] t=true∧Runs toks m ([39,115,99,104,101,109,97]::z1q::rest) k op)∨(fits [[39,115,99,104,101,109,97]] t=false∧((fits [[39,115,99,97,108,97,114]] t=true∧Runs toks m ([39,115,99,97,108,97,114]::[46,110,97,109,101]::nDIR::y09::rest) k op)∨(fits [[39,115,99,97,108,97,114]] t=false∧((fits [[39,116,121,112,101]] t=true∧Runs toks m ([39,116,121,112,101]::[46,110,97,109,101]::y4e::rest) k op)∨(fits [[39,116,121,112,101]] t=false∧((fits [[39,105,110,116,101,114,102,97,99,101]] t=true∧Runs toks m ([39,105,110,116,101,114,102,97,99,101]::[46,110,97,109,101]::y4e::rest) k op)∨(fits [[39,105,110,116,101,114,102,97,99,101]] t=false∧((fits [[39,117,110,105,111,110]] t=true∧Runs toks m ([39,117,110,105,111,110]::[46,110,97,109,101]::z0h::rest) k op)∨(fits [[39,117,110,105,111,110]] t=false∧((fits [[39,101,110,117,109]] t=true∧Runs toks m ([39,101,110,117,109]::[46,110,97,109,101]::z4w::rest) k op)∨(fits [[39,101,110,117,109]] t=false∧((fits [[39,105,110,112,117,116]] t=true∧Runs toks m ([39,105,110,112,117,116]::[46,110,97,109,101]::z0i::rest) k op)∨(fits [[39,105,110,112,117,116]] t=false∧(False))))))))))))))):=h.rule x7n (by decide+kernel)
theorem x0a:tabG z1q=some ([([[64]],[nDIR,y09,y8z]),([[123]],[y5u])],false):=by kernel_rfl
theorem x39 {toks:List TokD} {n k:Nat} {rest:List Txt} {op:Int} (h:Runs toks n (z1q::rest) k op): ∃m t,n=m+1∧toks[k]?=some t∧((fits [[64]] t=true∧Runs toks m (nDIR::y09::y8z::rest) k op)∨(fits [[64]] t=false∧((fits [[123]] t=true∧Runs toks m (y5u::rest) k op)∨(fits [[123]] t=false∧(False))))):=h.rule x0a (by decide+kernel)
theorem x4a:tabG y8z=some ([([[123]],[y5u]),([],[])],true):=by kernel_rfl
theorem x7o {toks:List TokD} {n k:Nat} {rest:List Txt} {op:Int} (h:Runs toks n (y8z::rest) k op): ∃m t,n=m+1∧toks[k]?=some t∧((fits [[123]] t=true∧Runs toks m (y5u::rest) k op)∨(fits [[123]] t=false∧((fits [] t=true∧Runs toks m (rest) k op)∨(fits [] t=false∧(Runs toks m rest k op))))):=h.rule x4a (by decide+kernel)
theorem x7p:tabG y5u=some ([([[123]],[[123],z7v,z23,[125]])],false):=by kernel_rfl
theorem x16 {toks:List TokD} {n k:Nat} {rest:List Txt} {op:Int} (h:Runs toks n (y5u::rest) k op): ∃m t,n=m+1∧toks[k]?=some t∧((fits [[123]] t=true∧Runs toks m ([123]::z7v::z23::[125]::rest) k op)∨(fits [[123]] t=false∧(False))):=h.rule x7p (by decide+kernel)
theorem x7q:tabG z23=some ([([[46,114,111,111,116]],[z7v,z23]),([],[])],true):=by kernel_rfl
theorem q1m {toks:List TokD} {n k:Nat} {rest:List Txt} {op:Int} (h:Runs toks n (z23::rest) k op): ∃m t,n=m+1∧toks[k]?=some t∧((fits [[46,114,111,111,116]] t=true∧Runs toks m (z7v::z23::rest) k op)∨(fits [[46,114,111,111,116]] t=false∧((fits [] t=true∧Runs toks m (rest) k op)∨(fits [] t=false∧(Runs toks m rest k op))))):=h.rule x7q (by decide+kernel)
theorem q1n:tabG z7v=some ([([[46,114,111,111,116]],[[46,114,111,111,116],[58],[46,110,97,109,101]])],false):=by kernel_rfl
theorem x7r {toks:List TokD} {n k:Nat} {rest:List Txt} {op:Int} (h:Runs toks n (z7v::rest) k op): ∃m t,n=m+1∧toks[k]?=some t∧((fits [[46,114,111,111,116]] t=true∧Runs toks m ([46,114,111,111,116]::[58]::[46,110,97,109,101]::rest) k op)∨(fits [[46,114,111,111,116]] t=false∧(False))):=h.rule q1n (by decide+kernel)
theorem x0b:tabG y4e=some ([([[39,105,109,112,108,101,109,101,110,116,115]],[y59,y09,y3d]),([[64]],[nDIR,y09,y3d]),([[123]],[y6a])],false):=by kernel_rfl
theorem x4b {toks:List TokD} {n k:Nat} {rest:List Txt} {op:Int} (h:Runs toks n (y4e::rest) k op): ∃m t,n=m+1∧toks[k]?=some t∧((fits [[39,105,109,112,108,101,109,101,110,116,115]] t=true∧Runs toks m (y59::y09::y3d::rest) k op)∨(fits [[39,105,109,112,108,101,109,101,110,116,115]] t=false∧((fits [[64]] t=true∧Runs toks m (nDIR::y09::y3d::rest) k op)∨(fits [[64]] t=false∧((fits [[123]] t=true∧Runs toks m (y6a::rest) k op)∨(fits [[123]] t=false∧(False))))))):=h.rule x0b (by decide+kernel)
theorem x4c:tabG y5k=some ([([[39,105,109,112,108,101,109,101,110,116,115]],[y59]),([],[])],true):=by kernel_rfl
theorem x7s {toks:List TokD} {n k:Nat} {rest:List Txt} {op:Int} (h:Runs toks n (y5k::rest) k op): ∃m t,n=m+1∧toks[k]?=some t∧((fits [[39,105,109,112,108,101,109,101,110,116,115]] t=true∧Runs toks m (y59::rest) k op)∨(fits [[39,105,109,112,108,101,109,101,110,116,115]] t=false∧((fits [] t=true∧Runs toks m (rest) k op)∨(fits [] t=false∧(Runs toks m rest k op))))):=h.rule x4c (by decide+kernel)
theorem x0c:tabG y59=some ([([[39,105,109,112,108,101,109,101,110,116,115]],[[39,105,109,112,108,101,109,101,110,116,115],nAMP,[46,110,97,109,101],y80])],false):=by kernel_rfl
theorem x4d {toks:List TokD} {n k:Nat} {rest:List Txt} {op:Int} (h:Runs toks n (y59::rest) k op): ∃m t,n=m+1∧toks[k]?=some t∧((fits [[39,105,109,112,108,101,109,101,110,116,115]] t=true∧Runs toks m ([39,105,109,112,108,101,109,101,110,116,115]::nAMP::[46,110,97,109,101]::y80::rest) k op)∨(fits [[39,105,109,112,108,101,109,101,110,116,115]] t=false∧(False))):=h.rule x0c (by decide+kernel)
theorem q4l:tabG nAMP=some ([([[38]],[[38]]),([],[])],true):=by kernel_rfl
theorem q6n {toks:List TokD} {n k:Nat} {rest:List Txt} {op:Int} (h:Runs toks n (nAMP::rest) k op): ∃m t,n=m+1∧toks[k]?=some t∧((fits [[38]] t=true∧Runs toks m ([38]::rest) k op)∨(fits [[38]] t=false∧((fits [] t=true∧Runs toks m (rest) k op)∨(fits [] t=false∧(Runs toks m rest k op))))):=h.rule q4l (by decide+kernel)
theorem x4e:tabG y80=some ([([[38]],[[38],[46,110,97,109,101],y80]),([],[])],true):=by kernel_rfl
theorem x7t {toks:List TokD} {n k:Nat} {rest:List Txt} {op:Int} (h:Runs toks n (y80::rest) k op): ∃m t,n=m+1∧toks[k]?=some t∧((fits [[38]] t=true∧Runs toks m ([38]::[46,110,97,109,101]::y80::rest) k op)∨(fits [[38]] t=false∧((fits [] t=true∧Runs toks m (rest) k op)∨(fits [] t=false∧(Runs toks m rest k op))))):=h.rule x4e (by decide+kernel)
theorem x4f:tabG y3d=some ([([[123]],[y6a]),([],[])],true):=by kernel_rfl
theorem x7u {toks:List TokD} {n k:Nat} {rest:List Txt} {op:Int} (h:Runs toks n (y3d::rest) k op): ∃m t,n=m+1∧toks[k]?=some t∧((fits [[123]] t=true∧Runs toks m (y6a::rest) k op)∨(fits [[123]] t=false∧((fits [] t=true∧Runs toks m (rest) k op)∨(fits [] t=false∧(Runs toks m rest k op))))):=h.rule x4f (by decide+kernel)
theorem x0d:tabG y6a=some ([([[123]],[[123],z1c,y81,[125]])],false):=by kernel_rfl
theorem x4g {toks:List TokD} {n k:Nat} {rest:List Txt} {op:Int} (h:Runs toks n (y6a::rest) k op): ∃m t,n=m+1∧toks[k]?=some t∧((fits [[123]] t=true∧Runs toks m ([123]::z1c::y81::[125]::rest) k op)∨(fits [[123]] t=false∧(False))):=h.rule x0d (by decide+kernel)
theorem x4h:tabG y81=some ([([[46,115,116,114],[46,110,97,109,101]],[z1c,y81]),([],[])],true):=by kernel_rfl
theorem x7v {toks:List TokD} {n k:Nat} {rest:List Txt} {op:Int} (h:Runs toks n (y81::rest) k op): ∃m t,n=m+1∧toks[k]?=some t∧((fits [[46,115,116,114],[46,110,97,109,101]] t=true∧Runs toks m (z1c::y81::rest) k op)∨(fits [[46,115,116,114],[46,110,97,109,101]] t=false∧((fits [] t=true∧Runs toks m (rest) k op)∨(fits [] t=false∧(Runs toks m rest k op))))):=h.rule x4h (by decide+kernel)
theorem x7w:tabG z1c=some ([([[46,115,116,114]],[[46,115,116,114],y82]),([[46,110,97,109,101]],[y82])],false):=by kernel_rfl
theorem x17 {toks:List TokD} {n k:Nat} {rest:List Txt} {op:Int} (h:Runs toks n (z1c::rest) k op): ∃m t,n=m+1∧toks[k]?=some t∧((fits [[46,115,116,114]] t=true∧Runs toks m ([46,115,116,114]::y82::rest) k op)∨(fits [[46,115,116,114]] t=false∧((fits [[46,110,97,109,101]] t=true∧Runs toks m (y82::rest) k op)∨(fits [[46,110,97,109,101]] t=false∧(False))))):=h.rule x7w (by decide+kernel)
theorem x4i:tabG y82=some ([([[46,110,97,109,101]],[[46,110,97,109,101],y61,[58],z6f,y09])],false):=by kernel_rfl
theorem x7x {toks:List TokD} {n k:Nat} {rest:List Txt} {op:Int} (h:Runs toks n (y82::rest) k op): ∃m t,n=m+1∧toks[k]?=some t∧((fits [[46,110,97,109,101]] t=true∧Runs toks m ([46,110,97,109,101]::y61::[58]::z6f::y09::rest) k op)∨(fits [[46,110,97,109,101]] t=false∧(False))):=h.rule x4i (by decide+kernel)
theorem x4j:tabG y61=some ([([[40]],[[40],y8j,y5l,[41]]),([],[])],true):=by kernel_rfl
theorem x7y {toks:List TokD} {n k:Nat} {rest:List Txt} {op:Int} (h:Runs toks n (y61::rest) k op): ∃m t,n=m+1∧toks[k]?=some t∧((fits [[40]] t=true∧Runs toks m ([40]::y8j::y5l::[41]::rest) k op)∨(fits [[40]] t=false∧((fits [] t=true∧Runs toks m (rest) k op)∨(fits [] t=false∧(Runs toks m rest k op))))):=h.rule x4j (by decide+kernel)
theorem x4k:tabG y5l=some ([([[46,115,116,114],[46,110,97,109,101]],[y8j,y5l]),([],[])],true):=by kernel_rfl
theorem x7z {toks:List TokD} {n k:Nat} {rest:List Txt} {op:Int} (h:Runs toks n (y5l::rest) k op): ∃m t,n=m+1∧toks[k]?=some t∧((fits [[46,115,116,114],[46,110,97,109,101]] t=true∧Runs toks m (y8j::y5l::rest) k op)∨(fits [[46,115,116,114],[46,110,97,109,101]] t=false∧((fits [] t=true∧Runs toks m (rest) k op)∨(fits [] t=false∧(Runs toks m rest k op))))):=h.rule x4k (by decide+kernel)
theorem x70:tabG y8j=some ([([[46,115,116,114]],[[46,115,116,114],y83]),([[46,110,97,109,101]],[y83])],false):=by kernel_rfl
theorem x18 {toks:List TokD} {n k:Nat} {rest:List Txt} {op:Int} (h:Runs toks n (y8j::rest) k op): ∃m t,n=m+1∧toks[k]?=some t∧((fits [[46,115,116,114]] t=true∧Runs toks m ([46,115,116,114]::y83::rest) k op)∨(fits [[46,115,116,114]] t=false∧((fits [[46,110,97,109,101]] t=true∧Runs toks m (y83::rest) k op)∨(fits [[46,110,97,109,101]] t=false∧(False))))):=h.rule x70 (by decide+kernel)
theorem x4l:tabG y83=some ([([[46,110,97,109,101]],[[46,110,97,109,101],[58],z6f,z1r,y09])],false):=by kernel_rfl
theorem x71 {toks:List TokD} {n k:Nat} {rest:List Txt} {op:Int} (h:Runs toks n (y83::rest) k op): ∃m t,n=m+1∧toks[k]?=some t∧((fits [[46,110,97,109,101]] t=true∧Runs toks m ([46,110,97,109,101]::[58]::z6f::z1r::y09::rest) k op)∨(fits [[46,110,97,109,101]] t=false∧(False))):=h.rule x4l (by decide+kernel)
theorem x0e:tabG z1r=some ([([[61]],[[61],nLIT]),([],[])],true):=by kernel_rfl
theorem x4m {toks:List TokD} {n k:Nat} {rest:List Txt} {op:Int} (h:Runs toks n (z1r::rest) k op): ∃m t,n=m+1∧toks[k]?=some t∧((fits [[61]] t=true∧Runs toks m ([61]::nLIT::rest) k op)∨(fits [[61]] t=false∧((fits [] t=true∧Runs toks m (rest) k op)∨(fits [] t=false∧(Runs toks m rest k op))))):=h.rule x0e (by decide+kernel)
theorem x0f:tabG y4f=some ([([[61]],[y4x]),([],[])],true):=by kernel_rfl
theorem x4n {toks:List TokD} {n k:Nat} {rest:List Txt} {op:Int} (h:Runs toks n (y4f::rest) k op): ∃m t,n=m+1∧toks[k]?=some t∧((fits [[61]] t=true∧Runs toks m (y4x::rest) k op)∨(fits [[61]] t=false∧((fits [] t=true∧Runs toks m (rest) k op)∨(fits [] t=false∧(Runs toks m rest k op))))):=h.rule x0f (by decide+kernel)
theorem z7z:tabG y4x=some ([([[61]],[[61],nBAR,[46,110,97,109,101],y6b])],false):=by kernel_rfl
theorem x0g {toks:List TokD} {n k:Nat} {rest:List Txt} {op:Int} (h:Runs toks n (y4x::rest) k op): ∃m t,n=m+1∧toks[k]?=some t∧((fits [[61]] t=true∧Runs toks m ([61]::nBAR::[46,110,97,109,101]::y6b::rest) k op)∨(fits [[61]] t=false∧(False))):=h.rule z7z (by decide+kernel)
theorem x0h:tabG y6b=some ([([[124]],[[124],[46,110,97,109,101],y6b]),([],[])],true):=by kernel_rfl
theorem x4o {toks:List TokD} {n k:Nat} {rest:List Txt} {op:Int} (h:Runs toks n (y6b::rest) k op): ∃m t,n=m+1∧toks[k]?=some t∧((fits [[124]] t=true∧Runs toks m ([124]::[46,110,97,109,101]::y6b::rest) k op)∨(fits [[124]] t=false∧((fits [] t=true∧Runs toks m (rest) k op)∨(fits [] t=false∧(Runs toks m rest k op))))):=h.rule x0h (by decide+kernel)
theorem q4m:tabG nBAR=some ([([[124]],[[124]]),([],[])],true):=by kernel_rfl
theorem q3c {toks:List TokD} {n k:Nat} {rest:List Txt} {op:Int} (h:Runs toks n (nBAR::rest) k op): ∃m t,n=m+1∧toks[k]?=some t∧((fits [[124]] t=true∧Runs toks m ([124]::rest) k op)∨(fits [[124]] t=false∧((fits [] t=true∧Runs toks m (rest) k op)∨(fits [] t=false∧(Runs toks m rest k op))))):=h.rule q4m (by decide+kernel)
theorem x4p:tabG z0h=some ([([[64]],[nDIR,y09,y4f]),([[61]],[y4x])],false):=by kernel_rfl
theorem x72 {toks:List TokD} {n k:Nat} {rest:List Txt} {op:Int} (h:Runs toks n (z0h::rest) k op): ∃m t,n=m+1∧toks[k]?=some t∧((fits [[64]] t=true∧Runs toks m (nDIR::y09::y4f::rest) k op)∨(fits [[64]] t=false∧((fits [[61]] t=true∧Runs toks m (y4x::rest) k op)∨(fits [[61]] t=false∧(False))))):=h.rule x4p (by decide+kernel)
theorem x73:tabG y9u=some ([([[123]],[y84]),([],[])],true):=by kernel_rfl
theorem q1o {toks:List TokD} {n k:Nat} {rest:List Txt} {op:Int} (h:Runs toks n (y9u::rest) k op): ∃m t,n=m+1∧toks[k]?=some t∧((fits [[123]] t=true∧Runs toks m (y84::rest) k op)∨(fits [[123]] t=false∧((fits [] t=true∧Runs toks m (rest) k op)∨(fits [] t=false∧(Runs toks m rest k op))))):=h.rule x73 (by decide+kernel)
theorem x4q:tabG y84=some ([([[123]],[[123],z7w,z26,[125]])],false):=by kernel_rfl
theorem x74 {toks:List TokD} {n k:Nat} {rest:List Txt} {op:Int} (h:Runs toks n (y84::rest) k op): ∃m t,n=m+1∧toks[k]?=some t∧((fits [[123]] t=true∧Runs toks m ([123]::z7w::z26::[125]::rest) k op)∨(fits [[123]] t=false∧(False))):=h.rule x4q (by decide+kernel)
theorem x75:tabG z26=some ([([[46,115,116,114],[46,99,97,115,101]],[z7w,z26]),([],[])],true):=by kernel_rfl
theorem q1p {toks:List TokD} {n k:Nat} {rest:List Txt} {op:Int} (h:Runs toks n (z26::rest) k op): ∃m t,n=m+1∧toks[k]?=some t∧((fits [[46,115,116,114],[46,99,97,115,101]] t=true∧Runs toks m (z7w::z26::rest) k op)∨(fits [[46,115,116,114],[46,99,97,115,101]] t=false∧((fits [] t=true∧Runs toks m (rest) k op)∨(fits [] t=false∧(Runs toks m rest k op))))):=h.rule x75 (by decide+kernel)
theorem q1q:tabG z7w=some ([([[46,115,116,114]],[[46,115,116,114],z27]),([[46,99,97,115,101]],[z27])],false):=by kernel_rfl
theorem x76 {toks:List TokD} {n k:Nat} {rest:List Txt} {op:Int} (h:Runs toks n (z7w::rest) k op): ∃m t,n=m+1∧toks[k]?=some t∧((fits [[46,115,116,114]] t=true∧Runs toks m ([46,115,116,114]::z27::rest) k op)∨(fits [[46,115,116,114]] t=false∧((fits [[46,99,97,115,101]] t=true∧Runs toks m (z27::rest) k op)∨(fits [[46,99,97,115,101]] t=false∧(False))))):=h.rule q1q (by decide+kernel)
theorem x77:tabG z27=some ([([[46,99,97,115,101]],[[46,99,97,115,101],y09])],false):=by kernel_rfl
theorem q1r {toks:List TokD} {n k:Nat} {rest:List Txt} {op:Int} (h:Runs toks n (z27::rest) k op): ∃m t,n=m+1∧toks[k]?=some t∧((fits [[46,99,97,115,101]] t=true∧Runs toks m ([46,99,97,115,101]::y09::rest) k op)∨(fits [[46,99,97,115,101]] t=false∧(False))):=h.rule x77 (by decide+kernel)
theorem x78:tabG z4w=some ([([[64]],[nDIR,y09,y9u]),([[123]],[y84])],false):=by kernel_rfl
theorem q1s {toks:List TokD} {n k:Nat} {rest:List Txt} {op:Int} (h:Runs toks n (z4w::rest) k op): ∃m t,n=m+1∧toks[k]?=some t∧((fits [[64]] t=true∧Runs toks m (nDIR::y09::y9u::rest) k op)∨(fits [[64]] t=false∧((fits [[123]] t=true∧Runs toks m (y84::rest) k op)∨(fits [[123]] t=false∧(False))))):=h.rule x78 (by decide+kernel)
theorem x4r:tabG y6c=some ([([[123]],[y6d]),([],[])],true):=by kernel_rfl
theorem x79 {toks:List TokD} {n k:Nat} {rest:List Txt} {op:Int} (h:Runs toks n (y6c::rest) k op): ∃m t,n=m+1∧toks[k]?=some t∧((fits [[123]] t=true∧Runs toks m (y6d::rest) k op)∨(fits [[123]] t=false∧((fits [] t=true∧Runs toks m (rest) k op)∨(fits [] t=false∧(Runs toks m rest k op))))):=h.rule x4r (by decide+kernel)
theorem x0i:tabG y6d=some ([([[123]],[[123],y8j,y5l,[125]])],false):=by kernel_rfl
theorem x4s {toks:List TokD} {n k:Nat} {rest:List Txt} {op:Int} (h:Runs toks n (y6d::rest) k op): ∃m t,n=m+1∧toks[k]?=some t∧((fits [[123]] t=true∧Runs toks m ([123]::y8j::y5l::[125]::rest) k op)∨(fits [[123]] t=false∧(False))):=h.rule x0i (by decide+kernel)
theorem x4t:tabG z0i=some ([([[64]],[nDIR,y09,y6c]),([[123]],[y6d])],false):=by kernel_rfl
theorem x8a {toks:List TokD} {n k:Nat} {rest:List Txt} {op:Int} (h:Runs toks n (z0i::rest) k op): ∃m t,n=m+1∧toks[k]?=some t∧((fits [[64]] t=true∧Runs toks m (nDIR::y09::y6c::rest) k op)∨(fits [[64]] t=false∧((fits [[123]] t=true∧Runs toks m (y6d::rest) k op)∨(fits [[123]] t=false∧(False))))):=h.rule x4t (by decide+kernel)
theorem x4u:tabG z28=some ([([[39,114,101,112,101,97,116,97,98,108,101]],[[39,114,101,112,101,97,116,97,98,108,101]]),([],[])],true):=by kernel_rfl
theorem x8b {toks:List TokD} {n k:Nat} {rest:List Txt} {op:Int} (h:Runs toks n (z28::rest) k op): ∃m t,n=m+1∧toks[k]?=some t∧((fits [[39,114,101,112,101,97,116,97,98,108,101]] t=true∧Runs toks m ([39,114,101,112,101,97,116,97,98,108,101]::rest) k op)∨(fits [[39,114,101,112,101,97,116,97,98,108,101]] t=false∧((fits [] t=true∧Runs toks m (rest) k op)∨(fits [] t=false∧(Runs toks m rest k op))))):=h.rule x4u (by decide+kernel)
theorem x4v:tabG y5m=some ([([[124]],[[124],[46,112,108,97,99,101],y5m]),([],[])],true):=by kernel_rfl
theorem x8c {toks:List TokD} {n k:Nat} {rest:List Txt} {op:Int} (h:Runs toks n (y5m::rest) k op): ∃m t,n=m+1∧toks[k]?=some t∧((fits [[124]] t=true∧Runs toks m ([124]::[46,112,108,97,99,101]::y5m::rest) k op)∨(fits [[124]] t=false∧((fits [] t=true∧Runs toks m (rest) k op)∨(fits [] t=false∧(Runs toks m rest k op))))):=h.rule x4v (by decide+kernel)
theorem q1t:tabG y09=some ([([[64]],[nDIR,y09]),([],[])],true):=by kernel_rfl
theorem q4n {toks:List TokD} {n k:Nat} {rest:List Txt} {op:Int} (h:Runs toks n (y09::rest) k op): ∃m t,n=m+1∧toks[k]?=some t∧((fits [[64]] t=true∧Runs toks m (nDIR::y09::rest) k op)∨(fits [[64]] t=false∧((fits [] t=true∧Runs toks m (rest) k op)∨(fits [] t=false∧(Runs toks m rest k op))))):=h.rule q1t (by decide+kernel)
theorem q4o:tabG nDIR=some ([([[64]],[[64],[46,110,97,109,101],x7m])],false):=by kernel_rfl
theorem q6o {toks:List TokD} {n k:Nat} {rest:List Txt} {op:Int} (h:Runs toks n (nDIR::rest) k op): ∃m t,n=m+1∧toks[k]?=some t∧((fits [[64]] t=true∧Runs toks m ([64]::[46,110,97,109,101]::x7m::rest) k op)∨(fits [[64]] t=false∧(False))):=h.rule q4o (by decide+kernel)
theorem q1u:tabG x7m=some ([([[40]],[[40],nARG,z7x,[41]]),([],[])],true):=by kernel_rfl
theorem q4p {toks:List TokD} {n k:Nat} {rest:List Txt} {op:Int} (h:Runs toks n (x7m::rest) k op): ∃m t,n=m+1∧toks[k]?=some t∧((fits [[40]] t=true∧Runs toks m ([40]::nARG::z7x::[41]::rest) k op)∨(fits [[40]] t=false∧((fits [] t=true∧Runs toks m (rest) k op)∨(fits [] t=false∧(Runs toks m rest k op))))):=h.rule q1u (by decide+kernel)
theorem q1v:tabG z7x=some ([([[46,110,97,109,101]],[nARG,z7x]),([],[])],true):=by kernel_rfl
theorem q4q {toks:List TokD} {n k:Nat} {rest:List Txt} {op:Int} (h:Runs toks n (z7x::rest) k op): ∃m t,n=m+1∧toks[k]?=some t∧((fits [[46,110,97,109,101]] t=true∧Runs toks m (nARG::z7x::rest) k op)∨(fits [[46,110,97,109,101]] t=false∧((fits [] t=true∧Runs toks m (rest) k op)∨(fits [] t=false∧(Runs toks m rest k op))))):=h.rule q1v (by decide+kernel)
theorem q4r:tabG nARG=some ([([[46,110,97,109,101]],[[46,110,97,109,101],[58],nLIT])],false):=by kernel_rfl
theorem q6p {toks:List TokD} {n k:Nat} {rest:List Txt} {op:Int} (h:Runs toks n (nARG::rest) k op): ∃m t,n=m+1∧toks[k]?=some t∧((fits [[46,110,97,109,101]] t=true∧Runs toks m ([46,110,97,109,101]::[58]::nLIT::rest) k op)∨(fits [[46,110,97,109,101]] t=false∧(False))):=h.rule q4r (by decide+kernel)
theorem q4s:tabG nLIT=some ([([[46,110,97,109,101]],[[46,110,97,109,101]]),([[46,115,116,114]],[[46,115,116,114]]),([[46,110,117,109]],[[46,110,117,109]]),([[91]],[[91],z98,[93]]),([[123]],[[123],z99,[125]])],false):=by kernel_rfl
theorem q6q {toks:List TokD} {n k:Nat} {rest:List Txt} {op:Int} (h:Runs toks n (nLIT::rest) k op): ∃m t,n=m+1∧toks[k]?=some t∧((fits [[46,110,97,109,101]] t=true∧Runs toks m ([46,110,97,109,101]::rest) k op)∨(fits [[46,110,97,109,101]] t=false∧((fits [[46,115,116,114]] t=true∧Runs toks m ([46,115,116,114]::rest) k op)∨(fits [[46,115,116,114]] t=false∧((fits [[46,110,117,109]] t=true∧Runs toks m ([46,110,117,109]::rest) k op)∨(fits [[46,110,117,109]] t=false∧((fits [[91]] t=true∧Runs toks m ([91]::z98::[93]::rest) k op)∨(fits [[91]] t=false∧((fits [[123]] t=true∧Runs toks m ([123]::z99::[125]::rest) k op)∨(fits [[123]] t=false∧(False))))))))))):=h.rule q4s (by decide+kernel)
theorem q1w:tabG z98=some ([([[46,110,97,109,101],[46,115,116,114],[46,110,117,109],[91],[123]],[nLIT,z98]),([],[])],true):=by kernel_rfl
theorem q4t {toks:List TokD} {n k:Nat} {rest:List Txt} {op:Int} (h:Runs toks n (z98::rest) k op): ∃m t,n=m+1∧toks[k]?=some t∧((fits [[46,110,97,109,101],[46,115,116,114],[46,110,117,109],[91],[123]] t=true∧Runs toks m (nLIT::z98::rest) k op)∨(fits [[46,110,97,109,101],[46,115,116,114],[46,110,117,109],[91],[123]] t=false∧((fits [] t=true∧Runs toks m (rest) k op)∨(fits [] t=false∧(Runs toks m rest k op))))):=h.rule q1w (by decide+kernel)
theorem q1x:tabG z99=some ([([[46,110,97,109,101]],[[46,110,97,109,101],[58],nLIT,z99]),([],[])],true):=by kernel_rfl
theorem q4u {toks:List TokD} {n k:Nat} {rest:List Txt} {op:Int} (h:Runs toks n (z99::rest) k op): ∃m t,n=m+1∧toks[k]?=some t∧((fits [[46,110,97,109,101]] t=true∧Runs toks m ([46,110,97,109,101]::[58]::nLIT::z99::rest) k op)∨(fits [[46,110,97,109,101]] t=false∧((fits [] t=true∧Runs toks m (rest) k op)∨(fits [] t=false∧(Runs toks m rest k op))))):=h.rule q1x (by decide+kernel)
theorem q1y:tabG z6f=some ([([[46,110,97,109,101],[91]],[z7y,x38])],false):=by kernel_rfl
theorem q4v {toks:List TokD} {n k:Nat} {rest:List Txt} {op:Int} (h:Runs toks n (z6f::rest) k op): ∃m t,n=m+1∧toks[k]?=some t∧((fits [[46,110,97,109,101],[91]] t=true∧Runs toks m (z7y::x38::rest) k op)∨(fits [[46,110,97,109,101],[91]] t=false∧(False))):=h.rule q1y (by decide+kernel)
theorem x8d:tabG z7y=some ([([[46,110,97,109,101]],[[46,110,97,109,101]]),([[91]],[[91],z6f,[93]])],false):=by kernel_rfl
theorem q1z {toks:List TokD} {n k:Nat} {rest:List Txt} {op:Int} (h:Runs toks n (z7y::rest) k op): ∃m t,n=m+1∧toks[k]?=some t∧((fits [[46,110,97,109,101]] t=true∧Runs toks m ([46,110,97,109,101]::rest) k op)∨(fits [[46,110,97,109,101]] t=false∧((fits [[91]] t=true∧Runs toks m ([91]::z6f::[93]::rest) k op)∨(fits [[91]] t=false∧(False))))):=h.rule x8d (by decide+kernel)
theorem q13:tabG x38=some ([([[33]],[[33]]),([],[])],true):=by kernel_rfl
theorem q4w {toks:List TokD} {n k:Nat} {rest:List Txt} {op:Int} (h:Runs toks n (x38::rest) k op): ∃m t,n=m+1∧toks[k]?=some t∧((fits [[33]] t=true∧Runs toks m ([33]::rest) k op)∨(fits [[33]] t=false∧((fits [] t=true∧Runs toks m (rest) k op)∨(fits [] t=false∧(Runs toks m rest k op))))):=h.rule q13 (by decide+kernel)
end Go.Proofs.YtbpgkkoeehopjaaGreat.gram
namespace Go.Proofs.YtbpgkkoeehopjaaGreat.acr
open tree gram rd dat lex
set_option maxRecDepth 100000
structure TokW (t:TokD):Prop where
 mark: ∀p,p∈([33,38,40,41,58,61,64,91,93,123,124,125]:Txt)→t.text=[p]→t.kind=2∨t.kind=6∨t.kind=7
 word: ∀w,w∈([[101,120,116,101,110,100],[105,109,112,108,101,109,101,110,116,115],[114,101,112,101,97,116,97,98,108,101],[111,110]]:List Txt)→t.text=w→t.kind=3∨t.kind=6∨t.kind=7
structure TokA (toks:List TokD):Prop extends TokE toks where
 wf: ∀(k:Nat) t,toks[k]?=some t→TokW t
theorem x0j {p:UInt8} (hp:p∈([33,38,40,41,58,61,64,91,93,123,124,125]:Txt)) (t:TokD):y1h [p] t=((t.kind==2)&&decide (t.text=[p])):=by
 simp only [Qbd,List.mem_nil_iff,or_false] at hp
 rcases hp with rfl|rfl|rfl|rfl|rfl|rfl|rfl|rfl|rfl|rfl|rfl|rfl<;>rfl
theorem y01 {t:TokD} (hW:TokW t) {p:UInt8} (hp:p∈([33,38,40,41,58,61,64,91,93,123,124,125]:Txt)):isF t [p]=y1h [p] t:=by
 rw [x0j hp];unfold isF;by_cases h:t.text=[p]
 ·have hk:=hW.mark p hp h;rw [Qa5 h]
  rcases hk with hk|hk|hk<;>rw [hk]<;>rfl
 ·rw [Qa4 h];simp
theorem q4x {w:Txt} (hw:w∈([[101,120,116,101,110,100],[105,109,112,108,101,109,101,110,116,115],[114,101,112,101,97,116,97,98,108,101],[111,110]]:List Txt)) (t:TokD):y1h (39::w) t=((t.kind==3)&&decide (t.text=w)):=by
 simp only [Qbd,List.mem_nil_iff,or_false] at hw
 rcases hw with rfl|rfl|rfl|rfl<;>rfl
theorem z0j {t:TokD} (hW:TokW t) {w:Txt} (hw:w∈([[101,120,116,101,110,100],[105,109,112,108,101,109,101,110,116,115],[114,101,112,101,97,116,97,98,108,101],[111,110]]:List Txt)):isF t w=y1h (39::w) t:=by
 rw [q4x hw];unfold isF;by_cases h:t.text=w
 ·have hk:=hW.word w hw h;rw [Qa5 h]
  rcases hk with hk|hk|hk<;>rw [hk]<;>rfl
 ·rw [Qa4 h];simp
theorem q15 {t:TokD} {s:Txt} {p:UInt8} (hp:p∈([33,38,40,41,58,61,64,91,93,123,124,125]:Txt)) (h:y1h [p] t=true) (hs:y1h s t=true):s=[p]:=by
 rw [x0j hp] at h;simp only [Qao,Qa7,decide_eq_true_eq] at h;obtain ⟨hk,ht⟩:=h;unfold y1h at hs;rw [hk] at hs;split at hs
 ·cases hs
 split at hs
 ·cases hs
 split at hs
 ·cases hs
 split at hs
 ·cases hs
 split at hs
 ·cases hs
 split at hs
 ·cases hs
 split at hs
 ·cases hs
 cases s with
 |nil=>cases hs
 |cons c r=>
  simp only at hs;split at hs
  ·cases hs
  ·simp only [Qao,decide_eq_true_eq] at hs;rw [←hs.2,ht]
theorem y62 {t:TokD} (hW:TokW t) {p:UInt8} (hp:p∈([33,38,40,41,58,61,64,91,93,123,124,125]:Txt)) {F:List Txt} (hF:fits F t=true) (hn:F.contains [p]=false):isF t [p]=false:=by
 rw [y01 hW hp]
 cases h:y1h [p] t with
 |false=>rfl
 |true=>
  obtain ⟨s,hs,hf⟩:=Qbh.1 hF;rw [q15 hp h hf] at hs;rw [List.contains_iff_mem.2 hs] at hn;cases hn
theorem y2e {t:TokD} {F:List Txt} {s:Txt} (h:fits F t=false) (hs:F.contains s=true):y1h s t=false:=by
 cases hf:y1h s t with
 |false=>rfl
 |true=>
  have:fits F t=true:=Qbh.2 ⟨s,List.contains_iff_mem.1 hs,hf⟩;rw [h] at this;cases this
section
variable {toks : List TokD}
theorem _root_.Go.Proofs.YtbpgkkoeehopjaaGreat.gram.Runs.tok {n:Nat} {s:Txt} {st:List Txt} {k:Nat} {op:Int} (h:Runs toks n (s::st) k op): ∃t,toks[k]?=some t:=by
 unfold Runs at h
 cases n with
 |zero=>cases h
 |succ m=>
  rw [runF] at h
  cases ht:toks[k]? with
  |none=>rw [ht] at h;cases h
  |some t=>exact ⟨t,rfl⟩
theorem _root_.Go.Proofs.YtbpgkkoeehopjaaGreat.gram.Runs.term (hE:TokA toks) {n:Nat} {s:Txt} {rest:List Txt} {k:Nat} {op:Int} (h:Runs toks n (s::rest) k op) (hs:(decide (s≠[])&&decide (s.length≤1000)&& !y3u s&&decide (s≠endT))=true) {t:TokD} (ht:toks[k]?=some t):
  ∃m,n=m+1∧y1h s t=true∧(y1w s=1→op<200)∧y0w toks.length k=k+1∧k+1<toks.length∧Runs toks m rest (k+1) (op+y1w s):=by
 simp only [Qao,decide_eq_true_eq,Bool.not_eq_true'] at hs;unfold Runs at h
 cases n with
 |zero=>cases h
 |succ m=>
  rw [runF,ht] at h;simp only at h;rw [if_neg (by rintro (h0|h0);exact hs.1.1.1 h0;have:=hs.1.1.2;omega),hs.1.2,if_neg (by decide)] at h
  cases hf:y1h s t with
  |false=>rw [hf,if_pos rfl] at h;simp at h
  |true=>
   rw [hf,if_neg (by decide)] at h;have hk:=z21 hf;have hlt:k<toks.length:=(Qac.1 ht).1
   have hl:k+1<toks.length:=by
    have h1:=hE.ends k t ht;have h2:=hk.2 hs.2
    have h3: ¬k+1=toks.length:=fun e=>by have:=h1.2 e;rcases this with h|h;exact h2 h;exact hk.1 h
    omega
   split at h
   ·simp at h
   ·rename_i hb
    try rw [if_pos hl] at h
    exact ⟨m,rfl,rfl,fun e=>by by_cases h2:op<200;exact h2;exact absurd ⟨e,by omega⟩ hb,by unfold y0w;rw [if_pos hl],hl,h⟩
theorem _root_.Go.Proofs.YtbpgkkoeehopjaaGreat.gram.Runs.t0 (hE:TokA toks) {n:Nat} {s:Txt} {rest:List Txt} {k:Nat} {op:Int} (h:Runs toks n (s::rest) k op) {t:TokD} (ht:toks[k]?=some t) (hs:(decide (s≠[])&&decide (s.length≤1000)&& !y3u s&&decide (s≠endT))=true:=by decide+kernel) (hb:y1w s=0:=by decide+kernel):
  ∃m,n=m+1∧y1h s t=true∧y0w toks.length k=k+1∧k+1<toks.length∧Runs toks m rest (k+1) op:=by
 obtain ⟨m,h1,h2,_,h4,h5,h6⟩:=h.term hE hs ht;rw [hb,Int.add_zero] at h6;exact ⟨m,h1,h2,h4,h5,h6⟩
theorem _root_.Go.Proofs.YtbpgkkoeehopjaaGreat.gram.Runs.topen (hE:TokA toks) {n:Nat} {s:Txt} {rest:List Txt} {k:Nat} {op:Int} (h:Runs toks n (s::rest) k op) {t:TokD} (ht:toks[k]?=some t) (hs:(decide (s≠[])&&decide (s.length≤1000)&& !y3u s&&decide (s≠endT))=true:=by decide+kernel) (hb:y1w s=1:=by decide+kernel):
  ∃m,n=m+1∧y1h s t=true∧y0w toks.length k=k+1∧k+1<toks.length∧op<200∧Runs toks m rest (k+1) (op+1):=by
 obtain ⟨m,h1,h2,h3,h4,h5,h6⟩:=h.term hE hs ht;rw [hb] at h6;exact ⟨m,h1,h2,h4,h5,h3 hb,h6⟩
theorem _root_.Go.Proofs.YtbpgkkoeehopjaaGreat.gram.Runs.tclose (hE:TokA toks) {n:Nat} {s:Txt} {rest:List Txt} {k:Nat} {op:Int} (h:Runs toks n (s::rest) k op) {t:TokD} (ht:toks[k]?=some t) (hs:(decide (s≠[])&&decide (s.length≤1000)&& !y3u s&&decide (s≠endT))=true:=by decide+kernel) (hb:y1w s= -1:=by decide+kernel):
  ∃m,n=m+1∧y1h s t=true∧y0w toks.length k=k+1∧k+1<toks.length∧Runs toks m rest (k+1) (op - 1):=by
 obtain ⟨m,h1,h2,h3,h4,h5,h6⟩:=h.term hE hs ht;rw [hb,←Int.sub_eq_add_neg] at h6;exact ⟨m,h1,h2,h4,h5,h6⟩
def Got {α:Type} (toks:List TokD) (n:Nat) (rest:List Txt) (op:Int) (k:Nat) (N:α→Nat) (x:Option (α×Nat)):Prop:=∃a k' m,x=some (a,k')∧Runs toks m rest k' op∧m<n∧N a+k≤k'
abbrev z6g:Txt:=[46,110,97,109,101]
abbrev tSTR:Txt:=[46,115,116,114]
abbrev tNUM:Txt:=[46,110,117,109]
theorem z29 {t:TokD} (h:y1h z6g t=true):t.kind=3:=by have:(t.kind==3)=true:=h;simpa using this
theorem x19 {t:TokD} (h:y1h tSTR t=true):t.kind=6∨t.kind=7:=by have:((t.kind==6)||(t.kind==7))=true:=h;simpa using this
theorem q16 {t:TokD} (h:y1h tNUM t=true):t.kind=4∨t.kind=5:=by have:((t.kind==4)||(t.kind==5))=true:=h;simpa using this
theorem z71 {t:TokD} {p:UInt8} (hp:p∈([33,38,40,41,58,61,64,91,93,123,124,125]:Txt)) (h:y1h [p] t=true):t.kind=2∧t.text=[p]:=by
 rw [x0j hp] at h;simpa using h
theorem x8e (hE:TokA toks) (L:Nat) (hL:toks.length≤L): ∀n,
  (∀(rest:List Txt) (k:Nat) (op:Int) (f:Nat),Runs toks n (nLIT::rest) k op→op≤200→200<op+f→Got toks n rest op k litN (litF toks L f k))∧
  (∀(rest:List Txt) (k:Nat) (op:Int) (f fu:Nat),Runs toks n (z98::[93]::rest) k op→op≤200→200<op+f→toks.length<fu+k→Got toks n rest (op - 1) k (fun l=>litsN l+1) (z07 toks (litF toks L f) fu k))∧
  (∀(rest:List Txt) (k:Nat) (op:Int) (f fu:Nat),Runs toks n (z99::[125]::rest) k op→op≤200→200<op+f→toks.length<fu+k→Got toks n rest (op - 1) k (fun l=>pairsN l+1) (y2x toks [125] (litF toks L f) fu k)):=by
 intro n
 induction n using Nat.strongRecOn with
 |_ n ih=>
  refine ⟨fun rest k op f h h1 h2=>?_,fun rest k op f fu h h1 h2 h3=>?_,fun rest k op f fu h h1 h2 h3=>?_⟩
  ·obtain ⟨m,t,rfl,ht,hA⟩:=q6q h;obtain ⟨f,rfl⟩: ∃g,f=g+1:=⟨f - 1,by omega⟩;rw [litF,ht,Option.bind_some];rcases hA with ⟨_,h⟩|⟨_,⟨_,h⟩|⟨_,⟨_,h⟩|⟨_,⟨_,h⟩|⟨_,⟨_,h⟩|⟨_,h⟩⟩⟩⟩⟩
   ·obtain ⟨m',rfl,hf,hn,hl,h⟩:=h.t0 hE ht;rw [if_pos (z29 hf),hn];exact ⟨_,_,m',rfl,h,by omega,by simp [litN,litsN,pairsN];omega⟩
   ·obtain ⟨m',rfl,hf,hn,hl,h⟩:=h.t0 hE ht;have hk:=x19 hf;rw [if_neg (by omega),if_neg (by omega),if_neg (by omega),if_pos hk,hn];exact ⟨_,_,m',rfl,h,by omega,by simp [litN,litsN,pairsN];omega⟩
   ·obtain ⟨m',rfl,hf,hn,hl,h⟩:=h.t0 hE ht;have hk:=q16 hf;rw [if_neg (by omega),hn];by_cases h4:t.kind=4
    ·rw [if_pos h4];exact ⟨_,_,m',rfl,h,by omega,by simp [litN,litsN,pairsN];omega⟩
    ·rw [if_neg h4,if_pos (by omega)];exact ⟨_,_,m',rfl,h,by omega,by simp [litN,litsN,pairsN];omega⟩
   ·obtain ⟨m',rfl,hf,hn,hl,hop,h⟩:=h.topen hE ht;have hk:=z71 (by decide) hf;rw [if_neg (by omega),if_neg (by omega),if_neg (by omega),if_neg (by omega),if_pos hk.2,hn];obtain ⟨a,k',m2,e,hr,hm,hN⟩:=(ih m' (by omega)).2.1 rest (k+1) (op+1) f L h (by omega) (by omega) (by omega);rw [e];refine ⟨_,_,m2,rfl,?_,by omega,by simp only [litN,pairsN] at hN ⊢;omega⟩;rw [Int.add_sub_cancel] at hr;exact hr
   ·obtain ⟨m',rfl,hf,hn,hl,hop,h⟩:=h.topen hE ht;have hk:=z71 (by decide) hf;rw [if_neg (by omega),if_neg (by omega),if_neg (by omega),if_neg (by omega),if_neg (by rw [hk.2];decide),hn];obtain ⟨a,k',m2,e,hr,hm,hN⟩:=(ih m' (by omega)).2.2 rest (k+1) (op+1) f L h (by omega) (by omega) (by omega);rw [e];refine ⟨_,_,m2,rfl,?_,by omega,by simp only [litN,litsN] at hN ⊢;omega⟩;rw [Int.add_sub_cancel] at hr;exact hr
   ·exact h.elim
  ·obtain ⟨m,t,rfl,ht,hA⟩:=q4t h;have hlt:k<toks.length:=(Qac.1 ht).1;obtain ⟨fu,rfl⟩: ∃g,fu=g+1:=⟨fu - 1,by omega⟩;have hW:=hE.wf k t ht;rw [z07,ht,Option.bind_some]
   have hend:Runs toks m ([93]::rest) k op→Got toks (m+1) rest (op - 1) k (fun l=>litsN l+1) (if isF t [93]=true then some ([],k+1) else (litF toks L f k).bind fun q=>(z07 toks (litF toks L f) fu q.2).bind fun r=>some (q.1::r.1,r.2)):=fun h=>by
    obtain ⟨m',rfl,hf,hn,hl,h⟩:=h.tclose hE ht;rw [if_pos (by rw [y01 hW (by decide)];exact hf)];exact ⟨_,_,m',rfl,h,by omega,by simp [litsN];omega⟩
   rcases hA with ⟨hF,h⟩|⟨_,⟨_,h⟩|⟨_,h⟩⟩
   ·rw [if_neg (by rw [y62 hW (by decide) hF (by decide+kernel)];decide)];obtain ⟨a,k',m2,e,hr,hm,hN⟩:=(ih m (by omega)).1 _ k op f h h1 h2;rw [e,Option.bind_some];have hp:=y7j a;obtain ⟨b,k2,m3,e2,hr2,hm2,hN2⟩:=(ih m2 (by omega)).2.1 rest k' op f fu hr h1 h2 (by omega);rw [e2,Option.bind_some];exact ⟨_,_,m3,rfl,hr2,by omega,by simp only [litsN] at hN2 ⊢;omega⟩
   ·exact hend h
   ·exact hend h
  ·obtain ⟨m,t,rfl,ht,hA⟩:=q4u h;have hlt:k<toks.length:=(Qac.1 ht).1;obtain ⟨fu,rfl⟩: ∃g,fu=g+1:=⟨fu - 1,by omega⟩;have hW:=hE.wf k t ht;rw [y2x,ht,Option.bind_some];rcases hA with ⟨hF,h⟩|⟨_,h⟩
   ·rw [if_neg (by rw [y62 hW (by decide) hF (by decide+kernel)];decide)];obtain ⟨m1,rfl,hf,hn,hl,h⟩:=h.t0 hE ht;obtain ⟨t1,ht1⟩:=h.tok;have hW1:=hE.wf _ t1 ht1;obtain ⟨m2,rfl,hf1,hn1,hl1,h⟩:=h.t0 hE ht1;rw [hn,ht1,Option.bind_some,if_pos (by rw [y01 hW1 (by decide)];exact hf1)];obtain ⟨a,k',m3,e,hr,hm,hN⟩:=(ih m2 (by omega)).1 _ (k+1+1) op f h h1 h2;rw [e,Option.bind_some];have hp:=y7j a;obtain ⟨b,k2,m4,e2,hr2,hm2,hN2⟩:=(ih m3 (by omega)).2.2 rest k' op f fu hr h1 h2 (by omega);rw [e2,Option.bind_some];exact ⟨_,_,m4,rfl,hr2,by omega,by simp only [pairsN,pairN] at hN2 ⊢;omega⟩
   ·have h:Runs toks m ([125]::rest) k op:=by rcases h with ⟨_,h⟩|⟨_,h⟩<;>exact h
    obtain ⟨m',rfl,hf,hn,hl,h⟩:=h.tclose hE ht;rw [if_pos (by rw [y01 hW (by decide)];exact hf)];exact ⟨_,_,m',rfl,h,by omega,by simp [pairsN];omega⟩
end
section
variable {toks : List TokD}
theorem x2a (hE:TokA toks) {n:Nat} {rest:List Txt} {k:Nat} {op:Int} {r:Txt×Txt} (h:Runs toks n (x38::rest) k op) (hr:r.2.length≤2000):
  ∃r' k' m,x3s toks r k=some (r',k')∧Runs toks m rest k' op∧m<n∧k≤k'∧r'.2.length≤r.2.length+1:=by
 obtain ⟨m,t,rfl,ht,hA⟩:=q4w h;have hW:=hE.wf k t ht;unfold x3s;rw [if_pos hr,ht];simp only;rcases hA with ⟨hF,h⟩|⟨hF,h⟩
 ·obtain ⟨m',rfl,hf,hn,hl,h⟩:=h.t0 hE ht;rw [if_pos (by rw [y01 hW (by decide)];exact hf)];exact ⟨_,_,m',rfl,h,by omega,by omega,by simp⟩
 ·have h:Runs toks m rest k op:=by rcases h with ⟨_,h⟩|⟨_,h⟩<;>exact h
  rw [if_neg (by rw [y01 hW (by decide),y2e hF (by decide+kernel)];decide)];exact ⟨_,_,m,rfl,h,by omega,by omega,by omega⟩
theorem x8f (hE:TokA toks): ∀(n:Nat) (rest:List Txt) (k:Nat) (op:Int) (f:Nat),Runs toks n (z6f::rest) k op→0≤op→op≤200→200<op+f→
  ∃r k' m,typF toks f k=some (r,k')∧Runs toks m rest k' op∧m<n∧k+1≤k'∧(r.2.length:Int)≤2*(200 - op)+1:=by
 intro n
 induction n using Nat.strongRecOn with
 |_ n ih=>
  intro rest k op f h h0 h1 h2;obtain ⟨m,t,rfl,ht,hA⟩:=q4v h;obtain ⟨f,rfl⟩: ∃g,f=g+1:=⟨f - 1,by omega⟩
  have h:Runs toks m (z7y::x38::rest) k op:=by rcases hA with ⟨_,h⟩|⟨_,h⟩;exact h;exact h.elim
  obtain ⟨m,t',rfl,ht',hA⟩:=q1z h;rw [ht] at ht';injection ht' with ht';subst ht';have hW:=hE.wf k t ht;rw [typF,ht];simp only;rcases hA with ⟨hF,h⟩|⟨_,⟨hF,h⟩|⟨_,h⟩⟩
  ·obtain ⟨m1,rfl,hf,hn,hl,h⟩:=h.t0 hE ht;rw [if_neg (by rw [y62 hW (by decide) hF (by decide+kernel)];decide),hn];obtain ⟨r',k',m2,e,hr,hm,hk,hlen⟩:=x2a (r:=(t.text,[])) hE h (by simp);rw [e];refine ⟨r',k',m2,rfl,hr,by omega,by omega,?_⟩;simp only [List.length_nil] at hlen;omega
  ·obtain ⟨m1,rfl,hf,hn,hl,hop,h⟩:=h.topen hE ht;rw [if_pos (by rw [y01 hW (by decide)];exact hf)];obtain ⟨r,k',m2,e,hr,hm,hk,hlen⟩:=ih m1 (by omega) _ (k+1) (op+1) f h (by omega) (by omega) (by omega);rw [e];simp only;obtain ⟨t1,ht1⟩:=hr.tok;have hW1:=hE.wf _ t1 ht1;obtain ⟨m3,rfl,hf1,hn1,hl1,h⟩:=hr.tclose hE ht1;rw [Int.add_sub_cancel] at h;rw [ht1];simp only;rw [if_pos (by omega),if_pos (by rw [y01 hW1 (by decide)];exact hf1)];obtain ⟨r',k2,m4,e2,hr2,hm2,hk2,hlen2⟩:=x2a (r:=(r.1,r.2++[93])) hE h (by simp;omega);rw [e2];refine ⟨r',k2,m4,rfl,hr2,by omega,by omega,?_⟩;simp only [Qae,Qbj] at hlen2;omega
  ·exact h.elim
theorem q17 (hE:TokA toks) (L:Nat) (hL:toks.length≤L): ∀n,
  (∀(rest:List Txt) (k:Nat) (op:Int) (f fu:Nat),Runs toks n (z7x::[41]::rest) k op→op≤200→200<op+f→toks.length<fu+k→Got toks n rest (op - 1) k (fun l=>pairsN l+1) (y2x toks [41] (litF toks L f) fu k))∧
  (∀(rest:List Txt) (k:Nat) (op:Int) (f fu:Nat),Runs toks n (nARG::z7x::[41]::rest) k op→op≤200→200<op+f→toks.length<fu+k→Got toks n rest (op - 1) k (fun l=>pairsN l+1) (y2x toks [41] (litF toks L f) fu k)):=by
 intro n
 induction n using Nat.strongRecOn with
 |_ n ih=>
  refine ⟨fun rest k op f fu h h1 h2 h3=>?_,fun rest k op f fu h h1 h2 h3=>?_⟩
  ·obtain ⟨m,t,rfl,ht,hA⟩:=q4q h;have hlt:k<toks.length:=(Qac.1 ht).1;have hW:=hE.wf k t ht;rcases hA with ⟨hF,h⟩|⟨_,h⟩
   ·obtain ⟨a,k',m1,e,hr,hm,hN⟩:=(ih m (by omega)).2 rest k op f fu h h1 h2 h3;exact ⟨a,k',m1,e,hr,by omega,hN⟩
   ·have h:Runs toks m ([41]::rest) k op:=by rcases h with ⟨_,h⟩|⟨_,h⟩<;>exact h
    obtain ⟨fu,rfl⟩: ∃g,fu=g+1:=⟨fu - 1,by omega⟩;rw [y2x,ht,Option.bind_some];obtain ⟨m',rfl,hf,hn,hl,h⟩:=h.tclose hE ht;rw [if_pos (by rw [y01 hW (by decide)];exact hf)];exact ⟨_,_,m',rfl,h,by omega,by simp [pairsN];omega⟩
  ·obtain ⟨m,t,rfl,ht,hA⟩:=q6p h;have hlt:k<toks.length:=(Qac.1 ht).1;have hW:=hE.wf k t ht;obtain ⟨fu,rfl⟩: ∃g,fu=g+1:=⟨fu - 1,by omega⟩;rw [y2x,ht,Option.bind_some];rcases hA with ⟨hF,h⟩|⟨_,h⟩
   ·rw [if_neg (by rw [y62 hW (by decide) hF (by decide+kernel)];decide)];obtain ⟨m1,rfl,hf,hn,hl,h⟩:=h.t0 hE ht;obtain ⟨t1,ht1⟩:=h.tok;have hW1:=hE.wf _ t1 ht1;obtain ⟨m2,rfl,hf1,hn1,hl1,h⟩:=h.t0 hE ht1;rw [hn,ht1,Option.bind_some,if_pos (by rw [y01 hW1 (by decide)];exact hf1)];obtain ⟨a,k',m3,e,hr,hm,hN⟩:=(x8e hE L hL m2).1 _ (k+1+1) op f h h1 h2;rw [e,Option.bind_some];have hp:=y7j a;obtain ⟨b,k2,m4,e2,hr2,hm2,hN2⟩:=(ih m3 (by omega)).1 rest k' op f fu hr h1 h2 (by omega);rw [e2,Option.bind_some];exact ⟨_,_,m4,rfl,hr2,by omega,by simp only [pairsN,pairN] at hN2 ⊢;omega⟩
   ·exact h.elim
theorem x8g (hE:TokA toks) (L:Nat) (hL:toks.length≤L) {n:Nat} {rest:List Txt} {k:Nat} {op:Int} {f:Nat} (h:Runs toks n (x7m::rest) k op) (h1:op≤200) (h2:200<op+f):Got toks n rest op k pairsN (q09 toks L f k):=by
 obtain ⟨m,t,rfl,ht,hA⟩:=q4p h;have hlt:k<toks.length:=(Qac.1 ht).1;have hW:=hE.wf k t ht;unfold q09;rw [ht,Option.bind_some];rcases hA with ⟨hF,h⟩|⟨hF,h⟩
 ·obtain ⟨m1,rfl,hf,hn,hl,hop,h⟩:=h.topen hE ht;rw [if_pos (by rw [y01 hW (by decide)];exact hf)];obtain ⟨a,k',m2,e,hr,hm,hN⟩:=(q17 hE L hL m1).2 rest (k+1) (op+1) f L h (by omega) (by omega) (by omega);rw [Int.add_sub_cancel] at hr;exact ⟨a,k',m2,e,hr,by omega,by (try simp only at hN ⊢);omega⟩
 ·have h:Runs toks m rest k op:=by rcases h with ⟨_,h⟩|⟨_,h⟩<;>exact h
  rw [if_neg (by rw [y01 hW (by decide),y2e hF (by decide+kernel)];decide)];exact ⟨_,_,m,rfl,h,by omega,by simp [pairsN]⟩
theorem x2b (hE:TokA toks) (L:Nat) (hL:toks.length≤L): ∀n,
  (∀(rest:List Txt) (k:Nat) (op:Int) (f fu:Nat),Runs toks n (y09::rest) k op→op≤200→200<op+f→toks.length<fu+k→Got toks n rest op k (sumN dirN) (y8b toks L f fu k))∧
  (∀(rest:List Txt) (k:Nat) (op:Int) (f fu:Nat),Runs toks n (nDIR::y09::rest) k op→op≤200→200<op+f→toks.length<fu+k→Got toks n rest op k (sumN dirN) (y8b toks L f fu k)):=by
 intro n
 induction n using Nat.strongRecOn with
 |_ n ih=>
  refine ⟨fun rest k op f fu h h1 h2 h3=>?_,fun rest k op f fu h h1 h2 h3=>?_⟩
  ·obtain ⟨m,t,rfl,ht,hA⟩:=q4n h;have hlt:k<toks.length:=(Qac.1 ht).1;have hW:=hE.wf k t ht;rcases hA with ⟨hF,h⟩|⟨hF,h⟩
   ·obtain ⟨a,k',m1,e,hr,hm,hN⟩:=(ih m (by omega)).2 rest k op f fu h h1 h2 h3;exact ⟨a,k',m1,e,hr,by omega,hN⟩
   ·have h:Runs toks m rest k op:=by rcases h with ⟨_,h⟩|⟨_,h⟩<;>exact h
    obtain ⟨fu,rfl⟩: ∃g,fu=g+1:=⟨fu - 1,by omega⟩;rw [y8b,ht,Option.bind_some,if_neg (by rw [y01 hW (by decide),y2e hF (by decide+kernel)];decide)];exact ⟨_,_,m,rfl,h,by omega,by simp [sumN]⟩
  ·obtain ⟨m,t,rfl,ht,hA⟩:=q6o h;have hlt:k<toks.length:=(Qac.1 ht).1;have hW:=hE.wf k t ht;obtain ⟨fu,rfl⟩: ∃g,fu=g+1:=⟨fu - 1,by omega⟩;rw [y8b,ht,Option.bind_some];rcases hA with ⟨hF,h⟩|⟨_,h⟩
   ·obtain ⟨m1,rfl,hf,hn,hl,h⟩:=h.t0 hE ht;rw [if_pos (by rw [y01 hW (by decide)];exact hf),hn];obtain ⟨t1,ht1⟩:=h.tok;obtain ⟨m2,rfl,hf1,hn1,hl1,h⟩:=h.t0 hE ht1;rw [ht1,Option.bind_some,hn1];obtain ⟨a,k',m3,e,hr,hm,hN⟩:=x8g hE L hL h h1 h2;rw [e,Option.bind_some];obtain ⟨b,k2,m4,e2,hr2,hm2,hN2⟩:=(ih m3 (by omega)).1 rest k' op f fu hr h1 h2 (by omega);rw [e2,Option.bind_some];exact ⟨_,_,m4,rfl,hr2,by omega,by simp only [sumN,dirN] at hN2 ⊢;omega⟩
   ·exact h.elim
theorem y2g (hE:TokA toks) (L:Nat) (hL:toks.length≤L) {n:Nat} {rest:List Txt} {k:Nat} {op:Int} {f:Nat} (h:Runs toks n (y09::rest) k op) (h1:op≤200) (h2:200<op+f) (hk:0<k):Got toks n rest op k (sumN dirN) (y4s toks L f k):=
 (x2b hE L hL n).1 rest k op f L h h1 h2 (by omega)
theorem y7o (hE:TokA toks) (L:Nat) (hL:toks.length≤L) {n:Nat} {rest:List Txt} {k:Nat} {op:Int} {f:Nat} (h:Runs toks n (nDIR::y09::rest) k op) (h1:op≤200) (h2:200<op+f) (hk:0<k):Got toks n rest op k (sumN dirN) (y4s toks L f k):=
 (x2b hE L hL n).2 rest k op f L h h1 h2 (by omega)
theorem z72 (hE:TokA toks) (mark:UInt8) (hp:mark∈([33,38,40,41,58,61,64,91,93,123,124,125]:Txt)) (hb:y1w [mark]=0) (item list:Txt) (hs:(decide (item≠[])&&decide (item.length≤1000)&& !y3u item&&decide (item≠endT))=true) (hbi:y1w item=0)
  (hin: ∀{n k:Nat} {rest:List Txt} {op:Int},Runs toks n (list::rest) k op→ ∃m t,n=m+1∧toks[k]?=some t∧((fits [[mark]] t=true∧Runs toks m ([mark]::item::list::rest) k op)∨(fits [[mark]] t=false∧((fits [] t=true∧Runs toks m rest k op)∨(fits [] t=false∧(Runs toks m rest k op)))))):
  ∀(n:Nat) (rest:List Txt) (k:Nat) (op:Int) (fu:Nat),Runs toks n (item::list::rest) k op→toks.length<fu+k→Got toks n rest op k (fun l=>l.length) (z06 toks [mark] fu k):=by
 intro n
 induction n using Nat.strongRecOn with
 |_ n ih=>
  intro rest k op fu h h1;obtain ⟨t,ht⟩:=h.tok;have hlt:k<toks.length:=(Qac.1 ht).1;obtain ⟨fu,rfl⟩: ∃g,fu=g+1:=⟨fu - 1,by omega⟩;obtain ⟨m1,rfl,hf,hn,hl,h⟩:=h.t0 hE ht hs hbi;obtain ⟨m2,t1,rfl,ht1,hA⟩:=hin h;have hW1:=hE.wf _ t1 ht1;rw [z06,ht];simp only;rw [hn,ht1];simp only;rcases hA with ⟨hF,h⟩|⟨hF,h⟩
  ·obtain ⟨m3,rfl,hf1,hn1,hl1,h⟩:=h.t0 hE ht1 (by simp only [Qbd,List.mem_nil_iff,or_false] at hp;rcases hp with rfl|rfl|rfl|rfl|rfl|rfl|rfl|rfl|rfl|rfl|rfl|rfl<;>decide+kernel) hb;rw [if_pos (by rw [y01 hW1 hp];exact hf1)];obtain ⟨a,k',m4,e,hr,hm,hN⟩:=ih m3 (by omega) rest (k+1+1) op fu h (by omega);rw [e];exact ⟨_,_,m4,rfl,hr,by omega,by simp only [List.length_cons] at hN ⊢;omega⟩
  ·have h:Runs toks m2 rest (k+1) op:=by rcases h with ⟨_,h⟩|⟨_,h⟩<;>exact h
   rw [if_neg (by rw [y01 hW1 hp,y2e hF (by simp)];decide)];exact ⟨_,_,m2,rfl,h,by omega,by simp only [Qbj];omega⟩
theorem z0k (hE:TokA toks) (mark:UInt8) (hp:mark∈([33,38,40,41,58,61,64,91,93,123,124,125]:Txt)) (hb:y1w [mark]=0) (item list opt:Txt) (hs:(decide (item≠[])&&decide (item.length≤1000)&& !y3u item&&decide (item≠endT))=true) (hbi:y1w item=0)
  (hno: ∀t,y1h item t=true→t.kind=3)
  (hin: ∀{n k:Nat} {rest:List Txt} {op:Int},Runs toks n (list::rest) k op→ ∃m t,n=m+1∧toks[k]?=some t∧((fits [[mark]] t=true∧Runs toks m ([mark]::item::list::rest) k op)∨(fits [[mark]] t=false∧((fits [] t=true∧Runs toks m rest k op)∨(fits [] t=false∧(Runs toks m rest k op))))))
  (hopt: ∀{n k:Nat} {rest:List Txt} {op:Int},Runs toks n (opt::rest) k op→ ∃m t,n=m+1∧toks[k]?=some t∧((fits [[mark]] t=true∧Runs toks m ([mark]::rest) k op)∨(fits [[mark]] t=false∧((fits [] t=true∧Runs toks m rest k op)∨(fits [] t=false∧(Runs toks m rest k op))))))
  (L:Nat) (hL:toks.length≤L) {n:Nat} {rest:List Txt} {k:Nat} {op:Int} (hk:0<k) (h:Runs toks n (opt::item::list::rest) k op):Got toks n rest op k (fun l=>l.length) (y8q toks [mark] L k):=by
 obtain ⟨m,t,rfl,ht,hA⟩:=hopt h;have hW:=hE.wf _ t ht;unfold y8q;rw [ht];simp only;rcases hA with ⟨hF,h⟩|⟨hF,h⟩
 ·obtain ⟨m1,rfl,hf1,hn1,hl1,h⟩:=h.t0 hE ht (by simp only [Qbd,List.mem_nil_iff,or_false] at hp;rcases hp with rfl|rfl|rfl|rfl|rfl|rfl|rfl|rfl|rfl|rfl|rfl|rfl<;>decide+kernel) hb;rw [if_pos (by rw [y01 hW hp];exact hf1)];obtain ⟨a,k',m2,e,hr,hm,hN⟩:=z72 hE mark hp hb item list hs hbi hin m1 rest (k+1) op L h (by omega);exact ⟨a,k',m2,e,hr,by omega,by (try simp only at hN ⊢);omega⟩
 ·have h:Runs toks m (item::list::rest) k op:=by rcases h with ⟨_,h⟩|⟨_,h⟩<;>exact h
  rw [if_neg (by rw [y01 hW hp,y2e hF (by simp)];decide)];obtain ⟨a,k',m2,e,hr,hm,hN⟩:=z72 hE mark hp hb item list hs hbi hin m rest k op L h (by omega);exact ⟨a,k',m2,e,hr,by omega,hN⟩
theorem z1s {n:Nat} {st:List Txt} {k:Nat} {op:Int} (hE:TokA toks) {t:TokD} (ht:toks[k]?=some t) (h:Runs toks n (tSTR::st) k op): ∃p m,y9k toks k=some (p,k+1)∧n=m+1∧Runs toks m st (k+1) op:=by
 obtain ⟨m,rfl,hf,hn,hl,h⟩:=h.t0 hE ht;unfold y9k;rw [ht,Option.map_some,if_pos (x19 hf)];exact ⟨_,m,rfl,rfl,h⟩
theorem y5v {k:Nat} {t:TokD} (ht:toks[k]?=some t) (hf:y1h tSTR t=false):y9k toks k=some (y5j,k):=by
 unfold y9k;have:((t.kind==6)||(t.kind==7))=false:=hf;simp at this;rw [ht,Option.map_some,if_neg (by omega)]
theorem q3d (hE:TokA toks) (L:Nat) (hL:toks.length≤L) {n:Nat} {rest:List Txt} {k k0:Nat} {op:Int} {f:Nat} {p:NoteD} (hn0:y9k toks k0=some (p,k)) (hk0:k0≤k) (h:Runs toks n (y83::rest) k op) (h0:0≤op) (h1:op≤200) (h2:200<op+f):
  Got toks n rest op k0 y15 (z4q toks L f k0):=by
 obtain ⟨m,t,rfl,ht,hA⟩:=x71 h;rcases hA with ⟨hF,h⟩|⟨_,h⟩
 ·obtain ⟨m1,rfl,hf,hn,hl,h⟩:=h.t0 hE ht;obtain ⟨t1,ht1⟩:=h.tok;have hW1:=hE.wf _ t1 ht1;obtain ⟨m2,rfl,hf1,hn1,hl1,h⟩:=h.t0 hE ht1;obtain ⟨r,k',m3,e,hr,hm,hN,hlen⟩:=x8f hE _ _ (k+1+1) op f h h0 h1 h2;obtain ⟨m4,t3,rfl,ht3,hA⟩:=x4m hr;have hW3:=hE.wf _ t3 ht3;unfold z4q;rw [hn0,Option.bind_some,ht,Option.bind_some,hn,ht1,Option.bind_some,if_pos (by rw [y01 hW1 (by decide)];exact hf1),e,Option.bind_some,ht3,Option.bind_some];rcases hA with ⟨hF,h⟩|⟨hF,h⟩
  ·obtain ⟨m5,rfl,hf3,hn3,hl3,h⟩:=h.t0 hE ht3;rw [if_pos (by rw [y01 hW3 (by decide)];exact hf3)];obtain ⟨a,k2,m6,e2,hr2,hm2,hN2⟩:=(x8e hE L hL _).1 _ _ op f h h1 h2;rw [e2,Option.bind_some];obtain ⟨b,k3,m7,e3,hr3,hm3,hN3⟩:=y2g hE L hL hr2 h1 h2 (by omega);rw [e3,Option.bind_some];exact ⟨_,_,m7,rfl,hr3,by omega,by simp only [y15];omega⟩
  ·have h:Runs toks m4 (y09::rest) k' op:=by rcases h with ⟨_,h⟩|⟨_,h⟩<;>exact h
   rw [if_neg (by rw [y01 hW3 (by decide),y2e hF (by decide+kernel)];decide),Option.bind_some];obtain ⟨b,k3,m7,e3,hr3,hm3,hN3⟩:=y2g hE L hL h h1 h2 (by omega);rw [e3,Option.bind_some];have hz:litN litZ=1:=rfl;exact ⟨_,_,m7,rfl,hr3,by omega,by simp only [y15,hz];omega⟩
 ·exact h.elim
theorem x8h (hE:TokA toks) (L:Nat) (hL:toks.length≤L) {n:Nat} {rest:List Txt} {k:Nat} {op:Int} {f:Nat} (h:Runs toks n (y8j::rest) k op) (h0:0≤op) (h1:op≤200) (h2:200<op+f):
  Got toks n rest op k y15 (z4q toks L f k):=by
 obtain ⟨m,t,rfl,ht,hA⟩:=x18 h;rcases hA with ⟨hF,h⟩|⟨hF,⟨hF2,h⟩|⟨_,h⟩⟩
 ·obtain ⟨p,m1,e,em,h'⟩:=z1s hE ht h;subst em;obtain ⟨a,k2,m6,e2,hr2,hm2,hN2⟩:=q3d hE L hL e (by omega) h' h0 h1 h2;exact ⟨a,k2,m6,e2,hr2,by omega,hN2⟩
 ·obtain ⟨a,k2,m6,e2,hr2,hm2,hN2⟩:=q3d hE L hL (y5v ht (y2e hF (by decide+kernel))) (Qab _) h h0 h1 h2;exact ⟨a,k2,m6,e2,hr2,by omega,hN2⟩
 ·exact h.elim
theorem z4x (hE:TokA toks) (L:Nat) (hL:toks.length≤L) (cl:UInt8) (hc:cl=41∨cl=125): ∀n,
  (∀(rest:List Txt) (k:Nat) (op:Int) (f fu:Nat),Runs toks n (y5l::[cl]::rest) k op→0≤op→op≤200→200<op+f→toks.length<fu+k→Got toks n rest (op - 1) k (fun l=>sumN y15 l+1) (y4c toks [cl] L f fu k))∧
  (∀(rest:List Txt) (k:Nat) (op:Int) (f fu:Nat),Runs toks n (y8j::y5l::[cl]::rest) k op→0≤op→op≤200→200<op+f→toks.length<fu+k→Got toks n rest (op - 1) k (fun l=>sumN y15 l+1) (y4c toks [cl] L f fu k)):=by
 intro n
 induction n using Nat.strongRecOn with
 |_ n ih=>
  refine ⟨fun rest k op f fu h h0 h1 h2 h3=>?_,fun rest k op f fu h h0 h1 h2 h3=>?_⟩
  ·obtain ⟨m,t,rfl,ht,hA⟩:=x7z h;have hlt:k<toks.length:=(Qac.1 ht).1;have hW:=hE.wf k t ht;rcases hA with ⟨hF,h⟩|⟨hF,h⟩
   ·obtain ⟨a,k',m1,e,hr,hm,hN⟩:=(ih m (by omega)).2 rest k op f fu h h0 h1 h2 h3;exact ⟨a,k',m1,e,hr,by omega,hN⟩
   ·have h:Runs toks m ([cl]::rest) k op:=by rcases h with ⟨_,h⟩|⟨_,h⟩<;>exact h
    obtain ⟨fu,rfl⟩: ∃g,fu=g+1:=⟨fu - 1,by omega⟩;rw [y4c,ht,Option.bind_some];obtain ⟨m',rfl,hf,hn,hl,h⟩:=h.tclose hE ht (by rcases hc with rfl|rfl<;>decide+kernel) (by rcases hc with rfl|rfl<;>decide+kernel);rw [if_pos (by rw [y01 hW (by rcases hc with rfl|rfl<;>decide)];exact hf)];exact ⟨_,_,m',rfl,h,by omega,by simp [sumN];omega⟩
  ·obtain ⟨t,ht⟩:=h.tok;have hlt:k<toks.length:=(Qac.1 ht).1;have hW:=hE.wf k t ht
   have hno:isF t [cl]=false:=by
    obtain ⟨m,t',_,ht',hA⟩:=x18 h;rw [ht] at ht';injection ht' with ht';subst ht';rcases hA with ⟨hF,_⟩|⟨_,⟨hF,_⟩|⟨_,h⟩⟩
    ·exact y62 hW (by rcases hc with rfl|rfl<;>decide) hF (by rcases hc with rfl|rfl<;>decide+kernel)
    ·exact y62 hW (by rcases hc with rfl|rfl<;>decide) hF (by rcases hc with rfl|rfl<;>decide+kernel)
    ·exact h.elim
   obtain ⟨fu,rfl⟩: ∃g,fu=g+1:=⟨fu - 1,by omega⟩;rw [y4c,ht,Option.bind_some,if_neg (by rw [hno];decide)];obtain ⟨a,k',m3,e,hr,hm,hN⟩:=x8h hE L hL h h0 h1 h2;rw [e,Option.bind_some];have hp:=y23 a;obtain ⟨b,k2,m4,e2,hr2,hm2,hN2⟩:=(ih m3 (by omega)).1 rest k' op f fu hr h0 h1 h2 (by omega);rw [e2,Option.bind_some];exact ⟨_,_,m4,rfl,hr2,by omega,by simp only [sumN] at hN2 ⊢;omega⟩
theorem z3a (hE:TokA toks) (L:Nat) (hL:toks.length≤L) {n:Nat} {rest:List Txt} {k:Nat} {op:Int} {f:Nat} (h:Runs toks n (y61::rest) k op) (h0:0≤op) (h1:op≤200) (h2:200<op+f):Got toks n rest op k (sumN y15) (y3k toks [40] [41] L f k):=by
 obtain ⟨m,t,rfl,ht,hA⟩:=x7y h;have hlt:k<toks.length:=(Qac.1 ht).1;have hW:=hE.wf k t ht;unfold y3k;rw [ht,Option.bind_some];rcases hA with ⟨hF,h⟩|⟨hF,h⟩
 ·obtain ⟨m1,rfl,hf,hn,hl,hop,h⟩:=h.topen hE ht;rw [if_pos (by rw [y01 hW (by decide)];exact hf)];obtain ⟨a,k',m2,e,hr,hm,hN⟩:=(z4x hE L hL 41 (.inl rfl) m1).2 rest (k+1) (op+1) f L h (by omega) (by omega) (by omega) (by omega);rw [Int.add_sub_cancel] at hr;exact ⟨a,k',m2,e,hr,by omega,by (try simp only at hN ⊢);omega⟩
 ·have h:Runs toks m rest k op:=by rcases h with ⟨_,h⟩|⟨_,h⟩<;>exact h
  rw [if_neg (by rw [y01 hW (by decide),y2e hF (by decide+kernel)];decide)];exact ⟨_,_,m,rfl,h,by omega,by simp [sumN]⟩
theorem z3b (hE:TokA toks) (L:Nat) (hL:toks.length≤L) {n:Nat} {rest:List Txt} {k:Nat} {op:Int} {f:Nat} (h:Runs toks n (y6d::rest) k op) (h0:0≤op) (h1:op≤200) (h2:200<op+f):Got toks n rest op k (sumN y15) (y3k toks [123] [125] L f k):=by
 obtain ⟨m,t,rfl,ht,hA⟩:=x4s h;have hlt:k<toks.length:=(Qac.1 ht).1;have hW:=hE.wf k t ht;unfold y3k;rw [ht,Option.bind_some];rcases hA with ⟨hF,h⟩|⟨hF,h⟩
 ·obtain ⟨m1,rfl,hf,hn,hl,hop,h⟩:=h.topen hE ht;rw [if_pos (by rw [y01 hW (by decide)];exact hf)];obtain ⟨a,k',m2,e,hr,hm,hN⟩:=(z4x hE L hL 125 (.inr rfl) m1).2 rest (k+1) (op+1) f L h (by omega) (by omega) (by omega) (by omega);rw [Int.add_sub_cancel] at hr;exact ⟨a,k',m2,e,hr,by omega,by (try simp only at hN ⊢);omega⟩
 ·exact h.elim
theorem z4y (hE:TokA toks) (L:Nat) (hL:toks.length≤L) {n:Nat} {rest:List Txt} {k:Nat} {op:Int} {f:Nat} (h:Runs toks n (y6c::rest) k op) (h0:0≤op) (h1:op≤200) (h2:200<op+f):Got toks n rest op k (sumN y15) (y3k toks [123] [125] L f k):=by
 obtain ⟨m,t,rfl,ht,hA⟩:=x79 h;have hW:=hE.wf k t ht;rcases hA with ⟨hF,h⟩|⟨hF,h⟩
 ·obtain ⟨a,k',m2,e,hr,hm,hN⟩:=z3b hE L hL h h0 h1 h2;exact ⟨a,k',m2,e,hr,by omega,by (try simp only at hN ⊢);omega⟩
 ·have h:Runs toks m rest k op:=by rcases h with ⟨_,h⟩|⟨_,h⟩<;>exact h
  unfold y3k;rw [ht,Option.bind_some,if_neg (by rw [y01 hW (by decide),y2e hF (by decide+kernel)];decide)];exact ⟨_,_,m,rfl,h,by omega,by simp [sumN]⟩
end
end Go.Proofs.YtbpgkkoeehopjaaGreat.acr
