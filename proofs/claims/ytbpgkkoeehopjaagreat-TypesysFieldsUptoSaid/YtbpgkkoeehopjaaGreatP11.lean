/- Part 11 of 17 of a proof: see the last part. -/
import Derived.Test.YtbpgkkoeehopjaaGreatP4
import Derived.Test.YtbpgkkoeehopjaaGreatP5
import Derived.Test.YtbpgkkoeehopjaaGreatP8
import Derived.Test.YtbpgkkoeehopjaaGreatP10
import Derived.Deep.QuietTactic
import Derived.BigQuiet
set_option linter.unusedVariables false
set_option linter.unusedSimpArgs false
namespace Go.Proofs.YtbpgkkoeehopjaaGreat.acr
open tree gram rd dat lex
set_option maxRecDepth 100000
section
variable {toks : List TokD} (hE : TokA toks) (L : Nat) (hL : toks.length ≤ L) (f : Nat) (h2 : 200 < f)
theorem kw {t:TokD} {w:Txt} (hw: ∀t,y1m (39::w) t=((t.kind==3)&&decide (t.text=w))) (h:y1m (39::w) t=true):t.text=w:=by
 rw [hw] at h;simp only [Qao,decide_eq_true_eq] at h;exact h.2
theorem y71 {t:TokD} {w:Txt} (h:t.text=w) (hw:w≠[101,120,116,101,110,100]):isF t [101,120,116,101,110,100]=false:=by
 unfold isF;rw [h,Qa4 hw];rfl
theorem q4t {h:NoteD×Bool×TokD×Nat} (hk:h.2.2.1.text=[115,99,104,101,109,97]):y4u toks L f h=y7r toks L f h:=by
 have e:y5m [115,99,104,101,109,97]=1:=by decide+kernel
 unfold y4u;rw [hk,e];rfl
theorem q4u {h:NoteD×Bool×TokD×Nat} (hk:h.2.2.1.text=[115,99,97,108,97,114]):y4u toks L f h=y7s toks L f h:=by
 have e:y5m [115,99,97,108,97,114]=2:=by decide+kernel
 unfold y4u;rw [hk,e];rfl
theorem q4v {h:NoteD×Bool×TokD×Nat} (hk:h.2.2.1.text=[116,121,112,101]):y4u toks L f h=y3s 3 toks L f h:=by
 have e:y5m [116,121,112,101]=3:=by decide+kernel
 unfold y4u;rw [hk,e];rfl
theorem q4w {h:NoteD×Bool×TokD×Nat} (hk:h.2.2.1.text=[105,110,116,101,114,102,97,99,101]):y4u toks L f h=y3s 4 toks L f h:=by
 have e:y5m [105,110,116,101,114,102,97,99,101]=4:=by decide+kernel
 unfold y4u;rw [hk,e];rfl
theorem q4x {h:NoteD×Bool×TokD×Nat} (hk:h.2.2.1.text=[117,110,105,111,110]):y4u toks L f h=z15 toks L f h:=by
 have e:y5m [117,110,105,111,110]=5:=by decide+kernel
 unfold y4u;rw [hk,e];rfl
theorem q4y {h:NoteD×Bool×TokD×Nat} (hk:h.2.2.1.text=[101,110,117,109]):y4u toks L f h=z8l toks L f h:=by
 have e:y5m [101,110,117,109]=6:=by decide+kernel
 unfold y4u;rw [hk,e];rfl
theorem q4z {h:NoteD×Bool×TokD×Nat} (hk:h.2.2.1.text=[105,110,112,117,116]):y4u toks L f h=z16 toks L f h:=by
 have e:y5m [105,110,112,117,116]=7:=by decide+kernel
 unfold y4u;rw [hk,e];rfl
theorem q74 {h:NoteD×Bool×TokD×Nat} (hk:h.2.2.1.text=[100,105,114,101,99,116,105,118,101]):y4u toks L f h=dirF toks L f h:=by
 have e:y5m [100,105,114,101,99,116,105,118,101]=8:=by decide+kernel
 unfold y4u;rw [hk,e];rfl
theorem Got.weak {α:Type} {n n':Nat} {rest:List Txt} {op:Int} {k:Nat} {N:α→Nat} {x:Option (α×Nat)} (h:Got toks n rest op k N x) (hn:n≤n'):Got toks n' rest op k N x:=by
 obtain ⟨a,b,c,h1,h2,h3,h4⟩:=h;exact ⟨a,b,c,h1,h2,by omega,h4⟩
include hE hL h2
theorem x3m {n:Nat} {rest:List Txt} {k k0:Nat} {t:TokD} (ht:toks[k]?=some t) (hk0:k0≤k) (note:NoteD) (ext:Bool) (h:Runs toks n (x1d::rest) k 0):
  Got toks n rest 0 k0 defN (y4u toks L f (note,ext,t,k+1))∧isF t [101,120,116,101,110,100]=false∧y0w toks.length k=k+1∧t.kind=3:=by
 obtain ⟨m,t',rfl,ht',hA⟩:=q5v h
 rw [ht] at ht';injection ht' with ht';subst ht'
 have hk3: ∀w,(∀t,y1m (39::w) t=((t.kind==3)&&decide (t.text=w)))→y1m (39::w) t=true→t.kind=3:=fun w hw h=>by
  rw [hw] at h;simp only [Qao,Qa7] at h;exact h.1
 rcases hA with ⟨_,h⟩|⟨_,⟨_,h⟩|⟨_,⟨_,h⟩|⟨_,⟨_,h⟩|⟨_,⟨_,h⟩|⟨_,⟨_,h⟩|⟨_,⟨_,h⟩|⟨_,⟨_,h⟩|⟨_,h⟩⟩⟩⟩⟩⟩⟩⟩
 ·obtain ⟨m1,rfl,hf,hn,hl,h⟩:=h.t0 hE ht;have hx:=kw (fun t=>rfl) hf;rw [q4t L f hx];exact ⟨(z4d hE L hL f h2 (note,ext,t,k+1) (by simp only;omega) (st:=[y1e,y6d]) h (.inl rfl)).weak (by omega),y71 hx (by decide),hn,hk3 _ (fun t=>rfl) hf⟩
 ·obtain ⟨m1,rfl,hf,hn,hl,h⟩:=h.t0 hE ht;have hx:=kw (fun t=>rfl) hf;rw [q4u L f hx];exact ⟨(z9a hE L hL f h2 (note,ext,t,k+1) (by simp only;omega) (st:=[y1e]) h (.inl rfl)).weak (by omega),y71 hx (by decide),hn,hk3 _ (fun t=>rfl) hf⟩
 ·obtain ⟨m1,rfl,hf,hn,hl,h⟩:=h.t0 hE ht;have hx:=kw (fun t=>rfl) hf;rw [q4v L f hx];exact ⟨(z0m hE L hL f h2 (note,ext,t,k+1) (by simp only;omega) 3 (st:=[y5x,y1e,y3v]) h (.inl rfl)).weak (by omega),y71 hx (by decide),hn,hk3 _ (fun t=>rfl) hf⟩
 ·obtain ⟨m1,rfl,hf,hn,hl,h⟩:=h.t0 hE ht;have hx:=kw (fun t=>rfl) hf;rw [q4w L f hx];exact ⟨(z0m hE L hL f h2 (note,ext,t,k+1) (by simp only;omega) 4 (st:=[y5x,y1e,y3v]) h (.inl rfl)).weak (by omega),y71 hx (by decide),hn,hk3 _ (fun t=>rfl) hf⟩
 ·obtain ⟨m1,rfl,hf,hn,hl,h⟩:=h.t0 hE ht;have hx:=kw (fun t=>rfl) hf;rw [q4x L f hx];exact ⟨(x3k hE L hL f h2 (note,ext,t,k+1) (by simp only;omega) (st:=[y1e,y4w]) h (.inl rfl)).weak (by omega),y71 hx (by decide),hn,hk3 _ (fun t=>rfl) hf⟩
 ·obtain ⟨m1,rfl,hf,hn,hl,h⟩:=h.t0 hE ht;have hx:=kw (fun t=>rfl) hf;rw [q4y L f hx];exact ⟨(x9q hE L hL f h2 (note,ext,t,k+1) (by simp only;omega) (st:=[y1e,z0k]) h (.inl rfl)).weak (by omega),y71 hx (by decide),hn,hk3 _ (fun t=>rfl) hf⟩
 ·obtain ⟨m1,rfl,hf,hn,hl,h⟩:=h.t0 hE ht;have hx:=kw (fun t=>rfl) hf;rw [q4z L f hx];exact ⟨(x3l hE L hL f h2 (note,ext,t,k+1) (by simp only;omega) (st:=[y1e,y6z]) h (.inl rfl)).weak (by omega),y71 hx (by decide),hn,hk3 _ (fun t=>rfl) hf⟩
 ·obtain ⟨m1,rfl,hf,hn,hl,h⟩:=h.t0 hE ht;have hx:=kw (fun t=>rfl) hf;rw [q74 L f hx];exact ⟨(q73 hE L hL f h2 (note,ext,t,k+1) (by simp only;omega) h).weak (by omega),y71 hx (by decide),hn,hk3 _ (fun t=>rfl) hf⟩
 ·exact h.elim
theorem x9r {n:Nat} {rest:List Txt} {k k0:Nat} {t:TokD} (ht:toks[k]?=some t) (hk0:k0≤k) (note:NoteD) (ext:Bool) (h:Runs toks n (z81::rest) k 0):
  Got toks n rest 0 k0 defN (y4u toks L f (note,ext,t,k+1))∧y0w toks.length k=k+1:=by
 obtain ⟨m,t',rfl,ht',hA⟩:=q2u h
 rw [ht] at ht';injection ht' with ht';subst ht'
 rcases hA with ⟨_,h⟩|⟨_,⟨_,h⟩|⟨_,⟨_,h⟩|⟨_,⟨_,h⟩|⟨_,⟨_,h⟩|⟨_,⟨_,h⟩|⟨_,⟨_,h⟩|⟨_,h⟩⟩⟩⟩⟩⟩⟩
 ·obtain ⟨m1,rfl,hf,hn,hl,h⟩:=h.t0 hE ht;have hx:=kw (fun t=>rfl) hf;rw [q4t L f hx];obtain ⟨m2,t2,rfl,ht2,hA⟩:=x5f h;rcases hA with ⟨_,h⟩|⟨_,⟨_,h⟩|⟨_,h⟩⟩
  ·exact ⟨(z4d hE L hL f h2 (note,ext,t,k+1) (by simp only;omega) (st:=[nDIR,y1e,y9o]) h (.inr (.inl rfl))).weak (by omega),hn⟩
  ·exact ⟨(z4d hE L hL f h2 (note,ext,t,k+1) (by simp only;omega) (st:=[y6d]) h (.inr (.inr rfl))).weak (by omega),hn⟩
  ·exact h.elim
 ·obtain ⟨m1,rfl,hf,hn,hl,h⟩:=h.t0 hE ht;have hx:=kw (fun t=>rfl) hf;rw [q4u L f hx];exact ⟨(z9a hE L hL f h2 (note,ext,t,k+1) (by simp only;omega) (st:=[nDIR,y1e]) h (.inr rfl)).weak (by omega),hn⟩
 ·obtain ⟨m1,rfl,hf,hn,hl,h⟩:=h.t0 hE ht;have hx:=kw (fun t=>rfl) hf;rw [q4v L f hx];exact ⟨(z0m hE L hL f h2 (note,ext,t,k+1) (by simp only;omega) 3 (st:=[y4v]) h (.inr rfl)).weak (by omega),hn⟩
 ·obtain ⟨m1,rfl,hf,hn,hl,h⟩:=h.t0 hE ht;have hx:=kw (fun t=>rfl) hf;rw [q4w L f hx];exact ⟨(z0m hE L hL f h2 (note,ext,t,k+1) (by simp only;omega) 4 (st:=[y4v]) h (.inr rfl)).weak (by omega),hn⟩
 ·obtain ⟨m1,rfl,hf,hn,hl,h⟩:=h.t0 hE ht;have hx:=kw (fun t=>rfl) hf;rw [q4x L f hx];exact ⟨(x3k hE L hL f h2 (note,ext,t,k+1) (by simp only;omega) (st:=[z1a]) h (.inr rfl)).weak (by omega),hn⟩
 ·obtain ⟨m1,rfl,hf,hn,hl,h⟩:=h.t0 hE ht;have hx:=kw (fun t=>rfl) hf;rw [q4y L f hx];exact ⟨(x9q hE L hL f h2 (note,ext,t,k+1) (by simp only;omega) (st:=[z5s]) h (.inr rfl)).weak (by omega),hn⟩
 ·obtain ⟨m1,rfl,hf,hn,hl,h⟩:=h.t0 hE ht;have hx:=kw (fun t=>rfl) hf;rw [q4z L f hx];exact ⟨(x3l hE L hL f h2 (note,ext,t,k+1) (by simp only;omega) (st:=[z1b]) h (.inr rfl)).weak (by omega),hn⟩
 ·exact h.elim
theorem q59 {n:Nat} {rest:List Txt} {k:Nat} (h:Runs toks n (nDEF::rest) k 0):Got toks n rest 0 k defN (defF toks L f k)∧ ∃t,toks[k]?=some t∧t.kind≠0:=by
 obtain ⟨m,t,rfl,ht,hA⟩:=q7y h;have hW:=hE.wf _ t ht;unfold defF y7b;rcases hA with ⟨hF,h⟩|⟨hF0,⟨hF,h⟩|⟨_,⟨hF,h⟩|⟨_,h⟩⟩⟩
 ·have hk:=y5u hF (by decide);obtain ⟨p,m1,e,em,h'⟩:=z2r hE ht h;subst em;replace h:=h';obtain ⟨t0,ht0⟩:=h.tok;obtain ⟨hg,hx,hn,_⟩:=x3m hE L hL f h2 ht0 (by omega:k≤k+1) p false h;rw [e,Option.bind_some,ht0,Option.bind_some,hx];simp only [Bool.false_eq_true,if_false];rw [ht0,Option.bind_some,hn,Option.bind_some]
  first|exact ⟨hg.weak (by omega),t,ht,hk⟩|exact ⟨hg.weak (by omega),t,rfl,hk⟩
 ·have hk:=y5u hF (by decide);obtain ⟨hg,hx,hn,_⟩:=x3m hE L hL f h2 ht (Qab k) y2v false h;rw [y6e ht (y2o hF0 (by decide+kernel)),Option.bind_some,ht,Option.bind_some,hx];simp only [Bool.false_eq_true,if_false];rw [ht,Option.bind_some,hn,Option.bind_some]
  first|exact ⟨hg.weak (by omega),t,ht,hk⟩|exact ⟨hg.weak (by omega),t,rfl,hk⟩
 ·have hk:=y5u hF (by decide);obtain ⟨m1,rfl,hf,hn,hl,h⟩:=h.t0 hE ht;obtain ⟨t1,ht1⟩:=h.tok;obtain ⟨hg,hn1⟩:=x9r hE L hL f h2 ht1 (by omega:k≤k+1) y2v true h
  have hx:isF t [101,120,116,101,110,100]=true:=by rw [z1c hW (by decide)];exact hf
  rw [y6e ht (y2o hF0 (by decide+kernel)),Option.bind_some,ht,Option.bind_some,hx];simp only [if_true];rw [ht1,Option.bind_some,hn1,Option.bind_some]
  first|exact ⟨hg.weak (by omega),t,ht,hk⟩|exact ⟨hg.weak (by omega),t,rfl,hk⟩
 ·exact h.elim
theorem q3e: ∀n,
  (∀(k fu:Nat),Runs toks n [z80,endT] k 0→toks.length<fu+k→ ∃defs,y3t toks L f fu k=some defs∧y0e defs+k≤toks.length)∧
  (∀(k fu:Nat),Runs toks n [nDEF,z80,endT] k 0→toks.length<fu+k→ ∃defs,y3t toks L f fu k=some defs∧y0e defs+k≤toks.length):=by
 intro n
 induction n using Nat.strongRecOn with
 |_ n ih=>
  refine ⟨fun k fu h h3=>?_,fun k fu h h3=>?_⟩
  ·obtain ⟨m,t,rfl,ht,hA⟩:=q5t h;have hlt:k<toks.length:=(Qac.1 ht).1;rcases hA with ⟨hF,h⟩|⟨hF,h⟩
   ·exact (ih m (by omega)).2 k fu h h3
   ·have h:Runs toks m [endT] k 0:=by rcases h with ⟨_,h⟩|⟨_,h⟩<;>exact h
    obtain ⟨fu,rfl⟩: ∃g,fu=g+1:=⟨fu - 1,by omega⟩
    have h0:t.kind=0:=by
     unfold Runs at h
     cases m with
     |zero=>cases h
     |succ m=>
      rw [runF,ht] at h;simp only at h;rw [if_neg (by decide),if_neg (by decide)] at h
      cases hf:y1m endT t with
      |false=>rw [hf,if_pos rfl] at h;simp at h
      |true=>have:(t.kind==0)=true:=hf;simpa using this
    rw [y3t,ht,Option.bind_some,if_pos h0];exact ⟨[],rfl,by simp only [y0e,sumN];omega⟩
  ·obtain ⟨⟨a,k',m,e,hr,hm,hN⟩,t,ht,hk⟩:=q59 hE L hL f h2 h;have hlt:k<toks.length:=(Qac.1 ht).1;obtain ⟨fu,rfl⟩: ∃g,fu=g+1:=⟨fu - 1,by omega⟩;have hp:0<defN a:=Nat.succ_pos _;rw [y3t,ht,Option.bind_some,if_neg hk,e,Option.bind_some];obtain ⟨b,e2,hN2⟩:=(ih m hm).1 k' fu hr (by omega);rw [e2,Option.bind_some];exact ⟨_,rfl,by simp only [y0e,sumN] at hN2 ⊢;omega⟩
theorem q6a {n:Nat} (h:Runs toks n [nDOC] 0 0) (hL1:toks.length<L): ∃defs,y3t toks L f L 0=some defs∧y0e defs≤toks.length:=by
 obtain ⟨m,t,rfl,ht,hA⟩:=q7x h;rcases hA with ⟨hF,h⟩|⟨_,h⟩
 ·obtain ⟨d,e,hN⟩:=(q3e hE L hL f h2 m).2 0 L h (by omega);exact ⟨d,e,by omega⟩
 ·exact h.elim
end
end Go.Proofs.YtbpgkkoeehopjaaGreat.acr
namespace Go.Proofs.YtbpgkkoeehopjaaGreat.tot
open Go.RowKit words enc utf ln tree gram rd dat lex acr
set_option maxRecDepth 100000
structure Src (s:List Int) (N:Nat):Prop where
 at_: ∀i,i≤N→ ∃z,s[i]?=some z
 pos: ∀i z,s[i]?=some z→0≤z→i<N
theorem q3f (zs:List Int) (b:Bool):Src (y57 zs b) zs.length:=by
 have hl:zs.length+1≤(y57 zs b).length:=by unfold y57;cases b<;>simp
 refine ⟨fun i hi=>⟨_,Qad (by omega)⟩,fun i z hz h0=>Nat.lt_of_not_le fun hi=>?_⟩;unfold y57 at hz;rw [Qat,Qba (by simpa using hi)] at hz;have hm:=Qaf hz
 cases b<;>simp at hm<;>omega
theorem z2d {c:Int} {t:Txt} (h:inF c t=true):0≤c:=by
 unfold inF at h;obtain ⟨b,_,hb⟩:=Qbh.1 h;have:=Qa6 hb;omega
theorem q6b {c:Int} {t:Txt} (h:inF c t=true) (ht:(t.all fun b=>decide (b.toNat<128))=true):c<128:=by
 unfold inF at h;obtain ⟨b,hm,hb⟩:=Qbh.1 h;have h1:=Qa6 hb;have h2:=Qa6 (Qbi.1 ht b hm);omega
theorem q3g {c:Int} (h:z6r c=true):0≤c:=by
 unfold z6r at h;rcases Bool.or_eq_true_iff.1 h with h|h
 ·exact z2d h
 ·exact z2d h
theorem x9s {c:Int} (h:z47 c=true):0≤c:=by
 unfold z47 at h;rcases Bool.or_eq_true_iff.1 h with h|h
 ·have:c=65279:=by simpa using h
  omega
 ·exact z2d h
theorem z0n {s:List Int} {i:Nat} {c:Int} (h:y30 s i c=true):s[i]?=some c∧s[i+1]?=some c∧s[i+2]?=some c:=Qa6 h
section
variable {s : List Int} {N : Nat} (hS : Src s N)
include hS
theorem z7h: ∀(f i:Nat),i≤N→N<i+f→ ∃j,z4y s f i=some j∧i≤j∧j≤N
 |0,i,h1,h2=>by omega
 |f+1,i,h1,h2=>by
  obtain ⟨z,hz⟩:=hS.at_ i h1;rw [z4y,hz];dsimp only;split
  ·rename_i hr;have hi:=hS.pos i z hz (q3g hr);obtain ⟨j,e,h3,h4⟩:=z7h f (i+1) (by omega) (by omega);exact ⟨j,e,by omega,h4⟩
  ·exact ⟨i,rfl,Qab _,h1⟩
theorem x9t: ∀(f i:Nat),i≤N→N<i+f→ ∃j,comF s f i=some j∧i≤j∧j≤N
 |0,i,h1,h2=>by omega
 |f+1,i,h1,h2=>by
  obtain ⟨z,hz⟩:=hS.at_ i h1;rw [comF,hz];dsimp only;split
  ·rename_i hr;have hi:=hS.pos i z hz hr.1;obtain ⟨j,e,h3,h4⟩:=x9t f (i+1) (by omega) (by omega);exact ⟨j,e,by omega,h4⟩
  ·exact ⟨i,rfl,Qab _,h1⟩
theorem x1q: ∀(f i:Nat),i≤N→N+1<i+f→ ∃j,behF s f i=some j∧i≤j∧j≤N
 |0,i,h1,h2=>by omega
 |f+1,i,h1,h2=>by
  obtain ⟨z,hz⟩:=hS.at_ i h1;rw [behF,hz];dsimp only;split
  ·rename_i hr;have hi:=hS.pos i z hz (x9s hr);obtain ⟨j,e,h3,h4⟩:=x1q f (i+1) (by omega) (by omega);exact ⟨j,e,by omega,h4⟩
  ·split
   ·rename_i h35;have hi:=hS.pos i z hz (by omega);obtain ⟨f,rfl⟩: ∃g,f=g+1:=⟨f - 1,by omega⟩
    have e1:comF s (f+1) i=comF s f (i+1):=by rw [comF,hz];dsimp only;rw [if_pos (by omega)]
    obtain ⟨j,e,h3,h4⟩:=x9t hS f (i+1) (by omega) (by omega);rw [e1,e];dsimp only;obtain ⟨q,e2,h5,h6⟩:=x1q (f+1) j (by omega) (by omega);exact ⟨q,e2,by omega,h6⟩
   ·exact ⟨i,rfl,Qab _,h1⟩
theorem x1r (i:Nat): ∀(f j:Nat),j≤N→N<j+f→ ∃r,blkF s i f j=some r∧(r=i∨(j+3≤r∧r≤N))
 |0,j,h1,h2=>by omega
 |f+1,j,h1,h2=>by
  obtain ⟨z,hz⟩:=hS.at_ j h1;rw [blkF,hz];dsimp only;split
  ·exact ⟨i,rfl,.inl rfl⟩
  ·rename_i h0;have hj:=hS.pos j z hz (by omega);split
   ·rename_i h3;have h4:=hS.pos _ _ (z0n h3.2).2.2 (by omega);obtain ⟨r,e,h5⟩:=x1r i f (j+4) (by omega) (by omega);exact ⟨r,e,by omega⟩
   ·split
    ·rename_i h3;have h4:=hS.pos _ _ (z0n h3).2.2 (by omega);exact ⟨j+3,rfl,.inr ⟨Qab _,by omega⟩⟩
    ·obtain ⟨r,e,h5⟩:=x1r i f (j+1) (by omega) (by omega);exact ⟨r,e,by omega⟩
theorem x1s (i:Nat): ∀(f j:Nat),j≤N→N<j+f→ ∃r,quoF s i f j=some r∧(r=i∨(j+1≤r∧r≤N))
 |0,j,h1,h2=>by omega
 |f+1,j,h1,h2=>by
  obtain ⟨z,hz⟩:=hS.at_ j h1;rw [quoF,hz];dsimp only;split
  ·rename_i h0;have hj:=hS.pos j z hz h0.1;split
   ·exact ⟨j+1,rfl,.inr ⟨Qab _,by omega⟩⟩
   ·split
    ·obtain ⟨y,hy⟩:=hS.at_ (j+1) (by omega);rw [hy];dsimp only;split
     ·exact ⟨i,rfl,.inl rfl⟩
     ·rename_i h3;have h4:=hS.pos _ _ hy (by omega);obtain ⟨r,e,h5⟩:=x1s i f (j+2) (by omega) (by omega);exact ⟨r,e,by omega⟩
    ·obtain ⟨r,e,h5⟩:=x1s i f (j+1) (by omega) (by omega);exact ⟨r,e,by omega⟩
  ·exact ⟨i,rfl,.inl rfl⟩
def Good (N i:Nat) (r:Nat×Int×Txt) (P:Int→Prop):Prop:=(r.1=i∧(r.2.1=0∨r.2.1=1))∨(i<r.1∧r.1≤N∧P r.2.1)
theorem q3h (hN:s.length≤N+2) (f i:Nat) (hi:i<N) (hf:N<i+f): ∃r,x70 s f i=some r∧Good N i r fun k=>k=6∨k=7:=by
 have hlen:N<s.length:=by obtain ⟨z,hz⟩:=hS.at_ N (Qab _);exact (Qac.1 hz).1
 unfold x70;split
 ·rename_i h3;have h4:=hS.pos _ _ (z0n h3).2.2 (by omega);obtain ⟨j,e,hj⟩:=x1r hS i f (i+3) (by omega) (by omega);rw [e];dsimp only;split
  ·exact ⟨_,rfl,.inl ⟨rfl,.inr rfl⟩⟩
  ·rw [if_pos (by omega)];split
   ·exact ⟨_,rfl,.inr ⟨by dsimp only;omega,by dsimp only;omega,.inr rfl⟩⟩
   ·exact ⟨_,rfl,.inl ⟨rfl,.inr rfl⟩⟩
 ·obtain ⟨j,e,hj⟩:=x1s hS i f (i+1) (by omega) (by omega);rw [e];dsimp only;split
  ·exact ⟨_,rfl,.inl ⟨rfl,.inr rfl⟩⟩
  ·rw [if_pos (by omega)];split
   ·exact ⟨_,rfl,.inr ⟨by dsimp only;omega,by dsimp only;omega,.inl rfl⟩⟩
   ·exact ⟨_,rfl,.inl ⟨rfl,.inr rfl⟩⟩
omit hS in
theorem z1g: ∀(l:List Int) (m k:Nat) (st:Int) (e:Nat) (f:Int) (z:Int),e≤k→l[m]?=some z→z<43→(y4l l k st e f).1≤k+m
 |[],m,k,st,e,f,z,h,hz,h2=>by simp at hz
 |c::r,0,k,st,e,f,z,h,hz,h2=>by
  simp only [List.getElem?_cons_zero,Option.some.injEq] at hz;subst hz;rw [y4l,if_pos (Int.lt_of_not_ge fun h0=>by have:=lex.step_end h0;omega)];exact h
 |c::r,m+1,k,st,e,f,z,h,hz,h2=>by
  rw [y4l];split
  ·dsimp only;omega
  ·split
   ·have:=z1g r m (k+1) (y4k st c) (k+1) (x0n (y4k st c)) z (Qab _) (by simpa using hz) h2;omega
   ·have:=z1g r m (k+1) (y4k st c) e f z (by omega) (by simpa using hz) h2;omega
theorem q6c (i:Nat) (hi:i≤N):Good N i ((numF s i).1,(numF s i).2,[]) fun k=>k=4∨k=5:=by
 obtain ⟨zN,hzN⟩:=hS.at_ N (Qab _)
 have hneg:zN<0:=Int.lt_of_not_ge fun h=>by have:=hS.pos N zN hzN h;omega
 have hb:=z1g (s.drop i) (N - i) i 0 i 0 zN (Qab _) (by rw [Qbc,show i+(N - i)=N by omega];exact hzN) (by omega);have hg:=y96 (s.drop i) i 0 i 0 (Qab _);obtain ⟨p,hp⟩: ∃p,z4z s i=p:=⟨_,rfl⟩;have hp2:y4l (s.drop i) i 0 i 0=p:=hp;rw [hp2] at hb hg;unfold numF;rw [hp];split
 ·exact .inl ⟨rfl,.inr rfl⟩
 ·split
  ·exact .inl ⟨rfl,.inr rfl⟩
  ·rename_i h;refine .inr ⟨by dsimp only;omega,by dsimp only;omega,?_⟩;dsimp only;split
   ·exact .inl rfl
   ·exact .inr rfl
def q40 (z:Int) (k:Int):Prop:=(y80 z=true∧k=3)∨((y7f z=true∨z=45)∧(k=4∨k=5))∨(z=34∧(k=6∨k=7))∨(y80 z=false∧0≤z∧z<128∧k=2)
theorem q6d (hN:s.length≤N+2) (f i:Nat) (hi:i≤N) (hf:N<i+f): ∃r z,oneF s f i=some r∧s[i]?=some z∧Good N i r (q40 z):=by
 obtain ⟨z,hz⟩:=hS.at_ i hi;unfold oneF;rw [hz];dsimp only;split
 ·exact ⟨_,z,rfl,rfl,.inl ⟨rfl,.inl rfl⟩⟩
 ·split
  ·rename_i hst;have hlt:=hS.pos i z hz (z2d hst);obtain ⟨j,e,h1,h2⟩:=z7h hS f i hi hf
   have hj:i<j:=by
    obtain ⟨g,rfl⟩: ∃g,f=g+1:=⟨f - 1,by omega⟩;rw [z4y,hz] at e;dsimp only at e;rw [if_pos (by unfold z6r;unfold y80 at hst;rw [hst];rfl)] at e;obtain ⟨j',e',h3,h4⟩:=z7h hS g (i+1) (by omega) (by omega);rw [e'] at e;injection e with e;omega
   rw [e];exact ⟨_,z,rfl,rfl,.inr ⟨hj,h2,.inl ⟨hst,rfl⟩⟩⟩
  ·rename_i hst
   have hst:y80 z=false:=by cases h:y80 z with|true=>exact absurd h hst|false=>rfl
   split
   ·rename_i hd;refine ⟨_,z,rfl,rfl,?_⟩;rcases q6c hS i hi with h|⟨h1,h2,h3⟩
    ·exact .inl h
    ·exact .inr ⟨h1,h2,.inr (.inl ⟨hd,h3⟩)⟩
   ·split
    ·rename_i h34;have hlt:=hS.pos i z hz (by omega);obtain ⟨r,e,h⟩:=q3h hS hN f i hlt hf;refine ⟨r,z,e,rfl,?_⟩;rcases h with h|⟨h1,h2,h3⟩
     ·exact .inl h
     ·exact .inr ⟨h1,h2,.inr (.inr (.inl ⟨h34,h3⟩))⟩
    ·have hp: ∃j,z49 s i=some j∧i≤j∧(i<j→j≤N∧0≤z∧z<128):=by
      unfold z49;rw [hz];dsimp only;split
      ·rename_i hm;have:=hS.pos i z hz (z2d hm);exact ⟨_,rfl,by omega,fun _=>⟨by omega,z2d hm,q6b hm (by decide)⟩⟩
      ·split
       ·rename_i h3;have:=hS.pos _ _ (z0n h3).2.2 (by omega);have h46:=(z0n h3).1;rw [hz] at h46;injection h46 with h46;exact ⟨_,rfl,by omega,fun _=>⟨by omega,by omega,by omega⟩⟩
       ·exact ⟨_,rfl,by omega,fun h=>by omega⟩
     obtain ⟨j,e,h1,h2⟩:=hp;rw [e];dsimp only;split
     ·rename_i hj;exact ⟨_,z,rfl,rfl,.inr ⟨hj,(h2 hj).1,.inr (.inr (.inr ⟨hst,(h2 hj).2.1,(h2 hj).2.2,rfl⟩))⟩⟩
     ·exact ⟨_,z,rfl,rfl,.inl ⟨rfl,.inr rfl⟩⟩
end
theorem x55 {z:Int} (h0:0≤z) (h1:z<128) (r:List Int):(encS (z::r)).data.toList=[]∨ ∃t,(encS (z::r)).data.toList=UInt8.ofNat z.toNat::t:=by
 unfold encS;split
 ·right
  have he:Lib.encodeRuneZ z=[z]:=by unfold Lib.encodeRuneZ;rw [if_pos (by omega)]
  unfold encL;rw [List.flatMap_cons,he];exact ⟨_,rfl⟩
 ·exact .inl rfl
theorem q8y {z:Int} {r:List Int} {t:TokD} (ht:t.text=(encS (z::r)).data.toList) (hk:q40 z t.kind):TokW t:=by
 have key: ∀(b:UInt8) (x:Txt),0≤z→z<128→t.text=b::x→z=(b.toNat:Int):=fun b x h0 h1 h=>by
  rcases x55 h0 h1 r with e|⟨y,e⟩
  ·rw [ht,e] at h;cases h
  ·rw [ht,e] at h;injection h with h _;rw [←h,UInt8.toNat_ofNat'];have:z.toNat % 2 ^ 8=z.toNat:=Nat.mod_eq_of_lt (by omega);omega
 rcases hk with ⟨hs,h3⟩|⟨hd,h4⟩|⟨_,h6⟩|⟨hs,hz0,hz1,h2⟩
 ·refine ⟨fun p hp he=>?_,fun w hw he=>.inl h3⟩;have hz:=key p [] (z2d hs) (q6b hs (by decide)) he
  have: ∀p∈([33,38,40,41,58,61,64,91,93,123,124,125]:Txt),y80 (p.toNat:Int)=false:=by decide+kernel
  rw [hz,this p hp] at hs;cases hs
 ·have hb:0≤z∧z<128:=by
   rcases hd with hd|hd
   ·exact ⟨z2d hd,q6b hd (by decide)⟩
   ·omega
  refine ⟨fun p hp he=>?_,fun w hw he=>?_⟩
  ·have hz:=key p [] hb.1 hb.2 he
   have: ∀p∈([33,38,40,41,58,61,64,91,93,123,124,125]:Txt),y7f (p.toNat:Int)=false∧p≠45:=by decide+kernel
   obtain ⟨q1,q2⟩:=this p hp;rcases hd with hd|hd
   ·rw [hz,q1] at hd;cases hd
   ·exact absurd (Qb2.1 (show p.toNat=(45:UInt8).toNat by have:(45:UInt8).toNat=45:=rfl;omega)) q2
  ·have: ∀w∈([[101,120,116,101,110,100],[105,109,112,108,101,109,101,110,116,115],[114,101,112,101,97,116,97,98,108,101],[111,110]]:List Txt),∃b x,w=b::x∧y7f (b.toNat:Int)=false∧b.toNat≠45:=by
    intro w hw;simp only [Qbd,List.mem_nil_iff,or_false] at hw;rcases hw with rfl|rfl|rfl|rfl
    all_goals exact ⟨_,_,rfl,by decide+kernel,by decide⟩
   obtain ⟨b,x,e,q1,q2⟩:=this w hw;have hz:=key b x hb.1 hb.2 (he.trans e);rcases hd with hd|hd
   ·rw [hz,q1] at hd;cases hd
   ·omega
 ·exact ⟨fun p hp he=>.inr h6,fun w hw he=>.inr h6⟩
 ·refine ⟨fun p hp he=>.inl h2,fun w hw he=>?_⟩
  have: ∀w∈([[101,120,116,101,110,100],[105,109,112,108,101,109,101,110,116,115],[114,101,112,101,97,116,97,98,108,101],[111,110]]:List Txt),∃b x,w=b::x∧y80 (b.toNat:Int)=true:=by
   intro w hw;simp only [Qbd,List.mem_nil_iff,or_false] at hw;rcases hw with rfl|rfl|rfl|rfl
   all_goals exact ⟨_,_,rfl,by decide+kernel⟩
  obtain ⟨b,x,e,q1⟩:=this w hw;have hz:=key b x hz0 hz1 (he.trans e);rw [hz,q1] at hs;cases hs
theorem x9u {zs s:List Int} (hS:Src s zs.length) (hN:s.length≤zs.length+2) (f i:Nat) (hi:i≤zs.length) (hf:zs.length+1<i+f):
  ∃t too,z1z zs s f i=some t∧t.stop=((too:Nat):Int)∧TokW t∧(((t.kind=0∨t.kind=1))∨(i<too∧too≤zs.length∧ ¬(t.kind=0∨t.kind=1))):=by
 obtain ⟨a,e,h1,h2⟩:=x1q hS f i hi hf;obtain ⟨r,z,e2,hz,h3⟩:=q6d hS hN f a h2 (by omega)
 have hlen:zs.length<s.length:=by obtain ⟨z,hz⟩:=hS.at_ zs.length (Qab _);exact (Qac.1 hz).1
 have hr1:a≤r.1∧r.1≤s.length∧a≤zs.length:=by rcases h3 with h|h<;>omega
 unfold z1z;rw [e];dsimp only;rw [e2];dsimp only;rw [if_pos hr1];refine ⟨_,r.1,rfl,rfl,?_,?_⟩
 ·rcases h3 with ⟨q1,q2⟩|⟨q1,q2,q3⟩
  ·have hsub:(s.drop a).take (r.1 - a)=[]:=by rw [q1,Nat.sub_self];rfl
   rw [hsub];have hE:(encS []).data.toList=[]:=rfl;refine ⟨fun p hp he=>?_,fun w hw he=>?_⟩
   ·exact absurd (hE.symm.trans he) (by simp)
   ·have e0:=hE.symm.trans he;subst e0;exact absurd hw (by decide)
  ·have hsub: ∃rr,(s.drop a).take (r.1 - a)=z::rr:=by
    obtain ⟨ha,hza⟩:=Qac.1 hz;rw [Qa1 ha,hza,show r.1 - a=(r.1 - a - 1)+1 by omega,List.take_succ_cons];exact ⟨_,rfl⟩
   obtain ⟨rr,hrr⟩:=hsub;rw [hrr];exact q8y (r:=rr) rfl q3
 ·rcases h3 with ⟨q1,q2⟩|⟨q1,q2,q3⟩
  ·exact .inl q2
  ·refine .inr ⟨by omega,q2,?_⟩;dsimp only
   rcases q3 with ⟨_,h⟩|⟨_,h⟩|⟨_,h⟩|⟨_,_,_,h⟩<;>omega
theorem x3n {zs s:List Int} (hS:Src s zs.length) (hN:s.length≤zs.length+2) (hz:zs.length≤3000000) (fB:Nat) (hf:zs.length+1<fB): ∀(fu i:Nat),i≤zs.length→zs.length<i+fu→
  ∃l:List TokD,z61 zs s fB fu i=some l∧l≠[]∧l.length+i≤zs.length+1∧(∀(k:Nat) (t:TokD),l[k]?=some t→((t.kind=0∨t.kind=1)↔k+1=l.length))∧ ∀(k:Nat) (t:TokD),l[k]?=some t→TokW t
 |0,i,h1,h2=>by omega
 |fu+1,i,h1,h2=>by
  obtain ⟨t,too,e,e2,hW,h3⟩:=x9u hS hN fB i h1 (by omega);rw [z61,e];dsimp only;by_cases hk:t.kind=0∨t.kind=1
  ·rw [if_pos hk];refine ⟨[t],rfl,by simp,by simp;omega,fun k t' ht=>?_,fun k t' ht=>?_⟩
   ·cases k with
    |zero=>simp only [List.getElem?_cons_zero,Option.some.injEq] at ht;subst ht;simp [hk]
    |succ k=>simp at ht
   ·cases k with
    |zero=>simp only [List.getElem?_cons_zero,Option.some.injEq] at ht;subst ht;exact hW
    |succ k=>simp at ht
  ·obtain ⟨q1,q2,q3⟩:i<too∧too≤zs.length∧ ¬(t.kind=0∨t.kind=1):=by rcases h3 with h|h;exact absurd h hk;exact h
   rw [if_neg hk,if_neg (by omega),e2,Int.toNat_natCast];obtain ⟨l,e3,g1,g2,g3,g4⟩:=x3n hS hN hz fB hf fu too q2 (by omega);rw [e3];dsimp only;have hl:0<l.length:=Qbt.2 g1;refine ⟨t::l,rfl,by simp,by simp;omega,fun k t' ht=>?_,fun k t' ht=>?_⟩
   ·cases k with
    |zero=>
     simp only [List.getElem?_cons_zero,Option.some.injEq] at ht;subst ht;simp only [List.length_cons];exact ⟨fun h=>absurd h hk,fun h=>by omega⟩
    |succ k=>
     have:=g3 k t' (by simpa using ht);simp only [List.length_cons];rw [this];omega
   ·cases k with
    |zero=>simp only [List.getElem?_cons_zero,Option.some.injEq] at ht;subst ht;exact hW
    |succ k=>exact g4 k t' (by simpa using ht)
theorem x56 (src:Txt) (h:src.length≤2200000): ∃toks,y5a src=some toks∧TokA toks∧1≤toks.length∧toks.length≤src.length+1:=by
 have h1:=x2p src;have h2:=x7j src;unfold y5a;obtain ⟨l,e,g1,g2,g3,g4⟩:=x3n (q3f (decF src).1 (decide ((decF src).2=src.length))) (by unfold y57;split<;>simp) (by omega) (src.length+3) (by omega) (src.length+3) 0 (by omega) (by omega);exact ⟨l,e,⟨⟨g3⟩,g4⟩,Qbt.2 g1,by omega⟩
end Go.Proofs.YtbpgkkoeehopjaaGreat.tot
namespace Go.Proofs.YtbpgkkoeehopjaaGreat.hp
open Go.RowKit words enc tree gram lex rd dec dat held acr tot
set_option maxRecDepth 100000
set_option maxHeartbeats 40000000
attribute [local go_sem ↓] Go.wp_at_zero Go.wp_at_succ
section
variable {w0 w K : World} {M : List Ent}
theorem q3i {A:Option Addr} {n c:Nat} {src:List UInt8} (H:Hp w0 w K M) (hr:Rd K K.heap.size A (Lib.byteCells src)) (hn:src.length=n) (hnc:n≤c) (hcm:c≤maxLen) (h63:n≤2200000)
  {toks:List TokD} (ht:y5a src=some toks) (hnl:toks.length≤3000000) {nf bf fr:Nat} (hfr:fr≤1000000000) {e p1 p2:Int} (hrun:runF rulesG nf bf toks 200 fr [[68,79,67]] 0 0=some (e,p1,p2)) (he:e≠0):
  Calls Tryz.prog 55 #[.slice A n c,.int .i64 200] w fun en w'=>∃K' g,en= .returned (.tuple #[.slice none 0 0,.agg #[.int .i64 e,.slice (some ⟨g,0,none⟩) 1 1,.slice none 0 0]])∧Sat K' K∧Hp w0 w' K' M:=by
 have HRUN:=hide hrun;have HT:=hide ht;have hgram:=fun w=>z3v w;rw [x26] at hgram
 have hb0:((e:Int) !=0)=true:=by rw [Qa8];exact he
 clear hrun ht he;go_enter Tryz.func55,Tryz.ntmps55
 go_upto_region 5 with (first|(refine oA 5 H ?_;clear H;intro w gz H)|(refine oL H ?_)|(refine oP H ?_;clear H;intro w _ H))
 go_wp2_with fail
 refine (z5i x25 A n c w.heap.size src w (Rd.sat hr (Qab _) H.sat) (Qab _) hn hnc hcm h63 toks HT.out).mono ?_;rintro en w1 ⟨vt,rfl,hrt,hb1⟩;obtain ⟨At,ct,ust,rfl,hnt,hct,_,_⟩:=y0m hrt;obtain ⟨K1,hle1,H1,hdt⟩:=H.fresh1 hb1 hrt;clear H hrt hb1
 go_wp2_with fail
 refine (hgram w1).mono ?_;rintro en w2 ⟨vg,rfl,hrg,hb2⟩;obtain ⟨Ag,cg,usg,rfl,_,_,_,_⟩:=y0m hrg;have H2:=H1.below hb2;clear H1 hb2
 go_wp2_with fail
 refine (z8o w2.heap.size linesG Ag 52 cg w2 hrg (Qab _) x28 (by decide)).mono ?_;rintro en w3 ⟨vr,rfl,hrr,hb3⟩;rw [x27,show linesG.length=rulesG.length from rfl] at hrr;obtain ⟨Ar,cr,usr,rfl,_,_,_,_⟩:=y0m hrr;have H3:=H2.below hb3;clear H2 hb3 hrg;have hcall:=x75 w3.heap.size rulesG Ar At rulesG.length cr toks.length ct [68,79,67] toks 200 nf bf fr (e,p1,p2) w3 hrr (RD.lo hdt H3) (Qab _) (by omega) (by omega) hfr HRUN.out;clear hrr
 go_wp2_with fail
 refine hcall.mono ?_;rintro en w4 ⟨rfl,hb4⟩;have H:=H3.below hb4;clear hcall H3 hb4 hgram HRUN HT;obtain ⟨nt,hnt2⟩: ∃x,toks.length=x:=⟨_,rfl⟩;rw [hnt2] at hnl ⊢;clear hdt hnt2 hnt hct
 go_upto_region 8 with (first|(refine oL H ?_)|(refine oP H ?_;clear H;intro w _ H))
 refine rB [5] H ?_;clear H;intro w H;refine rT 0 H ?_;refine rT 1 H ?_;refine rT 4 H ?_;refine rW 2 H ?_;clear H;intro w g2 H;refine rT 3 H ?_;refine rL 5 H ?_;clear H;intro w _ H;refine rE ?_
 go_wp2_with (first|(refine oL H ?_)|(refine oP H ?_;clear H;intro w _ H))
 refine oB3 H ?_;exact ⟨K1,_,rfl,hle1,H.fin⟩
theorem q6e (H:Hp w0 w K M) {src:Txt} (hlen:src.length≤2200000) {toks:List TokD} (ht:y5a src=some toks) (hnl:toks.length≤3000000) {nf bf fr:Nat} (hfr:fr≤1000000000) {e p1 p2:Int} (hrun:runF rulesG nf bf toks 200 fr [[68,79,67]] 0 0=some (e,p1,p2)) (he:e≠0):
  Calls Tryz.prog 13 #[.string (str src)] w fun en w'=>∃K',en= .returned (.slice none 0 0)∧Sat K' K∧Hp w0 w' K' M:=by
 obtain ⟨cb,w1,hrunc,hb1,hc1,hc2,hrd,hs1⟩:=z5p (P:=Tryz.prog) w 9 86 5 src Tryz.underlying9 Tryz.underlying86 Tryz.underlying5 (by simp only [maxLen];omega);obtain ⟨K1,hle1,H1,hk,-⟩:=H.fresh hb1
 have hr1:Rd K1 K1.heap.size (some ⟨w.heap.size,0,none⟩) (Lib.byteCells src):=fun hn=>by
  obtain ⟨ad,e,hb,hc⟩:=hrd hn;injection e with e;subst e;have h0:=hk w.heap.size (Qab _)
  have hlt:w.heap.size<w1.heap.size:=by omega
  refine ⟨_,rfl,?_,fun j u hu=>?_⟩
  ·rw [Qbq hlt] at h0;exact (Qan.1 h0).1
  ·have:=hc j u hu
   have e1:(⟨w.heap.size,0,none⟩:Addr).add j=⟨w.heap.size,j,none⟩:=by unfold Addr.add;by_cases h:j=0<;>simp [h]
   rw [e1] at this ⊢;exact (World.cell?_of_block h0).trans this
 have hcall:=q3i H1 hr1 rfl hc1 hc2 hlen ht hnl hfr hrun he
 have hb0:((e:Int) !=0)=true:=by rw [Qa8];exact he
 clear ht hrun hk hr1 hrd H H1 he;go_enter Tryz.func13,Tryz.ntmps13
 go_wp2_with (first|(refine hcall.mono ?_;rintro en w ⟨K2,g,rfl,hle2,H⟩)|(refine oL H ?_)|(refine oP H ?_;clear H;intro w _ H))
 go_ret;exact ⟨K2,rfl,hle2.trans hle1,H.fin⟩
end
def z1h (src:Txt):List DefD:=match y5a src with
 |none=>[]
 |some toks=>if runF rulesG nfG bfG toks 200 800000000 [nDOC] 0 0=some (0,0,0) then (y3t toks 3000000 300 3000000 0).getD [] else []
theorem z4e (R:List RuleD) (nf bf:Nat) (toks:List TokD) (depth:Int): ∀(f:Nat) (st:List Txt) (k:Nat) (op:Int) (r:Int×Int×Int),runF R nf bf toks depth f st k op=some r→r=(0,0,0)∨r.1≠0
 |0,_,_,_,r,h=>by cases h
 |f+1,[],k,op,r,h=>by injection h with h;exact .inl h.symm
 |f+1,s::st,k,op,r,h=>by
  rw [runF] at h;split at h
  ·cases h
  ·split at h
   ·cases h
   ·split at h
    ·split at h
     ·cases h
     ·split at h
      ·cases h
      ·exact z4e R nf bf toks depth f _ _ _ r h
     ·injection h with h;subst h;exact .inr (by simp)
    ·split at h
     ·injection h with h;subst h;exact .inr (by simp)
     ·split at h
      ·injection h with h;subst h;exact .inr (by simp)
      ·exact z4e R nf bf toks depth f _ _ _ r h
theorem y8l (src:Txt) (hlen:src.length≤2200000): ∃toks,y5a src=some toks∧TokA toks∧toks.length≤src.length+1∧
  ((runF rulesG nfG bfG toks 200 800000000 [nDOC] 0 0=some (0,0,0)∧y3t toks 3000000 300 3000000 0=some (z1h src)∧y0e (z1h src)≤toks.length)∨
   (∃e p1 p2,e≠0∧runF rulesG nfG bfG toks 200 800000000 [nDOC] 0 0=some (e,p1,p2)∧z1h src=[])):=by
 obtain ⟨toks,e,hA,h1,h2⟩:=x56 src hlen;have hphi:phi toks [nDOC] 0≤[nDOC].length+200*(toks.length - 0):=x3c (by intro s hs;obtain rfl:=Qax.1 hs;decide+kernel) (by omega);have hl1:[nDOC].length=1:=rfl;rw [hl1] at hphi;obtain ⟨r,hr⟩:=z0j toks 200 hA.toTokE 800000000 [nDOC] 0 0 (by omega) (by intro s hs;obtain rfl:=Qax.1 hs;decide+kernel) (by omega) (by omega);refine ⟨toks,e,hA,h2,?_⟩
 have hdef:z1h src=if runF rulesG nfG bfG toks 200 800000000 [nDOC] 0 0=some (0,0,0) then (y3t toks 3000000 300 3000000 0).getD [] else []:=by unfold z1h;rw [e]
 rcases z4e _ _ _ _ _ _ _ _ _ r hr with rfl|h0
 ·left;obtain ⟨defs,hd,hN⟩:=q6a hA 3000000 (by omega) 300 (by omega) hr (by omega);rw [if_pos hr,hd,Option.getD_some] at hdef;rw [hdef];exact ⟨hr,hd,hN⟩
 ·right;obtain ⟨e0,p1,p2⟩:=r;refine ⟨e0,p1,p2,h0,hr,?_⟩;rw [hdef,if_neg (fun h=>by rw [hr] at h;injection h with h;injection h with h _;exact h0 h)]
section
variable {w0 w K : World} {M : List Ent}
theorem q3j (H:Hp w0 w K M) (src:Txt) (hlen:src.length≤2200000):
  Calls Tryz.prog 13 #[.string (str src)] w fun e w'=>∃K' A' c',e= .returned (.slice A' (z1h src).length c')∧Sat K' K∧Hp w0 w' K' M∧RD K' (.list (z1h src).length (y0q (z1h src))) (.slice A' (z1h src).length c'):=by
 obtain ⟨toks,e,hA,h2,⟨hr,hd,hN⟩|⟨e0,p1,p2,h0,hr,hd⟩⟩:=y8l src hlen
 ·exact x8p H ⟨hlen,toks,nfG,bfG,800000000,3000000,300,e,by omega,by omega,hr,by omega,hd⟩ rfl
 ·refine (q6e H hlen e (by omega) (by omega) hr h0).mono ?_;rintro en w' ⟨K',rfl,hs,H⟩;rw [hd];exact ⟨K',none,0,rfl,hs,H,.nil (Qab _)⟩
theorem q75 (src:Txt) (hlen:src.length≤2200000):y0e (z1h src)≤src.length+1:=by
 obtain ⟨toks,e,hA,h2,⟨hr,hd,hN⟩|⟨e0,p1,p2,h0,hr,hd⟩⟩:=y8l src hlen
 ·omega
 ·rw [hd];exact Qak _
end
end Go.Proofs.YtbpgkkoeehopjaaGreat.hp
namespace Go.Proofs.YtbpgkkoeehopjaaGreat.hp
open Go.RowKit
theorem z43:((Tryz.prog.info? 43).bind (·.zero)).map (·.cells)=some #[.int .i64 0,.bool false,.bool false,.bool false,.string ⟨#[]⟩,.string ⟨#[]⟩,.slice none 0 0,.slice none 0 0,.slice none 0 0,.slice none 0 0,.slice none 0 0,.slice none 0 0,.slice none 0 0,.bool false,.slice none 0 0,.int .i64 0,.int .i64 0]:=by kernel_rfl
theorem z50:((Tryz.prog.info? 50).bind (·.zero)).map (·.cells)=some #[.string ⟨#[]⟩,.string ⟨#[]⟩]:=by kernel_rfl
theorem z52:((Tryz.prog.info? 52).bind (·.zero)).map (·.cells)=some #[.bool false,.bool false,.string ⟨#[]⟩,.string ⟨#[]⟩,.slice none 0 0,.string ⟨#[]⟩,.string ⟨#[]⟩,.slice none 0 0,.int .i64 0,.int .i64 0]:=by kernel_rfl
theorem z100:((Tryz.prog.info? 100).bind (·.zero)).map (·.cells)=some #[.int .i64 0,.string ⟨#[]⟩,.int .i64 0,.int .i64 0]:=by kernel_rfl
theorem z113:((Tryz.prog.info? 113).bind (·.zero)).map (·.cells)=some #[.string ⟨#[]⟩,.int .i64 0,.int .i64 0]:=by kernel_rfl
theorem z121:((Tryz.prog.info? 121).bind (·.zero)).map (·.cells)=some #[.int .i64 0,.string ⟨#[]⟩,.bool false,.slice none 0 0,.slice none 0 0,.int .i64 0,.int .i64 0]:=by kernel_rfl
theorem z123:((Tryz.prog.info? 123).bind (·.zero)).map (·.cells)=some #[.bool false,.bool false,.string ⟨#[]⟩,.string ⟨#[]⟩,.string ⟨#[]⟩,.string ⟨#[]⟩,.bool false,.int .i64 0,.string ⟨#[]⟩,.bool false,.slice none 0 0,.slice none 0 0,.int .i64 0,.int .i64 0,.slice none 0 0,.int .i64 0,.int .i64 0]:=by kernel_rfl
theorem e22:SlI Tryz.prog 22 43 17 272:=sli Tryz.underlying22 (z:=.agg #[.int .i64 0,.bool false,.bool false,.bool false,.string ⟨#[]⟩,.string ⟨#[]⟩,.slice none 0 0,.slice none 0 0,.slice none 0 0,.slice none 0 0,.slice none 0 0,.slice none 0 0,.slice none 0 0,.bool false,.slice none 0 0,.int .i64 0,.int .i64 0]) (by kernel_rfl)
theorem e34:SlI Tryz.prog 34 113 3 32:=sli Tryz.underlying34 (z:=.agg #[.string ⟨#[]⟩,.int .i64 0,.int .i64 0]) (by kernel_rfl)
theorem e35:SlI Tryz.prog 35 181 4 56:=sli Tryz.underlying35 (z:=.agg #[.string ⟨#[]⟩,.slice none 0 0,.int .i64 0,.int .i64 0]) (by kernel_rfl)
theorem e36:SlI Tryz.prog 36 52 10 136:=sli Tryz.underlying36 (z:=.agg #[.bool false,.bool false,.string ⟨#[]⟩,.string ⟨#[]⟩,.slice none 0 0,.string ⟨#[]⟩,.string ⟨#[]⟩,.slice none 0 0,.int .i64 0,.int .i64 0]) (by kernel_rfl)
theorem e37:SlI Tryz.prog 37 123 17 216:=sli Tryz.underlying37 (z:=.agg #[.bool false,.bool false,.string ⟨#[]⟩,.string ⟨#[]⟩,.string ⟨#[]⟩,.string ⟨#[]⟩,.bool false,.int .i64 0,.string ⟨#[]⟩,.bool false,.slice none 0 0,.slice none 0 0,.int .i64 0,.int .i64 0,.slice none 0 0,.int .i64 0,.int .i64 0]) (by kernel_rfl)
theorem e38:SlI Tryz.prog 38 133 7 80:=sli Tryz.underlying38 (z:=.agg #[.bool false,.bool false,.string ⟨#[]⟩,.string ⟨#[]⟩,.slice none 0 0,.int .i64 0,.int .i64 0]) (by kernel_rfl)
theorem e39:SlI Tryz.prog 39 100 4 40:=sli Tryz.underlying39 (z:=.agg #[.int .i64 0,.string ⟨#[]⟩,.int .i64 0,.int .i64 0]) (by kernel_rfl)
theorem tk {P:Program} {ops:Array Oper} {Q:Exit→Act→World→Prop} {md:Region.Mode} {S:World→Prop} {F:List Nat} (i:Nat) {oi:Oper} {v:Value} {fuel:Nat} {listed:Array Bool} {a a':Act} {w:World} (hS:S w) (h:held.AnyL P md ops Q S F fuel (listed.setIfInBounds i true) a' w) (hi:ops[i]?=some oi:=by (simp only [List.getElem?_toArray,List.getElem?_cons_zero,List.getElem?_cons_succ];try rfl))
  (hd: ∀w,S w→(execOp a.eval oi).run P w= .ok (.value v) w:=by (intro w hSw;(try dsimp only at hSw);go_simp;try with_reducible rfl))
  (ha:a.put oi.dst v=a':=by (simp only [Act.put,List.getElem_toArray,List.getElem_cons_zero,List.getElem_cons_succ,List.setIfInBounds_toArray,List.set_cons_zero,List.set_cons_succ];try rfl))
  (hw:Region.wanted oi (yielded ops a.tmps)=true:=by rfl) (hs:Region.noSelect ops=true:=by kernel_rfl) (hf:Region.free md ops listed i=true:=by kernel_rfl) (hr:(Region.ready md ops listed).contains i=true:=by kernel_rfl) (hF:held.waits md ops F i=true:=by kernel_rfl) (hc:held.closed md ops listed=true:=by kernel_rfl)
  (hQ: ∀c a w,Q (.panic c) (a.put oi.dst v) w→Q (.panic c) a w:=by exact fun _ _ _ h=>h):held.AnyL P md ops Q S F (fuel+1) listed a w:=
 held.take hi hs hf hr hF hc hQ (.inl ⟨hw,hd⟩) hS (ha▸h)
open words enc tree gram lex rd dec dat held
set_option maxRecDepth 100000
attribute [local go_sem ↓] Go.wp_at_zero Go.wp_at_succ
theorem z4f {K:World} {l:List Txt} {x:Txt} {vs:List Value} (h:RL K (y03 l) vs):RL K (y03 (l++[x])) (vs++[.string (str x)]):=by
 unfold y03 at h ⊢;rw [Qas];exact h.app (.lit (.nil (Qab _)))
end Go.Proofs.YtbpgkkoeehopjaaGreat.hp
namespace Go.Proofs.YtbpgkkoeehopjaaGreat.hp
open Go.RowKit words enc tree gram lex rd dec dat held
section
variable {P : Program} {w0 w K K' : World} {M N : List Ent} {ops : Array Oper} {Q : Exit → Act → World → Prop} {F : List Nat} {fuel : Nat} {listed : Array Bool} {a a' : Act} {oi : Oper} {v : Value} {S : World → Prop}
def AtL (P:Program) (ops:Array Oper) (Q:Exit→Act→World→Prop) (S:World→Prop) (F:List Nat) (fuel:Nat) (listed:Array Bool) (i:Nat) (a:Act) (w:World):Prop:=
 wpOp P ops Q i (fun a' w'=>(i∉F→S w')∧AnyL P .any ops Q S F fuel (listed.setIfInBounds i true) a' w') a w
theorem r2 (i j:Nat) (h1:AtL P ops Q S F fuel listed i a w) (h2:AtL P ops Q S F fuel listed j a w) (hr:Region.ready .any ops listed=[i,j]:=by kernel_rfl):AnyL P .any ops Q S F (fuel+1) listed a w:=
 ⟨fun h0=>(by rw [hr] at h0;cases h0),fun k hk=>by
   rw [hr] at hk;simp only [Qbd,List.mem_nil_iff,or_false] at hk;rcases hk with rfl|rfl
   ·exact h1
   ·exact h2⟩
theorem x9v {i:Nat} (ho:ops[i]?=some oi)
  (h: ∀K':Act→World→Prop,Shut (∀a w,(i∉F→S w)→((i∉F→S w)→AnyL P .any ops Q S F fuel (listed.setIfInBounds i true) a w)→K' a w)→if Region.wanted oi (yielded ops a.tmps)=true then Oper.wp P oi a w K' Q else K' (a.put oi.dst undef) w):AtL P ops Q S F fuel listed i a w:=
 wpOp_step ho (fun K' hK=>h K' (fun a w hS hW=>hK a w ⟨hS,hW hS⟩))
theorem aW {i:Nat} (H:Hp w0 w K' N) {v:Nat→Value} {N':Nat→List Ent} {a':Nat→Act} (h: ∀w' g,Hp w0 w' K' (N' g)→AnyL P .any ops Q (Ov w0 K M) F fuel (listed.setIfInBounds i true) (a' g) w') (hi:ops[i]?=some oi:=by (simp only [List.getElem?_toArray,List.getElem?_cons_zero,List.getElem?_cons_succ];try rfl))
  (hd:Does P oi a w0 w K' N v N':=by first|exact ds1|exact dsA|exact da|exact dbA|exact db1|exact dbA1|exact db11|exact dbS|fail)
  (ha: ∀g,a.put oi.dst (v g)=a' g:=by (intro g;simp only [Act.put,List.getElem_toArray,List.getElem_cons_zero,List.getElem_cons_succ,List.setIfInBounds_toArray,List.set_cons_zero,List.set_cons_succ];try rfl))
  (hgd:oi.guard=none:=by rfl) (hle:Sat K' K:=by first|exact Sat.refl _|assumption|fail) (hsf: ∀g,Inc M (N' g):=by (intro g;first|((repeat (first|exact n0|exact nN|apply nD))<;>fail)|((repeat (first|exact n0|exact nN|refine nS (by ((repeat (first|exact u0|apply uS))<;>fail)) ?_|apply nD))<;>fail)|fail)):AtL P ops Q (Ov w0 K M) F fuel listed i a w:=
 x9v hi fun Kq hKq=>by
  rw [if_pos (z3l hgd)];exact hd _ _ H fun w' g H'=>hKq.out _ _ (fun _=>⟨K',_,hle,H',hsf g⟩) (fun _=>by rw [ha g];exact h w' g H')
theorem aC {i:Nat} {f:FuncId} {xs:Array Value} {R:Ending→World→Prop} (hC:Calls P f xs w R) (h: ∀e w',R e w'→ ∃v a',e= .returned v∧a.put oi.dst v=a'∧Ov w0 K M w'∧AnyL P .any ops Q (Ov w0 K M) F fuel (listed.setIfInBounds i true) a' w')
  (hi:ops[i]?=some oi:=by (simp only [List.getElem?_toArray,List.getElem?_cons_zero,List.getElem?_cons_succ];try rfl)) (hrun:(execOp a.eval oi).run P w= .ok (.enter f xs) w:=by (go_simp;try with_reducible rfl)) (hw:Region.wanted oi (yielded ops a.tmps)=true:=by rfl):AtL P ops Q (Ov w0 K M) F fuel listed i a w:=
 x9v hi fun Kq hKq=>by
  rw [if_pos hw];unfold Oper.wp;rw [hrun,Oper.upon_enter];refine hC.mono fun e w' hR=>?_;obtain ⟨v,a',rfl,ha,hS,hW⟩:=h e w' hR;exact hKq.out _ _ (fun _=>hS) (fun _=>by rw [ha];exact hW)
end
set_option maxRecDepth 100000
set_option maxHeartbeats 40000000
attribute [local go_sem ↓] Go.wp_at_zero Go.wp_at_succ
theorem y69 (s t:ByteArray) (w0 w K:World) (M:List Ent) (H:Hp w0 w K M):
  Calls Tryz.prog 104 #[.string s,.string t] w fun e w'=>e= .returned (.agg #[.string s,.string t])∧Hp w0 w' K M:=by
 go_enter Tryz.func104,Tryz.ntmps104
 go_wp2_with (first|(refine oL H ?_)|(refine oP H ?_;clear H;intro w _ H))
 refine oB H ?_;exact ⟨rfl,H.fin⟩
theorem q3k (s t u:ByteArray) (w0 w K:World) (M:List Ent) (H:Hp w0 w K M):
  Calls Tryz.prog 101 #[.string s,.string t,.string u] w fun e w'=>e= .returned (.agg #[.bool false,.bool false,.string ⟨#[]⟩,.string s,.slice none 0 0,.string t,.string u,.slice none 0 0,.int .i64 0,.int .i64 0])∧Hp w0 w' K M:=by
 go_enter Tryz.func101,Tryz.ntmps101
 go_wp2_with (first|(refine oL H ?_)|(refine oP H ?_;clear H;intro w _ H)|((with_reducible refine (y69 t u _ _ _ _ H).mono ?_);clear H;rintro e w ⟨rfl,H⟩))
 refine oB H ?_;exact ⟨rfl,H.fin⟩
theorem x9w (s:ByteArray) (A:Option Addr) (n c:Nat) (w0 w K:World) (M:List Ent) (H:Hp w0 w K M):
  Calls Tryz.prog 100 #[.string s,.slice A n c] w fun e w'=>e= .returned (.agg #[.int .i64 3,.bool false,.bool false,.bool false,.string ⟨#[]⟩,.string s,.slice none 0 0,.slice none 0 0,.slice A n c,.slice none 0 0,.slice none 0 0,.slice none 0 0,.slice none 0 0,.bool false,.slice none 0 0,.int .i64 0,.int .i64 0])∧Hp w0 w' K M:=by
 go_enter Tryz.func100,Tryz.ntmps100
 go_wp2_with (first|(refine oL H ?_)|(refine oP H ?_;clear H;intro w _ H))
 refine oB H ?_;exact ⟨rfl,H.fin⟩
def q41:Txt:=[102,97,108,115,101]
def y8m:Txt:=[66,111,111,108,101,97,110]
def incT:Txt:=[105,110,99,108,117,100,101,68,101,112,114,101,99,97,116,101,100]
def incD:InputD:=⟨y2v,incT,(y8m,[]),true,.mk 5 q41 false [] [] 0 0,[],0,0⟩
def AllP (s t:ByteArray) (w0 K:World) (M:List Ent) (e:Ending) (w':World):Prop:=
 ∃K' A,e= .returned (.agg #[.bool false,.bool false,.string ⟨#[]⟩,.string s,.slice (some A) 1 1,.string t,.string ⟨#[33,93]⟩,.slice none 0 0,.int .i64 0,.int .i64 0])∧Sat K' K∧Hp w0 w' K' M∧RD K' (.list 1 (y0k [incD])) (.slice (some A) 1 1)
theorem RL.z {K:World}:RL K [] []:=.nil (Qab _)
theorem RD.z {K:World}:RD K (.list 0 []) (.slice Option.none 0 0):=.nil (Qab _)
theorem q42 (s t:ByteArray) (w0 w K:World) (M:List Ent) (H:Hp w0 w K M):
  Calls Tryz.prog 102 #[.string s,.string t] w (AllP s t w0 K M):=by
 go_enter Tryz.func102,Tryz.ntmps102
 go_upto_region 2 with (first|(refine oL H ?_)|(refine oA 4 H ?_;clear H;intro w g4 H)|(refine oA 5 H ?_;clear H;intro w g5 H)|(refine oP H ?_;clear H;intro w _ H))
 refine rB [4] H ?_;clear H;intro w H;refine rT 1 H ?_;refine r2 0 3 ?_ ?_
 ·refine aC (y69 ⟨#[66,111,111,108,101,97,110]⟩ ⟨#[]⟩ _ _ _ _ H) ?_;clear H;rintro e w ⟨rfl,H⟩;refine rX H ?_;refine rT 2 H ?_;refine rW 3 H ?_;clear H;intro w g6 H;refine rL 4 H ?_;clear H;intro w _ H;refine rE ?_
  go_wp2_with fail
  refine rB [6] H ?_;clear H;intro w H;refine rT 0 H ?_;refine rT 1 H ?_;refine rT 3 H ?_;refine r2 2 4 ?_ ?_
  ·refine aW H ?_;clear H;intro w gs H;refine rC 4 (y69 t ⟨#[33,93]⟩ _ _ _ _ H) ?_;clear H;rintro e w ⟨rfl,H⟩;refine rX H ?_;refine rT 5 H ?_;refine rL 6 H ?_;clear H;intro w _ H;refine rE ?_
   go_wp2_with fail
   refine oB H ?_;replace H:Hp _ _ _ (.box gs _ _::M):=H.fin;obtain ⟨K1,h1,H,hd⟩:=H.freezeBox (n:=1) (ls:=y0k [incD]) (by unfold incD;exact .lit (.lit (.lit (.lit (.lit (.lit (.lit (.lit (.lit (.lit (.cons RD.z (.cons RD.z (.lit (.lit (.cons RD.z (.lit (.lit RL.z))))))))))))))))) (by simp [maxLen]);exact ⟨K1,_,rfl,h1,H,hd⟩
  ·refine aC (y69 t ⟨#[33,93]⟩ _ _ _ _ H) ?_;clear H;rintro e w ⟨rfl,H⟩;refine rX H ?_;refine rW 2 H ?_;clear H;intro w gs H;refine rT 5 H ?_;refine rL 6 H ?_;clear H;intro w _ H;refine rE ?_
   go_wp2_with fail
   refine oB H ?_;replace H:Hp _ _ _ (.box gs _ _::M):=H.fin;obtain ⟨K1,h1,H,hd⟩:=H.freezeBox (n:=1) (ls:=y0k [incD]) (by unfold incD;exact .lit (.lit (.lit (.lit (.lit (.lit (.lit (.lit (.lit (.lit (.cons RD.z (.cons RD.z (.lit (.lit (.cons RD.z (.lit (.lit RL.z))))))))))))))))) (by simp [maxLen]);exact ⟨K1,_,rfl,h1,H,hd⟩
 ·refine aW H ?_;clear H;intro w g6 H;refine rC 0 (y69 ⟨#[66,111,111,108,101,97,110]⟩ ⟨#[]⟩ _ _ _ _ H) ?_;clear H;rintro e w ⟨rfl,H⟩;refine rX H ?_;refine rT 2 H ?_;refine rL 4 H ?_;clear H;intro w _ H;refine rE ?_
  go_wp2_with fail
  refine rB [6] H ?_;clear H;intro w H;refine rT 0 H ?_;refine rT 1 H ?_;refine rT 3 H ?_;refine r2 2 4 ?_ ?_
  ·refine aW H ?_;clear H;intro w gs H;refine rC 4 (y69 t ⟨#[33,93]⟩ _ _ _ _ H) ?_;clear H;rintro e w ⟨rfl,H⟩;refine rX H ?_;refine rT 5 H ?_;refine rL 6 H ?_;clear H;intro w _ H;refine rE ?_
   go_wp2_with fail
   refine oB H ?_;replace H:Hp _ _ _ (.box gs _ _::M):=H.fin;obtain ⟨K1,h1,H,hd⟩:=H.freezeBox (n:=1) (ls:=y0k [incD]) (by unfold incD;exact .lit (.lit (.lit (.lit (.lit (.lit (.lit (.lit (.lit (.lit (.cons RD.z (.cons RD.z (.lit (.lit (.cons RD.z (.lit (.lit RL.z))))))))))))))))) (by simp [maxLen]);exact ⟨K1,_,rfl,h1,H,hd⟩
  ·refine aC (y69 t ⟨#[33,93]⟩ _ _ _ _ H) ?_;clear H;rintro e w ⟨rfl,H⟩;refine rX H ?_;refine rW 2 H ?_;clear H;intro w gs H;refine rT 5 H ?_;refine rL 6 H ?_;clear H;intro w _ H;refine rE ?_
   go_wp2_with fail
   refine oB H ?_;replace H:Hp _ _ _ (.box gs _ _::M):=H.fin;obtain ⟨K1,h1,H,hd⟩:=H.freezeBox (n:=1) (ls:=y0k [incD]) (by unfold incD;exact .lit (.lit (.lit (.lit (.lit (.lit (.lit (.lit (.lit (.lit (.cons RD.z (.cons RD.z (.lit (.lit (.cons RD.z (.lit (.lit RL.z))))))))))))))))) (by simp [maxLen]);exact ⟨K1,_,rfl,h1,H,hd⟩
end Go.Proofs.YtbpgkkoeehopjaaGreat.hp
namespace Go.Proofs.YtbpgkkoeehopjaaGreat.hp
open Go.RowKit words enc tree gram lex rd dec dat held
set_option maxRecDepth 100000
attribute [local go_sem ↓] Go.wp_at_zero Go.wp_at_succ
theorem y9u (l:List Txt):y03 l=l.flatMap fun x=>[str' x]:=by
 induction l with
 |nil=>rfl
 |cons x r ih=>rw [List.flatMap_cons,←ih];rfl
theorem z4g {w0 w K:World} {M:List Ent} {l:List Txt} {n c k:Nat} {A:Option Addr} {x:Txt} (H:Hp w0 w K M) (hd:RD K (.list n (y03 l)) (.slice A n c)) (hk:l[k]?=some x): ∃ad,A=some ad∧w.cell? (ad.add k)=some (.string (str x)):=by
 rw [y9u] at hd;obtain ⟨ad,vs,h1,h2,_,h4⟩:=y7v (m:=1) (f:=fun x=>[str' x]) (fun _=>rfl) H hd hk (by omega);obtain ⟨r,rfl,_⟩:=h2.lit_inv;exact ⟨ad,h1,by simpa using h4.1 _ rfl⟩
def valD (x:Txt):ValueD:=⟨y2v,x,[],0,0⟩
def plD (x:Txt):NamedD:=⟨x,0,0⟩
theorem x9x {K:World} {l:List Txt} {x:Txt} {vs:List Value} (h:RL K (y1c (l.map valD)) vs):RL K (y1c ((l++[x]).map valD)) (vs++[.bool false,.bool false,.string ⟨#[]⟩,.string (str x),.slice none 0 0,.int .i64 0,.int .i64 0]):=by
 rw [Qas,y3e];exact h.app (by simp only [List.map_cons,List.map_nil,y1c,List.flatMap_cons,List.flatMap_nil,List.append_nil];exact .lit (.lit (.lit (.lit (.cons RD.z (.lit (.lit RL.z)))))))
theorem q3l {K:World} {l:List Txt} {x:Txt} {vs:List Value} (h:RL K (y0t (l.map plD)) vs):RL K (y0t ((l++[x]).map plD)) (vs++[.string (str x),.int .i64 0,.int .i64 0]):=by
 rw [Qas,y3f];exact h.app (by simp only [List.map_cons,List.map_nil,y0t,List.flatMap_cons,List.flatMap_nil,List.append_nil];exact .lit (.lit (.lit RL.z)))
def q8z (s:ByteArray) (l:List Txt) (w0 K:World) (M:List Ent) (e:Ending) (w':World):Prop:=
 ∃K' A c,e= .returned (.agg #[.int .i64 6,.bool false,.bool false,.bool false,.string ⟨#[]⟩,.string s,.slice none 0 0,.slice none 0 0,.slice none 0 0,.slice none 0 0,.slice none 0 0,.slice A l.length c,.slice none 0 0,.bool false,.slice none 0 0,.int .i64 0,.int .i64 0])∧Sat K' K∧Hp w0 w' K' M∧RD K' (.list l.length (y1c (l.map valD))) (.slice A l.length c)
set_option maxHeartbeats 4000000 in
theorem x9y (s:ByteArray) (l:List Txt) (n c:Nat) (A:Option Addr) (w0 w K:World) (M:List Ent) (H:Hp w0 w K M) (hl:l.length=n) (hn:n≤1000000) (hd:RD K (.list n (y03 l)) (.slice A n c)):
  Calls Tryz.prog 103 #[.string s,.slice A n c] w (q8z s l w0 K M):=by
 obtain ⟨k0,hk0,k0z,k0s,k0b⟩:=info_parts z5n;have HL:=hide hl;clear hl;go_enter Tryz.func103,Tryz.ntmps103
 go_upto_region 3 with (first
  |((with_reducible refine isL ?_);first
   |(refine al z43 4 H ?_;clear H;intro w1 g4 H)
   |(refine al z43 5 H ?_;clear H;intro w3 g5 H)
   |(refine sA 5 0 H ?_;clear H;intro w5 H)))
 go_wp2_with fail
 go_loopw [12] (fun i wr=>∃(k:Nat) (V:Value) (vs:List Value),k≤n∧i= .int .i64 k∧Hp w0 wr K (.row 133 7 V k vs:: .box g5 [.int .i64 6,.bool false,.bool false,.bool false,.string ⟨#[]⟩,.string s,.slice none 0 0,.slice none 0 0,.slice none 0 0,.slice none 0 0,.slice none 0 0,V,.slice none 0 0,.bool false,.slice none 0 0,.int .i64 0,.int .i64 0] 43:: .box g4 [.int .i64 0,.bool false,.bool false,.bool false,.string ⟨#[]⟩,.string ⟨#[]⟩,.slice none 0 0,.slice none 0 0,.slice none 0 0,.slice none 0 0,.slice none 0 0,.slice none 0 0,.slice none 0 0,.bool false,.slice none 0 0,.int .i64 0,.int .i64 0] 43::M)∧RL K (y1c ((l.take k).map valD)) vs) (fun i _=>n - (intOf i).toNat)
 case atStart=>exact ⟨0,_,[],Qak _,rfl,H.nilRow 133 7,RL.z⟩
 case round=>
  clear H;obtain ⟨k,V,vs,hk,rfl,H,hvs⟩:=hrel;obtain ⟨Av,cv,rfl,_,_⟩:=H.slice (i:=0) rfl;by_cases hlt:k<n
  ·have hkI:(k:Int)<(n:Int):=by omega
   obtain ⟨x,hx⟩: ∃x,l[k]?=some x:=⟨_,Qad (by rw [HL.out];exact hlt)⟩;have HE:=hide (y0n hx);obtain ⟨ad,rfl,hc⟩:=z4g H hd hx;clear hx
   go_upto_region 5 with (fail)
   have:=H.c 1 11
   go_upto_region 6 with (first
    |(refine y2h (by rfl) 38 133 1 _ (by rfl) (some 20) (by rfl) Tryz.underlying38 [.bool false,.bool false,.string ⟨#[]⟩,.string (str x),.slice none 0 0,.int .i64 0,.int .i64 0] (by kernel_rfl) H ?_;clear H;intro w6 g20 H;have:=H.c 2 11)
    |(at_builtin;refine y5f (by rfl) _ _ 38 (by rfl) 133 k0 _ 7 80 Tryz.underlying38 hk0 k0z k0s k0b (by rfl) (by decide) H 1 (.slice Av k cv) (k) (vs) (by rfl) (by first|rfl|simp [Act.eval,Act.put]) (some ⟨g20,0,none⟩) 1 1 [.bool false,.bool false,.string ⟨#[]⟩,.string (str x),.slice none 0 0,.int .i64 0,.int .i64 0] (by first|rfl|simp [Act.eval,Act.put]) (by rfl) (H.rd (i:=0) rfl) (by simp [Value.oneCell']) (by simp only [maxLen];omega) (by omega) ?_;clear H;intro V2 w2 H;replace H:Hp w0 w2 K (.box g20 [.bool false,.bool false,.string ⟨#[]⟩,.string (str x),.slice none 0 0,.int .i64 0,.int .i64 0] 133:: .row 133 7 (V2) (k+1) (vs++[.bool false,.bool false,.string ⟨#[]⟩,.string (str x),.slice none 0 0,.int .i64 0,.int .i64 0]):: .box g5 [.int .i64 6,.bool false,.bool false,.bool false,.string ⟨#[]⟩,.string s,.slice none 0 0,.slice none 0 0,.slice none 0 0,.slice none 0 0,.slice none 0 0,.slice Av k cv,.slice none 0 0,.bool false,.slice none 0 0,.int .i64 0,.int .i64 0] 43:: .box g4 [.int .i64 0,.bool false,.bool false,.bool false,.string ⟨#[]⟩,.string ⟨#[]⟩,.slice none 0 0,.slice none 0 0,.slice none 0 0,.slice none 0 0,.slice none 0 0,.slice none 0 0,.slice none 0 0,.bool false,.slice none 0 0,.int .i64 0,.int .i64 0] 43::M):=H;obtain ⟨V2A,V2c,rfl,V2l,V2m⟩:=H.slice (i:=1) rfl;have:=H.c 2 11)
    |((with_reducible refine isL ?_);first
     |(refine s1 22 2 (.slice V2A (k+1) V2c) H ?_;clear H;intro w7 H;have:=H.c 2 11)))
   replace H:=H.sub (Qai _ (Qaa _ (Qaa _ (Qaa _ (Qam _)))))
   go_wp2_with fail
   go_roundw
   case rel=>exact ⟨k+1,_,_,by omega,by go_num,H,by rw [HE.out];exact x9x hvs⟩
   case measure=>simp [intOf];omega
  ·obtain rfl:n=k:=by omega
   have htk:l.take n=l:=by rw [←HL.out];exact List.take_length
   rw [htk] at hvs;clear htk
   go_upto_region 7 with (fail)
   go_wp2_with (first
    |((with_reducible refine isL ?_);first
     |(refine ld 5 1 17 Tryz.underlying43 H ?_)
     |(refine sA 4 2 H ?_;clear H;intro w8 H)))
   refine bodyPost_ret (v:=.agg #[.int .i64 6,.bool false,.bool false,.bool false,.string ⟨#[]⟩,.string s,.slice none 0 0,.slice none 0 0,.slice none 0 0,.slice none 0 0,.slice none 0 0,.slice Av n cv,.slice none 0 0,.bool false,.slice none 0 0,.int .i64 0,.int .i64 0]) (results_cell_row rfl _ _ g4 43 _ (0,0) _ (by rfl) (H.blkAt (i:=2) rfl) Tryz.underlying43 rfl (by kernel_rfl)) rfl ?_;replace H:=H.sub (Qaa _ (Qai _ (Qai _ (Qam _))));obtain ⟨K',hle,H,hv⟩:=H.freezeRow hvs;have hl':=HL.out;exact ⟨K',Av,cv,by rw [hl'],hle,H,by rw [hl'];exact hv⟩
def DirP (s:ByteArray) (arg:InputD) (l:List Txt) (w0 K:World) (M:List Ent) (e:Ending) (w':World):Prop:=
 ∃K' g A c,e= .returned (.agg #[.int .i64 8,.bool false,.bool false,.bool false,.string ⟨#[]⟩,.string s,.slice none 0 0,.slice none 0 0,.slice none 0 0,.slice (some ⟨g,0,none⟩) 1 1,.slice none 0 0,.slice none 0 0,.slice none 0 0,.bool false,.slice A l.length c,.int .i64 0,.int .i64 0])∧Sat K' K∧Hp w0 w' K' M∧RD K' (.list l.length (y0t (l.map plD))) (.slice A l.length c)∧RD K' (.list 1 (y0k [arg])) (.slice (some ⟨g,0,none⟩) 1 1)
set_option maxHeartbeats 4000000 in
theorem y2e (s:ByteArray) (arg:InputD) (a0 a1 a2 a3 a4 a5 a6 a7 a8 a9 a10 a11 a12 a13 a14 a15 a16:Value) (l:List Txt) (n c:Nat) (A:Option Addr) (w0 w K:World) (M:List Ent) (H:Hp w0 w K M) (hl:l.length=n) (hn:n≤1000000) (hd:RD K (.list n (y03 l)) (.slice A n c)) (ha:RL K (y31 arg) [a0,a1,a2,a3,a4,a5,a6,a7,a8,a9,a10,a11,a12,a13,a14,a15,a16]):
  Calls Tryz.prog 105 #[.string s,.agg #[a0,a1,a2,a3,a4,a5,a6,a7,a8,a9,a10,a11,a12,a13,a14,a15,a16],.slice A n c] w (DirP s arg l w0 K M):=by
 obtain ⟨k0,hk0,k0z,k0s,k0b⟩:=info_parts Go.Proofs.YtbpgkkoeehopjaaGreat.dat.named_info;have HL:=hide hl;clear hl;have hone:=ha.one;go_enter Tryz.func105,Tryz.ntmps105;have hK:=Sat.refl K
 go_upto_region 3 with (first
  |(refine z17 (by rfl) 123 (.tmp 1) (by rfl) [a0,a1,a2,a3,a4,a5,a6,a7,a8,a9,a10,a11,a12,a13,a14,a15,a16] _ (by rfl) (by rfl) (some 4) (by rfl) H ?_;clear H;intro w9 g4 H hg10;clear hg10)
  |(refine y2h (by rfl) 37 123 1 _ (by rfl) (some 12) (by rfl) Tryz.underlying37 [a0,a1,a2,a3,a4,a5,a6,a7,a8,a9,a10,a11,a12,a13,a14,a15,a16] (by kernel_rfl) H ?_;clear H;intro w13 g12 H;obtain ⟨K2,hle14,H,hin⟩:=H.freezeBox (n:=1) (ls:=y0k [arg]) ((by simpa [y0k] using ha)) (by simp only [maxLen];omega);replace hd:=hd.sat hle14;replace ha:=ha.sat hle14;replace hK:=hle14.trans hK)
  |((with_reducible refine isL ?_);first
   |(refine al z43 6 H ?_;clear H;intro w11 g6 H)
   |(refine ld 4 1 17 Tryz.underlying123 H ?_)
   |(refine al z43 7 H ?_;clear H;intro w15 g7 H)
   |(refine sA 7 0 H ?_;clear H;intro w17 H)))
 go_wp2_with fail
 go_loopw [16] (fun i wr=>∃(k:Nat) (V:Value) (vs:List Value),k≤n∧i= .int .i64 k∧Hp w0 wr K2 (.row 113 3 V k vs:: .box g7 [.int .i64 8,.bool false,.bool false,.bool false,.string ⟨#[]⟩,.string s,.slice none 0 0,.slice none 0 0,.slice none 0 0,.slice (some ⟨g12,0,none⟩) 1 1,.slice none 0 0,.slice none 0 0,.slice none 0 0,.bool false,V,.int .i64 0,.int .i64 0] 43:: .box g6 [.int .i64 0,.bool false,.bool false,.bool false,.string ⟨#[]⟩,.string ⟨#[]⟩,.slice none 0 0,.slice none 0 0,.slice none 0 0,.slice none 0 0,.slice none 0 0,.slice none 0 0,.slice none 0 0,.bool false,.slice none 0 0,.int .i64 0,.int .i64 0] 43::M)∧RL K2 (y0t ((l.take k).map plD)) vs) (fun i _=>n - (intOf i).toNat)
 case atStart=>exact ⟨0,_,[],Qak _,rfl,(H.sub (Qaa _ (Qaa _ (Qai _ (Qam _))))).nilRow 113 3,RL.z⟩
 case round=>
  clear H;obtain ⟨k,V,vs,hk,rfl,H,hvs⟩:=hrel;obtain ⟨Av,cv,rfl,_,_⟩:=H.slice (i:=0) rfl;by_cases hlt:k<n
  ·have hkI:(k:Int)<(n:Int):=by omega
   obtain ⟨x,hx⟩: ∃x,l[k]?=some x:=⟨_,Qad (by rw [HL.out];exact hlt)⟩;have HE:=hide (y0n hx);obtain ⟨ad,rfl,hc⟩:=z4g H hd hx;clear hx
   go_upto_region 5 with (fail)
   have:=H.c 1 14
   go_upto_region 6 with (first
    |(refine y2h (by rfl) 34 113 1 _ (by rfl) (some 24) (by rfl) Tryz.underlying34 [.string (str x),.int .i64 0,.int .i64 0] (by kernel_rfl) H ?_;clear H;intro w18 g24 H;have:=H.c 2 14)
    |(at_builtin;refine y5f (by rfl) _ _ 34 (by rfl) 113 k0 _ 3 32 Tryz.underlying34 hk0 k0z k0s k0b (by rfl) (by decide) H 1 (.slice Av k cv) (k) (vs) (by rfl) (by first|rfl|simp [Act.eval,Act.put]) (some ⟨g24,0,none⟩) 1 1 [.string (str x),.int .i64 0,.int .i64 0] (by first|rfl|simp [Act.eval,Act.put]) (by rfl) (H.rd (i:=0) rfl) (by simp [Value.oneCell']) (by simp only [maxLen];omega) (by omega) ?_;clear H;intro V2 w2 H;replace H:Hp w0 w2 K2 (.box g24 [.string (str x),.int .i64 0,.int .i64 0] 113:: .row 113 3 (V2) (k+1) (vs++[.string (str x),.int .i64 0,.int .i64 0]):: .box g7 [.int .i64 8,.bool false,.bool false,.bool false,.string ⟨#[]⟩,.string s,.slice none 0 0,.slice none 0 0,.slice none 0 0,.slice (some ⟨g12,0,none⟩) 1 1,.slice none 0 0,.slice none 0 0,.slice none 0 0,.bool false,.slice Av k cv,.int .i64 0,.int .i64 0] 43:: .box g6 [.int .i64 0,.bool false,.bool false,.bool false,.string ⟨#[]⟩,.string ⟨#[]⟩,.slice none 0 0,.slice none 0 0,.slice none 0 0,.slice none 0 0,.slice none 0 0,.slice none 0 0,.slice none 0 0,.bool false,.slice none 0 0,.int .i64 0,.int .i64 0] 43::M):=H;obtain ⟨V2A,V2c,rfl,V2l,V2m⟩:=H.slice (i:=1) rfl;have:=H.c 2 14)
    |((with_reducible refine isL ?_);first
     |(refine s1 26 2 (.slice V2A (k+1) V2c) H ?_;clear H;intro w19 H;have:=H.c 2 14)))
   replace H:=H.sub (Qai _ (Qaa _ (Qaa _ (Qaa _ (Qam _)))))
   go_wp2_with fail
   go_roundw
   case rel=>exact ⟨k+1,_,_,by omega,by go_num,H,by rw [HE.out];exact q3l hvs⟩
   case measure=>simp [intOf];omega
  ·obtain rfl:n=k:=by omega
   have htk:l.take n=l:=by rw [←HL.out];exact List.take_length
   rw [htk] at hvs;clear htk
   go_upto_region 7 with (fail)
   go_wp2_with (first
    |((with_reducible refine isL ?_);first
     |(refine ld 7 1 17 Tryz.underlying43 H ?_)
     |(refine sA 6 2 H ?_;clear H;intro w20 H)))
   refine bodyPost_ret (v:=.agg #[.int .i64 8,.bool false,.bool false,.bool false,.string ⟨#[]⟩,.string s,.slice none 0 0,.slice none 0 0,.slice none 0 0,.slice (some ⟨g12,0,none⟩) 1 1,.slice none 0 0,.slice none 0 0,.slice none 0 0,.bool false,.slice Av n cv,.int .i64 0,.int .i64 0]) (results_cell_row rfl _ _ g6 43 _ (0,0) _ (by rfl) (H.blkAt (i:=2) rfl) Tryz.underlying43 rfl (by kernel_rfl)) rfl ?_;replace H:=H.sub (Qaa _ (Qai _ (Qai _ (Qam _))));obtain ⟨K',hle,H,hv⟩:=H.freezeRow hvs;have hl':=HL.out;exact ⟨K',g12,Av,cv,by rw [hl'],hle.trans hK,H,by rw [hl'];exact hv,hin.sat hle⟩
set_option maxHeartbeats 40000000
def fD (s t u:Txt):FieldD:=⟨y2v,s,[],(t,u),[],0,0⟩
def aD (s t:Txt):FieldD:=⟨y2v,s,[incD],(t,[33,93]),[],0,0⟩
def scD (s:Txt):DefD:=⟨2,false,y2v,s,[],[],[],[],[],[],[],false,[],0,0⟩
def obD (s:Txt) (l:List FieldD):DefD:=⟨3,false,y2v,s,[],[],l,[],[],[],[],false,[],0,0⟩
def enD (s:Txt) (l:List Txt):DefD:=⟨6,false,y2v,s,[],[],[],[],[],l.map valD,[],false,[],0,0⟩
section
variable {K : World}
theorem rf_f {s t u:Txt} {r:List FieldD} {ys:List Value} (h:RL K (y0s r) ys):RL K (y0s (fD s t u::r)) (.bool false:: .bool false:: .string ⟨#[]⟩:: .string (str s):: .slice none 0 0:: .string (str t):: .string (str u):: .slice none 0 0:: .int .i64 0:: .int .i64 0::ys):=
 .lit (.lit (.lit (.lit (.cons RD.z (.lit (.lit (.cons RD.z (.lit (.lit h)))))))))
theorem rf_a {s t:Txt} {r:List FieldD} {ys:List Value} {v:Value} (h:RL K (y0s r) ys) (hi:RD K (.list 1 (y0k [incD])) v):RL K (y0s (aD s t::r)) (.bool false:: .bool false:: .string ⟨#[]⟩:: .string (str s)::v:: .string (str t):: .string ⟨#[33,93]⟩:: .slice none 0 0:: .int .i64 0:: .int .i64 0::ys):=
 .lit (.lit (.lit (.lit (.cons hi (.lit (.lit (.cons RD.z (.lit (.lit h)))))))))
theorem rt_s {x:Txt} {r:List Txt} {ys:List Value} (h:RL K (y03 r) ys):RL K (y03 (x::r)) (.string (str x)::ys):=.lit h
theorem q76:RL K (y0q []) []:=RL.z
theorem q80 {s:Txt}:RL K (defL (scD s)) [.int .i64 2,.bool false,.bool false,.bool false,.string ⟨#[]⟩,.string (str s),.slice none 0 0,.slice none 0 0,.slice none 0 0,.slice none 0 0,.slice none 0 0,.slice none 0 0,.slice none 0 0,.bool false,.slice none 0 0,.int .i64 0,.int .i64 0]:=
 y01 RD.z RD.z RD.z RD.z RD.z RD.z RD.z RD.z
theorem x57 {s:Txt} {l:List FieldD} {v:Value} {r:List DefD} {ys:List Value} (h:RL K (y0q r) ys) (hl:RD K (.list l.length (y0s l)) v):RL K (y0q (obD s l::r)) (.int .i64 3:: .bool false:: .bool false:: .bool false:: .string ⟨#[]⟩:: .string (str s):: .slice none 0 0:: .slice none 0 0::v:: .slice none 0 0:: .slice none 0 0:: .slice none 0 0:: .slice none 0 0:: .bool false:: .slice none 0 0:: .int .i64 0:: .int .i64 0::ys):=
 DatL.app (y01 RD.z RD.z hl RD.z RD.z RD.z RD.z RD.z) h
theorem q77 {s:Txt} {l:List Txt} {v:Value} {r:List DefD} {ys:List Value} (h:RL K (y0q r) ys) (hl:RD K (.list l.length (y1c (l.map valD))) v):RL K (y0q (enD s l::r)) (.int .i64 6:: .bool false:: .bool false:: .bool false:: .string ⟨#[]⟩:: .string (str s):: .slice none 0 0:: .slice none 0 0:: .slice none 0 0:: .slice none 0 0:: .slice none 0 0::v:: .slice none 0 0:: .bool false:: .slice none 0 0:: .int .i64 0:: .int .i64 0::ys):=
 DatL.app (y01 RD.z RD.z RD.z RD.z RD.z (by simpa using hl) RD.z RD.z) h
theorem x3o {l:List Txt} {x:Txt} {vs:List Value} (h:RL K (y0q (l.map scD)) vs):RL K (y0q ((l++[x]).map scD)) (vs++[.int .i64 2,.bool false,.bool false,.bool false,.string ⟨#[]⟩,.string (str x),.slice none 0 0,.slice none 0 0,.slice none 0 0,.slice none 0 0,.slice none 0 0,.slice none 0 0,.slice none 0 0,.bool false,.slice none 0 0,.int .i64 0,.int .i64 0]):=by
 rw [Qas];unfold y0q at h ⊢;rw [Qbu];exact h.app (by simpa using q80)
end
def scalT:List Txt:=[[73,110,116],[70,108,111,97,116],[83,116,114,105,110,103],[66,111,111,108,101,97,110],[73,68]]
def gf0:List FieldD:=[fD [100,101,115,99,114,105,112,116,105,111,110] [83,116,114,105,110,103] [],fD [116,121,112,101,115] [95,95,84,121,112,101] [33,93,33],fD [113,117,101,114,121,84,121,112,101] [95,95,84,121,112,101] [33],fD [109,117,116,97,116,105,111,110,84,121,112,101] [95,95,84,121,112,101] [],fD [115,117,98,115,99,114,105,112,116,105,111,110,84,121,112,101] [95,95,84,121,112,101] [],fD [100,105,114,101,99,116,105,118,101,115] [95,95,68,105,114,101,99,116,105,118,101] [33,93,33]]
def gd0:DefD:=obD [95,95,83,99,104,101,109,97] gf0
def gf1:List FieldD:=[fD [107,105,110,100] [95,95,84,121,112,101,75,105,110,100] [33],fD [110,97,109,101] [83,116,114,105,110,103] [],fD [100,101,115,99,114,105,112,116,105,111,110] [83,116,114,105,110,103] [],fD [115,112,101,99,105,102,105,101,100,66,121,85,82,76] [83,116,114,105,110,103] [],aD [102,105,101,108,100,115] [95,95,70,105,101,108,100],fD [105,110,116,101,114,102,97,99,101,115] [95,95,84,121,112,101] [33,93],fD [112,111,115,115,105,98,108,101,84,121,112,101,115] [95,95,84,121,112,101] [33,93],aD [101,110,117,109,86,97,108,117,101,115] [95,95,69,110,117,109,86,97,108,117,101],fD [105,110,112,117,116,70,105,101,108,100,115] [95,95,73,110,112,117,116,86,97,108,117,101] [33,93],fD [111,102,84,121,112,101] [95,95,84,121,112,101] []]
def gd1:DefD:=obD [95,95,84,121,112,101] gf1
def ge2:List Txt:=[[83,67,65,76,65,82],[79,66,74,69,67,84],[73,78,84,69,82,70,65,67,69],[85,78,73,79,78],[69,78,85,77],[73,78,80,85,84,95,79,66,74,69,67,84],[76,73,83,84],[78,79,78,95,78,85,76,76]]
def gd2:DefD:=enD [95,95,84,121,112,101,75,105,110,100] ge2
def gf3:List FieldD:=[fD [110,97,109,101] [83,116,114,105,110,103] [33],fD [100,101,115,99,114,105,112,116,105,111,110] [83,116,114,105,110,103] [],fD [97,114,103,115] [95,95,73,110,112,117,116,86,97,108,117,101] [33,93,33],fD [116,121,112,101] [95,95,84,121,112,101] [33],fD [105,115,68,101,112,114,101,99,97,116,101,100] [66,111,111,108,101,97,110] [33],fD [100,101,112,114,101,99,97,116,105,111,110,82,101,97,115,111,110] [83,116,114,105,110,103] []]
def gd3:DefD:=obD [95,95,70,105,101,108,100] gf3
def gf4:List FieldD:=[fD [110,97,109,101] [83,116,114,105,110,103] [33],fD [100,101,115,99,114,105,112,116,105,111,110] [83,116,114,105,110,103] [],fD [116,121,112,101] [95,95,84,121,112,101] [33],fD [100,101,102,97,117,108,116,86,97,108,117,101] [83,116,114,105,110,103] []]
def gd4:DefD:=obD [95,95,73,110,112,117,116,86,97,108,117,101] gf4
def gf5:List FieldD:=[fD [110,97,109,101] [83,116,114,105,110,103] [33],fD [100,101,115,99,114,105,112,116,105,111,110] [83,116,114,105,110,103] [],fD [105,115,68,101,112,114,101,99,97,116,101,100] [66,111,111,108,101,97,110] [33],fD [100,101,112,114,101,99,97,116,105,111,110,82,101,97,115,111,110] [83,116,114,105,110,103] []]
def gd5:DefD:=obD [95,95,69,110,117,109,86,97,108,117,101] gf5
def gf6:List FieldD:=[fD [110,97,109,101] [83,116,114,105,110,103] [33],fD [100,101,115,99,114,105,112,116,105,111,110] [83,116,114,105,110,103] [],fD [108,111,99,97,116,105,111,110,115] [95,95,68,105,114,101,99,116,105,118,101,76,111,99,97,116,105,111,110] [33,93,33],fD [97,114,103,115] [95,95,73,110,112,117,116,86,97,108,117,101] [33,93,33],fD [105,115,82,101,112,101,97,116,97,98,108,101] [66,111,111,108,101,97,110] [33]]
def gd6:DefD:=obD [95,95,68,105,114,101,99,116,105,118,101] gf6
def ge7:List Txt:=[[81,85,69,82,89],[77,85,84,65,84,73,79,78],[83,85,66,83,67,82,73,80,84,73,79,78],[70,73,69,76,68],[70,82,65,71,77,69,78,84,95,68,69,70,73,78,73,84,73,79,78],[70,82,65,71,77,69,78,84,95,83,80,82,69,65,68],[73,78,76,73,78,69,95,70,82,65,71,77,69,78,84],[86,65,82,73,65,66,76,69,95,68,69,70,73,78,73,84,73,79,78],[83,67,72,69,77,65],[83,67,65,76,65,82],[79,66,74,69,67,84],[70,73,69,76,68,95,68,69,70,73,78,73,84,73,79,78],[65,82,71,85,77,69,78,84,95,68,69,70,73,78,73,84,73,79,78],[73,78,84,69,82,70,65,67,69],[85,78,73,79,78],[69,78,85,77],[69,78,85,77,95,86,65,76,85,69],[73,78,80,85,84,95,79,66,74,69,67,84],[73,78,80,85,84,95,70,73,69,76,68,95,68,69,70,73,78,73,84,73,79,78]]
def gd7:DefD:=enD [95,95,68,105,114,101,99,116,105,118,101,76,111,99,97,116,105,111,110] ge7
def givenT:List DefD:=scalT.map scD++[gd0,gd1,gd2,gd3,gd4,gd5,gd6,gd7]
theorem q81 {K:World} {v:Value} (h:RD K (.list (5+8) (y0q (scalT.map scD)++y0q [gd0,gd1,gd2,gd3,gd4,gd5,gd6,gd7])) v):RD K (.list givenT.length (y0q givenT)) v:=by
 rw [show givenT.length=5+8 from rfl,show y0q givenT=y0q (scalT.map scD)++y0q [gd0,gd1,gd2,gd3,gd4,gd5,gd6,gd7] from by unfold givenT y0q;rw [Qbu]];exact h
def BtP (l:List DefD) (w0 K:World) (M:List Ent) (e:Ending) (w':World):Prop:=
 ∃K' A c,e= .returned (.slice A l.length c)∧Sat K' K∧Hp w0 w' K' M∧RD K' (.list l.length (y0q l)) (.slice A l.length c)
def fV (f:FieldD) (v:Value):List Value:=[.bool false,.bool false,.string ⟨#[]⟩,.string (str f.name),v,.string (str f.ty.1),.string (str f.ty.2),.slice none 0 0,.int .i64 0,.int .i64 0]
def fVs (l:List FieldD):List Value:=l.flatMap fun f=>fV f (.slice none 0 0)
def z5w (f:FieldD):Prop:=f=fD f.name f.ty.1 f.ty.2
theorem z5x {K:World}: ∀{l:List FieldD},(∀f∈l,z5w f)→RL K (y0s l) (fVs l)
 |[],_=>RL.z
 |f::r,h=>by
  have e:f=fD f.name f.ty.1 f.ty.2:=h f (Qaz ..);rw [e];exact rf_f (z5x fun f hf=>h f (Qa2 _ hf))
theorem x9z {K:World}: ∀l:List Txt,RL K (y03 l) (l.map fun x=>.string (str x))
 |[]=>RL.z
 |x::r=>.lit (x9z r)
theorem q78: ∀f∈gf0,z5w f:=by intro f hf;simp only [gf0,Qbd,List.mem_nil_iff,or_false] at hf;rcases hf with rfl|rfl|rfl|rfl|rfl|rfl<;>rfl
theorem q79: ∀f∈gf3,z5w f:=by intro f hf;simp only [gf3,Qbd,List.mem_nil_iff,or_false] at hf;rcases hf with rfl|rfl|rfl|rfl|rfl|rfl<;>rfl
theorem q8a: ∀f∈gf4,z5w f:=by intro f hf;simp only [gf4,Qbd,List.mem_nil_iff,or_false] at hf;rcases hf with rfl|rfl|rfl|rfl<;>rfl
theorem q8b: ∀f∈gf5,z5w f:=by intro f hf;simp only [gf5,Qbd,List.mem_nil_iff,or_false] at hf;rcases hf with rfl|rfl|rfl|rfl<;>rfl
theorem q8c: ∀f∈gf6,z5w f:=by intro f hf;simp only [gf6,Qbd,List.mem_nil_iff,or_false] at hf;rcases hf with rfl|rfl|rfl|rfl|rfl<;>rfl
def fV1 (v1 v2:Value):List Value:=fVs (gf1.take 4)++(fV (aD [102,105,101,108,100,115] [95,95,70,105,101,108,100]) v1++(fVs ((gf1.drop 5).take 2)++(fV (aD [101,110,117,109,86,97,108,117,101,115] [95,95,69,110,117,109,86,97,108,117,101]) v2++fVs (gf1.drop 8))))
theorem q8d {K:World} {v1 v2:Value} (h1:RD K (.list 1 (y0k [incD])) v1) (h2:RD K (.list 1 (y0k [incD])) v2):RL K (y0s gf1) (fV1 v1 v2):=rf_f (rf_f (rf_f (rf_f (rf_a (rf_f (rf_f (rf_a (rf_f (rf_f RL.z)) h2))) h1))))
def obC (s:Txt) (v:Value):List Value:=[.int .i64 3,.bool false,.bool false,.bool false,.string ⟨#[]⟩,.string (str s),.slice none 0 0,.slice none 0 0,v,.slice none 0 0,.slice none 0 0,.slice none 0 0,.slice none 0 0,.bool false,.slice none 0 0,.int .i64 0,.int .i64 0]
def enC (s:Txt) (v:Value):List Value:=[.int .i64 6,.bool false,.bool false,.bool false,.string ⟨#[]⟩,.string (str s),.slice none 0 0,.slice none 0 0,.slice none 0 0,.slice none 0 0,.slice none 0 0,v,.slice none 0 0,.bool false,.slice none 0 0,.int .i64 0,.int .i64 0]
def gV (v0 v1 v2 v3 v4 v5 v6 v7:Value):List Value:=obC [95,95,83,99,104,101,109,97] v0++(obC [95,95,84,121,112,101] v1++(enC [95,95,84,121,112,101,75,105,110,100] v2++(obC [95,95,70,105,101,108,100] v3++(obC [95,95,73,110,112,117,116,86,97,108,117,101] v4++(obC [95,95,69,110,117,109,86,97,108,117,101] v5++(obC [95,95,68,105,114,101,99,116,105,118,101] v6++(enC [95,95,68,105,114,101,99,116,105,118,101,76,111,99,97,116,105,111,110] v7)))))))
theorem q82 {K:World} {v0 v1 v2 v3 v4 v5 v6 v7:Value} (h0:RD K (.list gf0.length (y0s gf0)) v0) (h1:RD K (.list gf1.length (y0s gf1)) v1) (h2:RD K (.list ge2.length (y1c (ge2.map valD))) v2) (h3:RD K (.list gf3.length (y0s gf3)) v3) (h4:RD K (.list gf4.length (y0s gf4)) v4) (h5:RD K (.list gf5.length (y0s gf5)) v5) (h6:RD K (.list gf6.length (y0s gf6)) v6) (h7:RD K (.list ge7.length (y1c (ge7.map valD))) v7):RL K (y0q [gd0,gd1,gd2,gd3,gd4,gd5,gd6,gd7]) (gV v0 v1 v2 v3 v4 v5 v6 v7):=x57 (x57 (q77 (x57 (x57 (x57 (x57 (q77 (RL.z) h7) h6) h5) h4) h3) h2) h1) h0
section
variable {w0 w K : World} {M : List Ent}
theorem q83 {l:List Txt} {n c k:Nat} {A:Option Addr} (h:RD K (.list n (y03 l)) (.slice A n c)) (hk:k<l.length): ∃ad x,A=some ad∧l[k]?=some x∧At K (ad.add k) [.string (str x)]:=by
 obtain ⟨ad,vs,h1,h2,_,_,h5,h6⟩:=y7u (m:=1) (f:=fun x=>[str' x]) (fun _=>rfl) (y9u l▸h) (Qad hk) (by omega);obtain ⟨r0,rfl,h0⟩:=h2.lit_inv;obtain rfl:=h0.nil_inv;rw [Nat.mul_one] at h5 h6;exact ⟨ad,_,h1,Qad hk,h5,h6⟩
theorem z7i (w0 w K:World) (M:List Ent) (H:Hp w0 w K M):
  Calls Tryz.prog 56 #[] w (BtP givenT w0 K M):=by
 have hK:=Sat.refl K;go_enter Tryz.func56,Tryz.ntmps56
 go_upto_region 3 with (refine oA 4 H ?_ (hd:=dbS (cs:=scalT.map fun x=>.string (str x)) (hcs:=by kernel_rfl));clear H;intro w g4 H;have hq9:=H.freezeBox (n:=5) (ls:=y03 scalT) (x9z scalT) (by simp [maxLen]);clear H;obtain ⟨K1,hle1,H,h4⟩:=hq9)
 obtain ⟨A4,hA4⟩: ∃A:Option Addr,some ⟨g4,0,none⟩=A:=⟨_,rfl⟩;rw [hA4] at h4 ⊢;clear hA4;replace hK:=hle1.trans hK
 go_wp2_with fail
 replace H:=H.nilRow 43 17
 go_loopw [1,6] (fun v i wr=>∃(k:Nat) (A':Option Addr) (c':Nat) (vs:List Value),k≤5∧i= .int .i64 k∧v= .slice A' k c'∧RL K1 (y0q ((scalT.take k).map scD)) vs∧Hp w0 wr K1 (.row 43 17 (.slice A' k c') k vs::M)) (fun _ i _=>5 - (intOf i).toNat)
 case atStart=>exact ⟨0,none,0,[],Qak _,rfl,rfl,RL.z,H⟩
 case round=>
  clear H;obtain ⟨k,A',c',vs,hk,rfl,rfl,hvs,H⟩:=hrel;have h5:scalT.length=5:=rfl;by_cases hlt:k<5
  ·obtain ⟨ad,x,rfl,hx,hat⟩:=q83 h4 (k:=k) (by rw [h5];exact hlt)
   have hkI:(k:Int)<5:=by omega
   have hkJ:(k:Int)<((5:Nat):Int):=by omega
   have hwr:IntKind.i64.wrap ((k:Int)+1)=k+1:=IntWalk.i64_in _ (by omega);have HX:=hide (y0n hx);clear hx h5
   go_wp2_with (first|(refine oL H ?_)|(refine oP H ?_;clear H;intro w _ H)|(refine oQ H ?_;clear H;intro A' c' w _ _ H;dsimp only [List.set] at H))
   go_roundw
   case rel=>exact ⟨k+1,_,_,_,by omega,by go_num,rfl,by rw [HX.out];exact x3o hvs,H.fin⟩
   case measure=>simp [intOf];omega
  ·obtain rfl:k=5:=by omega
   rw [Qaj (by rw [h5];exact Qab _)] at hvs;clear h4 h5;have m1:True:=trivial;have m2:True:=trivial
   go_wp2_with (first|(go_at_call 101;refine (q3k _ _ _ _ _ _ _ H).mono ?_;clear H;rintro e w ⟨rfl,H⟩)|(go_at_call 100;refine (x9w _ _ _ _ _ _ _ _ H).mono ?_;clear H;rintro e w ⟨rfl,H⟩)|(go_at_call 102;clear m1;refine (q42 _ _ _ _ _ _ H).mono ?_;clear H;rintro e w ⟨K2,Aa,rfl,hle,H,ha1⟩;replace hK:=hle.trans hK;replace hvs:=hvs.sat hle;(try replace h23:=h23.sat hle);(try replace h35:=h35.sat hle);(try replace h37:=h37.sat hle);(try replace h45:=h45.sat hle);(try replace h51:=h51.sat hle);(try replace h57:=h57.sat hle);(try replace h64:=h64.sat hle);(try replace h66:=h66.sat hle);(try replace ha1:=ha1.sat hle);(try replace ha2:=ha2.sat hle);clear hle)|(go_at_call 102;clear m2;refine (q42 _ _ _ _ _ _ H).mono ?_;clear H;rintro e w ⟨K2,Ab,rfl,hle,H,ha2⟩;replace hK:=hle.trans hK;replace hvs:=hvs.sat hle;(try replace h23:=h23.sat hle);(try replace h35:=h35.sat hle);(try replace h37:=h37.sat hle);(try replace h45:=h45.sat hle);(try replace h51:=h51.sat hle);(try replace h57:=h57.sat hle);(try replace h64:=h64.sat hle);(try replace h66:=h66.sat hle);(try replace ha1:=ha1.sat hle);(try replace ha2:=ha2.sat hle);clear hle)|(refine oA 23 H ?_ (hd:=dbS (cs:=fVs gf0) (hcs:=by kernel_rfl));clear H;intro w g23 H;have hq9:=H.freezeBox (n:=6) (ls:=y0s gf0) (z5x q78) (by simp [maxLen]);clear H;obtain ⟨K2,hle,H,h23⟩:=hq9;replace hK:=hle.trans hK;replace hvs:=hvs.sat hle;(try replace h23:=h23.sat hle);(try replace h35:=h35.sat hle);(try replace h37:=h37.sat hle);(try replace h45:=h45.sat hle);(try replace h51:=h51.sat hle);(try replace h57:=h57.sat hle);(try replace h64:=h64.sat hle);(try replace h66:=h66.sat hle);(try replace ha1:=ha1.sat hle);(try replace ha2:=ha2.sat hle);clear hle)|(refine oA 35 H ?_ (hd:=dbS (cs:=fV1 (.slice (some Aa) 1 1) (.slice (some Ab) 1 1)) (hcs:=by kernel_rfl));clear H;intro w g35 H;have hq9:=H.freezeBox (n:=10) (ls:=y0s gf1) (q8d ha1 ha2) (by simp [maxLen]);clear H;obtain ⟨K2,hle,H,h35⟩:=hq9;replace hK:=hle.trans hK;replace hvs:=hvs.sat hle;(try replace h23:=h23.sat hle);(try replace h35:=h35.sat hle);(try replace h37:=h37.sat hle);(try replace h45:=h45.sat hle);(try replace h51:=h51.sat hle);(try replace h57:=h57.sat hle);(try replace h64:=h64.sat hle);(try replace h66:=h66.sat hle);(try replace ha1:=ha1.sat hle);(try replace ha2:=ha2.sat hle);clear hle)|(refine oA 45 H ?_ (hd:=dbS (cs:=fVs gf3) (hcs:=by kernel_rfl));clear H;intro w g45 H;have hq9:=H.freezeBox (n:=6) (ls:=y0s gf3) (z5x q79) (by simp [maxLen]);clear H;obtain ⟨K2,hle,H,h45⟩:=hq9;replace hK:=hle.trans hK;replace hvs:=hvs.sat hle;(try replace h23:=h23.sat hle);(try replace h35:=h35.sat hle);(try replace h37:=h37.sat hle);(try replace h45:=h45.sat hle);(try replace h51:=h51.sat hle);(try replace h57:=h57.sat hle);(try replace h64:=h64.sat hle);(try replace h66:=h66.sat hle);(try replace ha1:=ha1.sat hle);(try replace ha2:=ha2.sat hle);clear hle)|(refine oA 51 H ?_ (hd:=dbS (cs:=fVs gf4) (hcs:=by kernel_rfl));clear H;intro w g51 H;have hq9:=H.freezeBox (n:=4) (ls:=y0s gf4) (z5x q8a) (by simp [maxLen]);clear H;obtain ⟨K2,hle,H,h51⟩:=hq9;replace hK:=hle.trans hK;replace hvs:=hvs.sat hle;(try replace h23:=h23.sat hle);(try replace h35:=h35.sat hle);(try replace h37:=h37.sat hle);(try replace h45:=h45.sat hle);(try replace h51:=h51.sat hle);(try replace h57:=h57.sat hle);(try replace h64:=h64.sat hle);(try replace h66:=h66.sat hle);(try replace ha1:=ha1.sat hle);(try replace ha2:=ha2.sat hle);clear hle)|(refine oA 57 H ?_ (hd:=dbS (cs:=fVs gf5) (hcs:=by kernel_rfl));clear H;intro w g57 H;have hq9:=H.freezeBox (n:=4) (ls:=y0s gf5) (z5x q8b) (by simp [maxLen]);clear H;obtain ⟨K2,hle,H,h57⟩:=hq9;replace hK:=hle.trans hK;replace hvs:=hvs.sat hle;(try replace h23:=h23.sat hle);(try replace h35:=h35.sat hle);(try replace h37:=h37.sat hle);(try replace h45:=h45.sat hle);(try replace h51:=h51.sat hle);(try replace h57:=h57.sat hle);(try replace h64:=h64.sat hle);(try replace h66:=h66.sat hle);(try replace ha1:=ha1.sat hle);(try replace ha2:=ha2.sat hle);clear hle)|(refine oA 64 H ?_ (hd:=dbS (cs:=fVs gf6) (hcs:=by kernel_rfl));clear H;intro w g64 H;have hq9:=H.freezeBox (n:=5) (ls:=y0s gf6) (z5x q8c) (by simp [maxLen]);clear H;obtain ⟨K2,hle,H,h64⟩:=hq9;replace hK:=hle.trans hK;replace hvs:=hvs.sat hle;(try replace h23:=h23.sat hle);(try replace h35:=h35.sat hle);(try replace h37:=h37.sat hle);(try replace h45:=h45.sat hle);(try replace h51:=h51.sat hle);(try replace h57:=h57.sat hle);(try replace h64:=h64.sat hle);(try replace h66:=h66.sat hle);(try replace ha1:=ha1.sat hle);(try replace ha2:=ha2.sat hle);clear hle)|(refine oA 37 H ?_ (hd:=dbS (cs:=ge2.map fun x=>.string (str x)) (hcs:=by kernel_rfl));clear H;intro w g37 H;have hq9:=H.freezeBox (n:=8) (ls:=y03 ge2) (x9z ge2) (by simp [maxLen]);clear H;obtain ⟨K2,hle,H,e37⟩:=hq9;replace hK:=hle.trans hK;replace hvs:=hvs.sat hle;(try replace h23:=h23.sat hle);(try replace h35:=h35.sat hle);(try replace h37:=h37.sat hle);(try replace h45:=h45.sat hle);(try replace h51:=h51.sat hle);(try replace h57:=h57.sat hle);(try replace h64:=h64.sat hle);(try replace h66:=h66.sat hle);(try replace ha1:=ha1.sat hle);(try replace ha2:=ha2.sat hle);clear hle)|(refine oA 66 H ?_ (hd:=dbS (cs:=ge7.map fun x=>.string (str x)) (hcs:=by kernel_rfl));clear H;intro w g66 H;have hq9:=H.freezeBox (n:=19) (ls:=y03 ge7) (x9z ge7) (by simp [maxLen]);clear H;obtain ⟨K2,hle,H,e66⟩:=hq9;replace hK:=hle.trans hK;replace hvs:=hvs.sat hle;(try replace h23:=h23.sat hle);(try replace h35:=h35.sat hle);(try replace h37:=h37.sat hle);(try replace h45:=h45.sat hle);(try replace h51:=h51.sat hle);(try replace h57:=h57.sat hle);(try replace h64:=h64.sat hle);(try replace h66:=h66.sat hle);(try replace ha1:=ha1.sat hle);(try replace ha2:=ha2.sat hle);clear hle)|(go_at_call 103;refine (x9y _ ge2 8 _ _ _ _ _ _ H rfl (by decide) e37).mono ?_;clear H e37;rintro e w ⟨K2,A37,c37,rfl,hle,H,h37⟩;replace hK:=hle.trans hK;replace hvs:=hvs.sat hle;(try replace h23:=h23.sat hle);(try replace h35:=h35.sat hle);(try replace h37:=h37.sat hle);(try replace h45:=h45.sat hle);(try replace h51:=h51.sat hle);(try replace h57:=h57.sat hle);(try replace h64:=h64.sat hle);(try replace h66:=h66.sat hle);(try replace ha1:=ha1.sat hle);(try replace ha2:=ha2.sat hle);clear hle)|(go_at_call 103;refine (x9y _ ge7 19 _ _ _ _ _ _ H rfl (by decide) e66).mono ?_;clear H e66;rintro e w ⟨K2,A66,c66,rfl,hle,H,h66⟩;replace hK:=hle.trans hK;replace hvs:=hvs.sat hle;(try replace h23:=h23.sat hle);(try replace h35:=h35.sat hle);(try replace h37:=h37.sat hle);(try replace h45:=h45.sat hle);(try replace h51:=h51.sat hle);(try replace h57:=h57.sat hle);(try replace h64:=h64.sat hle);(try replace h66:=h66.sat hle);(try replace ha1:=ha1.sat hle);(try replace ha2:=ha2.sat hle);clear hle)|(refine oA 68 H ?_ (hd:=dbS (cs:=gV (.slice (some ⟨g23,0,none⟩) 6 6) (.slice (some ⟨g35,0,none⟩) 10 10) (.slice A37 8 c37) (.slice (some ⟨g45,0,none⟩) 6 6) (.slice (some ⟨g51,0,none⟩) 4 4) (.slice (some ⟨g57,0,none⟩) 4 4) (.slice (some ⟨g64,0,none⟩) 5 5) (.slice A66 19 c66)) (hcs:=by kernel_rfl));clear H;intro w g68 H;have hq9:=H.freezeBox (n:=8) (ls:=y0q [gd0,gd1,gd2,gd3,gd4,gd5,gd6,gd7]) (q82 h23 h35 h37 h45 h51 h57 h64 h66) (by simp [maxLen]);clear H;obtain ⟨K2,hle,H,hg⟩:=hq9;replace hK:=hle.trans hK;replace hvs:=hvs.sat hle)|(refine oR H ?_ (ls:=y0q [gd0,gd1,gd2,gd3,gd4,gd5,gd6,gd7]) (hlen:=rfl);clear H;intro us A5 c5 w hus _ _ _ H;dsimp only [List.set] at H))
   go_ret;obtain ⟨K3,hle3,H,hd⟩:=H.freezeRow (hvs.app hus);exact ⟨K3,_,_,rfl,hle3.trans hK,H,q81 hd⟩
end
end Go.Proofs.YtbpgkkoeehopjaaGreat.hp
namespace Go.Proofs.YtbpgkkoeehopjaaGreat.hp
open Go.RowKit words tree dat held
section
variable {P : Program} {w0 K0 : World} {M : List Ent} {Q : Exit → Act → World → Prop} {l : List Oper} {a0 : Act} {R : Tmp → World → Value → Prop}
def Has (l:List Oper) (listed:Array Bool) (t:Tmp):Prop:=∃j o,l[j]?=some o∧o.dst=some t∧listed.getD j false=true
structure Inv (w0 K0:World) (M:List Ent) (l:List Oper) (a0:Act) (R:Tmp→World→Value→Prop) (listed:Array Bool) (a:Act) (w K:World):Prop where
 le:Sat K K0
 hp:Hp w0 w K M
 defers:a.defers=a0.defers
 size:a.tmps.size=a0.tmps.size
 has: ∀t,Has l listed t→R t K (a.tmps.getD t undef)
 old: ∀t,¬Has l listed t→a.tmps.getD t undef=a0.tmps.getD t undef
def Law (P:Program) (w0 K0:World) (M:List Ent) (Q:Exit→Act→World→Prop) (l:List Oper) (a0:Act) (R:Tmp→World→Value→Prop) (o:Oper):Prop:=
 ∀(a:Act) (w K:World),Sat K K0→Hp w0 w K M→(∀j t,(o.after.toList.any fun e=>e.on==j&&Region.binds .any e)=true→(l[j]?).bind (·.dst)=some t→R t K (a.tmps.getD t undef))→(∀t,(l.all fun p=>p.dst !=some t)=true→a.tmps.getD t undef=a0.tmps.getD t undef)→
  ∀Kc:Act→World→Prop,(∀v w' K',Sat K' K→Hp w0 w' K' M→(∀t,o.dst=some t→R t K' v)→Kc (a.put o.dst v) w')→if Region.wanted o (yielded l.toArray a.tmps)=true then Oper.wp P o a w Kc Q else Kc (a.put o.dst undef) w
def q8e (l:List Oper):Bool:=l.zipIdx.all fun p=>p.1.after.toList.all fun e=>decide (e.on<p.2)
def dstB (l:List Oper) (n:Nat):Bool:=l.all fun o=>match o.dst with|some t=>decide (t<n)|none=>true
def unB:List Oper→Bool
 |[]=>true
 |o::r=>(r.all fun p=>match o.dst with|some t=>p.dst !=some t|none=>true)&&unB r
theorem x90 (h:q8e l=true): ∀(j:Nat) (o:Oper),l[j]?=some o→ ∀e∈o.after,Region.binds .any e=true→e.on<j:=fun j o hj e he _=>by
 have:=Qbi.1 h (o,j) (Qb1.2 hj);have:=Qbi.1 this e (by simpa using he);exact Qa6 this
theorem q3m {n:Nat} (h:dstB l n=true): ∀o∈l,∀t,o.dst=some t→t<n:=fun o ho t ht=>by
 have:=Qbi.1 h o ho;simpa [ht] using this
theorem x91: ∀{l:List Oper},unB l=true→ ∀(i j:Nat) (o p:Oper) (t:Tmp),l[i]?=some o→l[j]?=some p→o.dst=some t→p.dst=some t→i=j
 |[],_,i,j,o,p,t,h1,_,_,_=>by simp at h1
 |q::r,h,i,j,o,p,t,h1,h2,h3,h4=>by
  simp only [unB,Qao] at h
  have far: ∀(x:Oper),x∈r→q.dst=some t→x.dst≠some t:=fun x hx hq he=>by
   have:=Qbi.1 h.1 x hx;simp [hq,he] at this
  cases i with
  |zero=>
   simp only [List.getElem?_cons_zero,Option.some.injEq] at h1;subst h1
   cases j with
   |zero=>rfl
   |succ j=>exact absurd h4 (far p (Qaf (by simpa using h2)) h3)
  |succ i=>
   cases j with
   |zero=>
    simp only [List.getElem?_cons_zero,Option.some.injEq] at h2;subst h2;exact absurd h3 (far o (Qaf (by simpa using h1)) h4)
   |succ j=>rw [x91 h.2 i j o p t (by simpa using h1) (by simpa using h2) h3 h4]
theorem x92 (hm:P.follows .mixedOrders=true) (hac:q8e l=true) (hdst:dstB l a0.tmps.size=true) (hun:unB l=true)
  (hR: ∀t K K' v,Sat K' K→R t K v→R t K' v) (laws: ∀o∈l,Law P w0 K0 M Q l a0 R o) {w:World} {id:Nat} (H:Hp w0 w K0 M)
  (hend: ∀a' w' K',Sat K' K0→Hp w0 w' K' M→a'.defers=a0.defers→a'.tmps.size=a0.tmps.size→(∀t,(l.any fun p=>p.dst==some t)=true→R t K' (a'.tmps.getD t undef))→(∀t,(l.all fun p=>p.dst !=some t)=true→a'.tmps.getD t undef=a0.tmps.getD t undef)→Q .normal a' w'):
  (Code.region id l.toArray true).wp P Q a0 w:=by
 refine wp_region_any hm ?_;have hac:=x90 hac;have hdst:=q3m hdst;have hun:=x91 hun
 have fin: ∀listed a w K,Inv w0 K0 M l a0 R listed a w K→(∀j,j<l.length→listed.getD j false=true)→Q .normal a w:=fun listed a w K h hall=>by
  refine hend a w K h.le h.hp h.defers h.size (fun t ht=>?_) (fun t ht=>h.old t (fun ⟨j,p,h1,h2,_⟩=>by have:=Qbi.1 ht p (Qaf h1);simp [h2] at this));obtain ⟨o,ho,ht⟩:=Qbh.1 ht;obtain ⟨j,hj,rfl⟩:=List.getElem_of_mem ho;exact h.has t ⟨j,_,Qad hj,by simpa using ht,hall j hj⟩
 have none_ready: ∀listed:Array Bool,listed.size=l.length→Region.ready .any l.toArray listed=[]→ ∀j,j<l.length→listed.getD j false=true:=by
  intro listed hs hr j
  induction j using Nat.strongRecOn with
  |_ j ih=>
   intro hj
   cases hb:listed.getD j false with
   |true=>rfl
   |false=>
    have hmem:j∈Region.ready .any l.toArray listed:=by
     refine mem_ready.2 ⟨?_,l[j],by simp [hj],fun e he hbd=>?_⟩
     ·rw [Qar] at hb ⊢;rw [Qbq (by omega)] at hb ⊢;exact hb
     ·have hlt:=hac j _ (Qad hj) e he hbd;exact ih e.on hlt (by omega)
    rw [hr] at hmem;cases hmem
 have main: ∀(fuel:Nat) (listed:Array Bool) (a:Act) (w K:World),listed.size=l.length→(listed.toList.filter (· =false)).length≤fuel→Inv w0 K0 M l a0 R listed a w K→wpAny P .any l.toArray Q fuel listed a w:=by
  intro fuel
  induction fuel with
  |zero=>
   intro listed a w K hs hc h
   have hall: ∀j,j<l.length→listed.getD j false=true:=by
    intro j hj;have h0:listed.toList.filter (· =false)=[]:=Qa0 (by omega);rw [List.filter_eq_nil_iff] at h0
    have hm:listed[j]'(by omega)∈listed.toList:=by simp
    have:=h0 _ hm;rw [Qar,Qbq (by omega)];simpa using this
   refine ⟨?_,fin listed a w K h hall⟩
   cases hr:Region.ready .any l.toArray listed with
   |nil=>rfl
   |cons i r=>
    obtain ⟨hun,o,ho,_⟩:=mem_ready.1 (show i∈Region.ready .any l.toArray listed by rw [hr];exact Qaz ..)
    have hil:i<l.length:=by have:=(Qan.1 ho).1;simpa using this
    have:=hall i hil;rw [Qar,Qbq (by omega)] at this hun;simp at this hun;rw [this] at hun;cases hun
  |succ fuel ih=>
   intro listed a w K hs hc h;refine ⟨fun hr=>fin listed a w K h (none_ready listed hs hr),fun i hi=>?_⟩;obtain ⟨hil,o,ho,hall⟩:=mem_ready.1 hi
   have hlt:i<l.length:=by have:=(Qan.1 ho).1;simpa using this
   have ho':l[i]?=some o:=by simpa using ho
   refine wpOp_step ho (fun K' hK=>?_);refine laws o (Qaf ho') a w K h.le h.hp (fun j t hany ht=>?_) (fun t ht=>h.old t (fun ⟨j,p,h1,h2,_⟩=>by have:=Qbi.1 ht p (Qaf h1);simp [h2] at this)) K' (fun v w' K1 hle H1 hv=>hK _ _ ?_)
   ·obtain ⟨e,he,hb⟩:=Qbh.1 hany;simp only [Qao,Qa7] at hb;obtain ⟨rfl,hb⟩:=hb;have hl:=hall e (by simpa using he) hb
    cases hq:l[e.on]? with
    |none=>rw [hq] at ht;cases ht
    |some p=>rw [hq] at ht;exact h.has t ⟨e.on,p,hq,ht,hl⟩
   ·refine ih (listed.setIfInBounds i true) _ _ K1 (by simpa using hs) ?_ ⟨hle.trans h.le,H1,?_,?_,?_,?_⟩
    ·have hi2:i<listed.size:=by omega
     have hf:listed[i]=false:=by
      rw [Qar,Qbq hi2] at hil;simpa using hil
     have hsp:listed.toList=listed.toList.take i++false::listed.toList.drop (i+1):=by
      have h1:listed.toList[i]'(by simpa using hi2)=false:=by simpa using hf
      conv=>lhs;rw [←List.take_append_drop i listed.toList,Qa1 (by simpa using hi2),h1]
     have hset:(listed.setIfInBounds i true).toList=listed.toList.take i++true::listed.toList.drop (i+1):=by
      rw [Array.toList_setIfInBounds,List.set_eq_take_append_cons_drop,if_pos (by simpa using hi2)]
     rw [hset];rw [hsp] at hc;simp only [List.filter_append,Qae,List.filter_cons] at hc ⊢;simp at hc ⊢;omega
    ·cases o.dst<;>exact h.defers
    ·cases o.dst with
     |none=>exact h.size
     |some d=>simp only [Act.put];rw [Array.size_setIfInBounds];exact h.size
    ·rintro t ⟨j,p,h1,h2,h3⟩;by_cases hji:i=j
     ·subst hji;rw [ho'] at h1;injection h1 with h1;subst h1;have hts:=hdst o (Qaf ho') t h2
      have hget:(a.put o.dst v).tmps.getD t undef=v:=by
       rw [h2];simp only [Act.put];rw [Qar,Array.getElem?_setIfInBounds_self_of_lt (by rw [h.size];exact hts)];rfl
      rw [hget];exact hv t h2
     ·have hne:o.dst≠some t:=fun e=>hji (hun i j o p t ho' h1 e h2)
      have hget:(a.put o.dst v).tmps.getD t undef=a.tmps.getD t undef:=by
       cases hd:o.dst with
       |none=>rfl
       |some d=>
        have hdt:d≠t:=fun e=>hne (by rw [hd,e]);simp only [Act.put];rw [Qar,Array.getElem?_setIfInBounds_ne hdt,←Qar]
      rw [hget];refine hR t K K1 _ hle (h.has t ⟨j,p,h1,h2,?_⟩);rw [getD_set_ne false hji] at h3;exact h3
    ·intro t ht;have hne:o.dst≠some t:=fun e=>ht ⟨i,o,ho',e,by rw [Qar,Array.getElem?_setIfInBounds_self_of_lt (by omega)];rfl⟩
     have hget:(a.put o.dst v).tmps.getD t undef=a.tmps.getD t undef:=by
      cases hd:o.dst with
      |none=>rfl
      |some d=>
       have hdt:d≠t:=fun e=>hne (by rw [hd,e]);simp only [Act.put];rw [Qar,Array.getElem?_setIfInBounds_ne hdt,←Qar]
     rw [hget];refine h.old t (fun ⟨j,p,h1,h2,h3⟩=>ht ⟨j,p,h1,h2,?_⟩);by_cases hji:i=j
     ·subst hji;rw [Qar,Array.getElem?_setIfInBounds_self_of_lt (by omega)];rfl
     ·rw [getD_set_ne false hji];exact h3
 refine main _ _ a0 w.drew K0 (by simp) ?_ ⟨Sat.refl _,H.drew1,rfl,rfl,?_,fun _ _=>rfl⟩
 ·exact Qah (Qb4 _ _) (by simp)
 ·rintro t ⟨j,o,_,_,h3⟩;rw [getD_replicate_false] at h3;cases h3
end
end Go.Proofs.YtbpgkkoeehopjaaGreat.hp
