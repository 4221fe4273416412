/- Part 15 of a proof: see the text that holds the statement. -/
import Derived.Test.YtbpgkkoeehopjaaGreatP4
import Derived.Test.YtbpgkkoeehopjaaGreatP7
import Derived.Test.YtbpgkkoeehopjaaGreatP8
import Derived.Test.YtbpgkkoeehopjaaGreatP14
import Derived.Laws.StructEq
set_option linter.unusedVariables false
set_option linter.unusedSimpArgs false
namespace Go.Proofs.YtbpgkkoeehopjaaGreat.acr
open tree gram rd dat lex
set_option maxRecDepth 100000
section
variable {toks : List TokD}
theorem q2j (hE:TokA toks) (L:Nat) (hL:toks.length≤L) {n:Nat} {rest:List Txt} {k k0:Nat} {op:Int} {f:Nat} {p:NoteD} (hn0:y9e toks k0=some (p,k)) (hk0:k0≤k) (h:Runs toks n (y8w::rest) k op) (h0:0≤op) (h1:op≤200) (h2:200<op+f):
  Got toks n rest op k0 y3c (y4t toks L f k0):=by
 obtain ⟨m,t,rfl,ht,hA⟩:=x72 h;rcases hA with ⟨hF,h⟩|⟨_,h⟩
 ·obtain ⟨m1,rfl,hf,hn,hl,h⟩:=h.t0 hE ht;obtain ⟨a,k1,m2,e1,hr,hm1,hN1⟩:=z2y hE L hL h h0 h1 h2;obtain ⟨t2,ht2⟩:=hr.tok;have hW2:=hE.wf _ t2 ht2;obtain ⟨m3,rfl,hf2,hn2,hl2,h⟩:=hr.t0 hE ht2;obtain ⟨r,k',m4,e,hr,hm,hN,hlen⟩:=x8k hE _ _ (k1+1) op f h h0 h1 h2;obtain ⟨b,k3,m7,e3,hr3,hm3,hN3⟩:=y18 hE L hL hr h1 h2 (by omega);unfold y4t;rw [hn0,Option.bind_some,ht,Option.bind_some,hn,e1,Option.bind_some,ht2,Option.bind_some,if_pos (by rw [y00 hW2 (by decide)];exact hf2),e,Option.bind_some,e3,Option.bind_some];exact ⟨_,_,m7,rfl,hr3,by omega,by simp only [y3c];omega⟩
 ·exact h.elim
theorem x8n (hE:TokA toks) (L:Nat) (hL:toks.length≤L) {n:Nat} {rest:List Txt} {k:Nat} {op:Int} {f:Nat} (h:Runs toks n (z03::rest) k op) (h0:0≤op) (h1:op≤200) (h2:200<op+f):
  Got toks n rest op k y3c (y4t toks L f k):=by
 obtain ⟨m,t,rfl,ht,hA⟩:=x1p h;rcases hA with ⟨hF,h⟩|⟨hF,⟨hF2,h⟩|⟨_,h⟩⟩
 ·obtain ⟨p,m1,e,em,h'⟩:=z1i hE ht h;subst em;obtain ⟨a,k2,m6,e2,hr2,hm2,hN2⟩:=q2j hE L hL e (by omega) h' h0 h1 h2;exact ⟨a,k2,m6,e2,hr2,by omega,hN2⟩
 ·obtain ⟨a,k2,m6,e2,hr2,hm2,hN2⟩:=q2j hE L hL (y5i ht (y16 hF (by decide+kernel))) (Qab _) h h0 h1 h2;exact ⟨a,k2,m6,e2,hr2,by omega,hN2⟩
 ·exact h.elim
theorem q2k (hE:TokA toks) (L:Nat) (hL:toks.length≤L) {n:Nat} {rest:List Txt} {k k0:Nat} {op:Int} {f:Nat} {p:NoteD} (hn0:y9e toks k0=some (p,k)) (hk0:k0≤k) (h:Runs toks n (z2v::rest) k op) (h1:op≤200) (h2:200<op+f):
  Got toks n rest op k0 y3x (y6u toks L f k0):=by
 obtain ⟨m,t,rfl,ht,hA⟩:=q1i h;rcases hA with ⟨hF,h⟩|⟨_,h⟩
 ·obtain ⟨m1,rfl,hf,hn,hl,h⟩:=h.t0 hE ht;obtain ⟨b,k3,m7,e3,hr3,hm3,hN3⟩:=y18 hE L hL h h1 h2 (by omega);unfold y6u;rw [hn0,Option.bind_some,ht,Option.bind_some,hn,e3,Option.bind_some];exact ⟨_,_,m7,rfl,hr3,by omega,by simp only [y3x];omega⟩
 ·exact h.elim
theorem x8o (hE:TokA toks) (L:Nat) (hL:toks.length≤L) {n:Nat} {rest:List Txt} {k:Nat} {op:Int} {f:Nat} (h:Runs toks n (z74::rest) k op) (h1:op≤200) (h2:200<op+f):
  Got toks n rest op k y3x (y6u toks L f k):=by
 obtain ⟨m,t,rfl,ht,hA⟩:=x8b h;rcases hA with ⟨hF,h⟩|⟨hF,⟨hF2,h⟩|⟨_,h⟩⟩
 ·obtain ⟨p,m1,e,em,h'⟩:=z1i hE ht h;subst em;obtain ⟨a,k2,m6,e2,hr2,hm2,hN2⟩:=q2k hE L hL e (by omega) h' h1 h2;exact ⟨a,k2,m6,e2,hr2,by omega,hN2⟩
 ·obtain ⟨a,k2,m6,e2,hr2,hm2,hN2⟩:=q2k hE L hL (y5i ht (y16 hF (by decide+kernel))) (Qab _) h h1 h2;exact ⟨a,k2,m6,e2,hr2,by omega,hN2⟩
 ·exact h.elim
theorem q1v (hE:TokA toks) {n:Nat} {rest:List Txt} {k:Nat} {op:Int} (h:Runs toks n (z73::rest) k op):Got toks n rest op k (fun _=>1) (z10 toks k):=by
 obtain ⟨m,t,rfl,ht,hA⟩:=x7w h;rcases hA with ⟨hF,h⟩|⟨_,h⟩
 ·obtain ⟨m1,rfl,hf,hn,hl,h⟩:=h.t0 hE ht;obtain ⟨t1,ht1⟩:=h.tok;have hW1:=hE.wf _ t1 ht1;obtain ⟨m2,rfl,hf1,hn1,hl1,h⟩:=h.t0 hE ht1;obtain ⟨t2,ht2⟩:=h.tok;obtain ⟨m3,rfl,hf2,hn2,hl2,h⟩:=h.t0 hE ht2
  have hs:y1a tSTR t=false:=by
   have:((t.kind==3)&&y3q t.text y5a)=true:=hf;simp only [Qao,Qa7] at this
   show ((t.kind==6)||(t.kind==7))=false
   rw [this.1];rfl
  unfold z10;rw [y5i ht hs,Option.bind_some,ht,Option.bind_some];simp only;rw [hn,ht1,Option.bind_some,if_pos (by rw [y00 hW1 (by decide)];exact hf1),ht2,Option.bind_some,hn2];exact ⟨_,_,m3,rfl,h,by omega,by show 1+k≤_;omega⟩
 ·exact h.elim
theorem x8p {α:Type} (hE:TokA toks) (L:Nat) (hL:toks.length≤L) (item list:Txt) (e:Nat→Option (α×Nat)) (N:α→Nat) (hN: ∀a,0<N a) (op:Int) (hop:op≤199)
  (hitem: ∀(n:Nat) (rest:List Txt) (k:Nat),Runs toks n (item::rest) k (op+1)→Got toks n rest (op+1) k N (e k))
  (hno: ∀(n:Nat) (rest:List Txt) (k:Nat) (op:Int) (t:TokD),Runs toks n (item::rest) k op→toks[k]?=some t→isF t [125]=false)
  (hin: ∀(n:Nat) (rest:List Txt) (k:Nat) (op:Int),Runs toks n (list::rest) k op→ ∃m t,n=m+1∧toks[k]?=some t∧(Runs toks m (item::list::rest) k op∨Runs toks m rest k op)): ∀n,
  (∀(rest:List Txt) (k fu:Nat),Runs toks n (list::[125]::rest) k (op+1)→toks.length<fu+k→Got toks n rest op k (fun l=>sumN N l+1) (y5u toks e fu k))∧
  (∀(rest:List Txt) (k fu:Nat),Runs toks n (item::list::[125]::rest) k (op+1)→toks.length<fu+k→Got toks n rest op k (fun l=>sumN N l+1) (y5u toks e fu k)):=by
 intro n
 induction n using Nat.strongRecOn with
 |_ n ih=>
  refine ⟨fun rest k fu h h3=>?_,fun rest k fu h h3=>?_⟩
  ·obtain ⟨m,t,rfl,ht,hA⟩:=hin _ _ _ _ h;have hlt:k<toks.length:=(Qac.1 ht).1;have hW:=hE.wf k t ht;rcases hA with h|h
   ·obtain ⟨a,k',m1,e',hr,hm,hN⟩:=(ih m (by omega)).2 rest k fu h h3;exact ⟨a,k',m1,e',hr,by omega,hN⟩
   ·obtain ⟨fu,rfl⟩: ∃g,fu=g+1:=⟨fu - 1,by omega⟩;rw [y5u,ht,Option.bind_some];obtain ⟨m',rfl,hf,hn,hl,h⟩:=h.tclose hE ht;rw [if_pos (by rw [y00 hW (by decide)];exact hf)];rw [Int.add_sub_cancel] at h;exact ⟨_,_,m',rfl,h,by omega,by simp [sumN];omega⟩
  ·obtain ⟨t,ht⟩:=h.tok;have hlt:k<toks.length:=(Qac.1 ht).1;obtain ⟨fu,rfl⟩: ∃g,fu=g+1:=⟨fu - 1,by omega⟩;rw [y5u,ht,Option.bind_some,if_neg (by rw [hno _ _ _ _ _ h ht];decide)];obtain ⟨a,k',m3,e1,hr,hm,hN1⟩:=hitem _ _ _ h;rw [e1,Option.bind_some];have hp:=hN a;obtain ⟨b,k2,m4,e2,hr2,hm2,hN2⟩:=(ih m3 (by omega)).1 rest k' fu hr (by omega);rw [e2,Option.bind_some];exact ⟨_,_,m4,rfl,hr2,by omega,by simp only [sumN] at hN2 ⊢;omega⟩
theorem z0m {α:Type} (hE:TokA toks) (L:Nat) (hL:toks.length≤L) (item list:Txt) (e:Nat→Option (α×Nat)) (N:α→Nat) (hN: ∀a,0<N a) (op:Int)
  (hitem:op≤199→ ∀(n:Nat) (rest:List Txt) (k:Nat),Runs toks n (item::rest) k (op+1)→Got toks n rest (op+1) k N (e k))
  (hno: ∀(n:Nat) (rest:List Txt) (k:Nat) (op:Int) (t:TokD),Runs toks n (item::rest) k op→toks[k]?=some t→isF t [125]=false)
  (hin: ∀(n:Nat) (rest:List Txt) (k:Nat) (op:Int),Runs toks n (list::rest) k op→ ∃m t,n=m+1∧toks[k]?=some t∧(Runs toks m (item::list::rest) k op∨Runs toks m rest k op))
  {n:Nat} {rest:List Txt} {k:Nat} (h:Runs toks n ([123]::item::list::[125]::rest) k op):Got toks n rest op k (fun l=>sumN N l) (y20 toks e L k):=by
 obtain ⟨t,ht⟩:=h.tok;have hlt:k<toks.length:=(Qac.1 ht).1;have hW:=hE.wf k t ht;obtain ⟨m1,rfl,hf,hn,hl,hop,h⟩:=h.topen hE ht;unfold y20;rw [ht,Option.bind_some,if_pos (by rw [y00 hW (by decide)];exact hf)];obtain ⟨a,k',m2,e1,hr,hm,hN1⟩:=(x8p hE L hL item list e N hN op (by omega) (hitem (by omega)) hno hin m1).2 rest (k+1) L h (by omega);exact ⟨a,k',m2,e1,hr,by omega,by simp only at hN1 ⊢;omega⟩
theorem z57 {α:Type} (hE:TokA toks) (e:Nat→Option (α×Nat)) (L:Nat) {k:Nat} {t:TokD} (ht:toks[k]?=some t) (hf:y1a [123] t=false):y20 toks e L k=some ([],k):=by
 unfold y20;rw [ht,Option.bind_some,if_neg (by rw [y00 (hE.wf k t ht) (by decide),hf];decide)]
theorem y9r (hE:TokA toks) {k:Nat} {t:TokD} {F:List Txt} (ht:toks[k]?=some t) (hF:fits F t=true) (hn:F.contains [125]=false):isF t [125]=false:=y62 (hE.wf k t ht) (by decide) hF hn
theorem z20 (hE:TokA toks) (L:Nat) (hL:toks.length≤L) {n:Nat} {rest:List Txt} {k:Nat} {op:Int} {f:Nat} (h:Runs toks n (y53::rest) k op) (h0:0≤op) (h2:200<op+f):Got toks n rest op k (sumN y3c) (y20 toks (y4t toks L f) L k):=by
 obtain ⟨m,t,rfl,ht,hA⟩:=x36 h;rcases hA with ⟨hF,h⟩|⟨_,h⟩
 ·obtain ⟨a,k',m1,e,hr,hm,hN⟩:=z0m hE L hL z03 y8v (y4t toks L f) y3c y3h op (fun ho n rest k h=>x8n hE L hL h (by omega) (by omega) (by omega))
   (fun n rest k op t h ht=>by
     obtain ⟨m,t',_,ht',hA⟩:=x1p h
     rw [ht] at ht';injection ht' with ht';subst ht'
     rcases hA with ⟨hF,_⟩|⟨_,⟨hF,_⟩|⟨_,h⟩⟩
     ·exact y9r hE ht hF (by decide+kernel)
     ·exact y9r hE ht hF (by decide+kernel)
     ·exact h.elim)
   (fun n rest k op h=>by
     obtain ⟨m,t,rfl,ht,hA⟩:=x70 h;rcases hA with ⟨_,h⟩|⟨_,⟨_,h⟩|⟨_,h⟩⟩
     ·exact ⟨m,t,rfl,ht,.inl h⟩
     ·exact ⟨m,t,rfl,ht,.inr h⟩
     ·exact ⟨m,t,rfl,ht,.inr h⟩) h
  exact ⟨a,k',m1,e,hr,by omega,hN⟩
 ·exact h.elim
theorem z0n (hE:TokA toks) (L:Nat) (hL:toks.length≤L) {n:Nat} {rest:List Txt} {k:Nat} {op:Int} {f:Nat} (h:Runs toks n (y27::rest) k op) (h0:0≤op) (h2:200<op+f):Got toks n rest op k (sumN y3c) (y20 toks (y4t toks L f) L k):=by
 obtain ⟨m,t,rfl,ht,hA⟩:=x7z h;rcases hA with ⟨hF,h⟩|⟨hF,h⟩
 ·obtain ⟨a,k',m1,e,hr,hm,hN⟩:=z20 hE L hL h h0 h2;exact ⟨a,k',m1,e,hr,by omega,hN⟩
 ·have h:Runs toks m rest k op:=by rcases h with ⟨_,h⟩|⟨_,h⟩<;>exact h
  rw [z57 hE _ L ht (y16 hF (by decide+kernel))];exact ⟨_,_,m,rfl,h,by omega,by simp [sumN]⟩
theorem z4s (hE:TokA toks) (L:Nat) (hL:toks.length≤L) {n:Nat} {rest:List Txt} {k:Nat} {op:Int} {f:Nat} (h:Runs toks n (y8y::rest) k op) (h0:0≤op) (h2:200<op+f):Got toks n rest op k (sumN y3x) (y20 toks (y6u toks L f) L k):=by
 obtain ⟨m,t,rfl,ht,hA⟩:=x79 h;rcases hA with ⟨hF,h⟩|⟨_,h⟩
 ·obtain ⟨a,k',m1,e,hr,hm,hN⟩:=z0m hE L hL z74 z2u (y6u toks L f) y3x (fun d=>Nat.succ_pos _) op (fun ho n rest k h=>x8o hE L hL h (by omega) (by omega))
   (fun n rest k op t h ht=>by
     obtain ⟨m,t',_,ht',hA⟩:=x8b h
     rw [ht] at ht';injection ht' with ht';subst ht'
     rcases hA with ⟨hF,_⟩|⟨_,⟨hF,_⟩|⟨_,h⟩⟩
     ·exact y9r hE ht hF (by decide+kernel)
     ·exact y9r hE ht hF (by decide+kernel)
     ·exact h.elim)
   (fun n rest k op h=>by
     obtain ⟨m,t,rfl,ht,hA⟩:=q1g h;rcases hA with ⟨_,h⟩|⟨_,⟨_,h⟩|⟨_,h⟩⟩
     ·exact ⟨m,t,rfl,ht,.inl h⟩
     ·exact ⟨m,t,rfl,ht,.inr h⟩
     ·exact ⟨m,t,rfl,ht,.inr h⟩) h
  exact ⟨a,k',m1,e,hr,by omega,hN⟩
 ·exact h.elim
theorem z8c (hE:TokA toks) (L:Nat) (hL:toks.length≤L) {n:Nat} {rest:List Txt} {k:Nat} {op:Int} {f:Nat} (h:Runs toks n (y9q::rest) k op) (h0:0≤op) (h2:200<op+f):Got toks n rest op k (sumN y3x) (y20 toks (y6u toks L f) L k):=by
 obtain ⟨m,t,rfl,ht,hA⟩:=q1f h;rcases hA with ⟨hF,h⟩|⟨hF,h⟩
 ·obtain ⟨a,k',m1,e,hr,hm,hN⟩:=z4s hE L hL h h0 h2;exact ⟨a,k',m1,e,hr,by omega,hN⟩
 ·have h:Runs toks m rest k op:=by rcases h with ⟨_,h⟩|⟨_,h⟩<;>exact h
  rw [z57 hE _ L ht (y16 hF (by decide+kernel))];exact ⟨_,_,m,rfl,h,by omega,by simp [sumN]⟩
theorem x8q {α:Type}: ∀l:List α,sumN (fun _=>1) l=l.length
 |[]=>rfl
 |_::r=>by simp only [sumN,x8q r,List.length_cons];omega
theorem z21 (hE:TokA toks) (L:Nat) (hL:toks.length≤L) {n:Nat} {rest:List Txt} {k:Nat} {op:Int} (h:Runs toks n (y5h::rest) k op) (h0:0≤op):Got toks n rest op k (fun l=>l.length) (y20 toks (z10 toks) L k):=by
 obtain ⟨m,t,rfl,ht,hA⟩:=x1o h;rcases hA with ⟨hF,h⟩|⟨_,h⟩
 ·obtain ⟨a,k',m1,e,hr,hm,hN⟩:=z0m hE L hL z73 z2t (z10 toks) (fun _=>1) (fun _=>Nat.one_pos) op (fun ho n rest k h=>q1v hE h)
   (fun n rest k op t h ht=>by
     obtain ⟨m,t',_,ht',hA⟩:=x7w h
     rw [ht] at ht';injection ht' with ht';subst ht'
     rcases hA with ⟨hF,_⟩|⟨_,h⟩
     ·exact y9r hE ht hF (by decide+kernel)
     ·exact h.elim)
   (fun n rest k op h=>by
     obtain ⟨m,t,rfl,ht,hA⟩:=q1d h;rcases hA with ⟨_,h⟩|⟨_,⟨_,h⟩|⟨_,h⟩⟩
     ·exact ⟨m,t,rfl,ht,.inl h⟩
     ·exact ⟨m,t,rfl,ht,.inr h⟩
     ·exact ⟨m,t,rfl,ht,.inr h⟩) h
  exact ⟨a,k',m1,e,hr,by omega,by simp only at hN;rw [x8q] at hN;exact hN⟩
 ·exact h.elim
theorem x4m (hE:TokA toks) (L:Nat) (hL:toks.length≤L) {n:Nat} {rest:List Txt} {k:Nat} {op:Int} (h:Runs toks n (y8t::rest) k op) (h0:0≤op):Got toks n rest op k (fun l=>l.length) (y20 toks (z10 toks) L k):=by
 obtain ⟨m,t,rfl,ht,hA⟩:=x7t h;rcases hA with ⟨hF,h⟩|⟨hF,h⟩
 ·obtain ⟨a,k',m1,e,hr,hm,hN⟩:=z21 hE L hL h h0;exact ⟨a,k',m1,e,hr,by omega,hN⟩
 ·have h:Runs toks m rest k op:=by rcases h with ⟨_,h⟩|⟨_,h⟩<;>exact h
  rw [z57 hE _ L ht (y16 hF (by decide+kernel))];exact ⟨_,_,m,rfl,h,by omega,by simp⟩
theorem z23 (hE:TokA toks) (L f:Nat) (hL:0<L) {k:Nat} {t:TokD} (ht:toks[k]?=some t) {F:List Txt} (hF:fits F t=true) (hn:F.contains [64]=false):y4i toks L f k=some ([],k):=by
 obtain ⟨fu,rfl⟩: ∃g,L=g+1:=⟨L - 1,by omega⟩;unfold y4i;rw [y75,ht,Option.bind_some,if_neg (by rw [y62 (hE.wf k t ht) (by decide) hF hn];decide)]
theorem x4n {t:TokD} (h:y1a [46,112,108,97,99,101] t=true):t.kind=3:=by
 have:((t.kind==3)&&y3q t.text y4d)=true:=h;simp only [Qao,Qa7] at this;exact this.1
theorem z26 (hE:TokA toks) (L:Nat) (hL:toks.length≤L) {n:Nat} {rest:List Txt} {k:Nat} {op:Int} (h:Runs toks n (y52::rest) k op):Got toks n rest op k (fun l=>l.length) (optF toks [105,109,112,108,101,109,101,110,116,115] [38] L k):=by
 obtain ⟨m,t,rfl,ht,hA⟩:=x33 h;have hW:=hE.wf _ t ht;rcases hA with ⟨hF,h⟩|⟨_,h⟩
 ·obtain ⟨m1,rfl,hf,hn,hl,h⟩:=h.t0 hE ht;unfold optF;rw [ht,Option.bind_some,if_pos (by rw [z0k hW (by decide)];exact hf)];obtain ⟨a,k',m2,e,hr,hm,hN⟩:=z0l hE 38 (by decide) (by decide+kernel) z56 y8u nAMP (by decide+kernel) (by decide+kernel) (fun t h=>z2x h) x7y q6d L hL (by omega) h;exact ⟨a,k',m2,e,hr,by omega,by simp only at hN ⊢;omega⟩
 ·exact h.elim
theorem z27 (hE:TokA toks) (L:Nat) {k:Nat} {t:TokD} (ht:toks[k]?=some t) (hf:y1a [39,105,109,112,108,101,109,101,110,116,115] t=false):optF toks [105,109,112,108,101,109,101,110,116,115] [38] L k=some ([],k):=by
 unfold optF;rw [ht,Option.bind_some,if_neg (by rw [z0k (hE.wf k t ht) (by decide),hf];decide)]
theorem x4o (hE:TokA toks) (L:Nat) (hL:toks.length≤L) {n:Nat} {rest:List Txt} {k:Nat} {op:Int} (h:Runs toks n (y45::rest) k op):Got toks n rest op k (fun l=>l.length) (optF toks [105,109,112,108,101,109,101,110,116,115] [38] L k):=by
 obtain ⟨m,t,rfl,ht,hA⟩:=x7x h;rcases hA with ⟨hF,h⟩|⟨hF,h⟩
 ·obtain ⟨a,k',m2,e,hr,hm,hN⟩:=z26 hE L hL h;exact ⟨a,k',m2,e,hr,by omega,hN⟩
 ·have h:Runs toks m rest k op:=by rcases h with ⟨_,h⟩|⟨_,h⟩<;>exact h
  rw [z27 hE L ht (y16 hF (by decide+kernel))];exact ⟨_,_,m,rfl,h,by omega,by simp⟩
theorem z04 (hE:TokA toks) (L:Nat) (hL:toks.length≤L) {n:Nat} {rest:List Txt} {k:Nat} {op:Int} (h:Runs toks n (y4q::rest) k op):Got toks n rest op k (fun l=>l.length) (optF toks [61] [124] L k):=by
 obtain ⟨m,t,rfl,ht,hA⟩:=z9y h;have hW:=hE.wf _ t ht;rcases hA with ⟨hF,h⟩|⟨_,h⟩
 ·obtain ⟨m1,rfl,hf,hn,hl,h⟩:=h.t0 hE ht;unfold optF;rw [ht,Option.bind_some,if_pos (by rw [y00 hW (by decide)];exact hf)];obtain ⟨a,k',m2,e,hr,hm,hN⟩:=z0l hE 124 (by decide) (by decide+kernel) z56 y54 nBAR (by decide+kernel) (by decide+kernel) (fun t h=>z2x h) x4e q2h L hL (by omega) h;exact ⟨a,k',m2,e,hr,by omega,by simp only at hN ⊢;omega⟩
 ·exact h.elim
theorem z28 (hE:TokA toks) (L:Nat) (hL:toks.length≤L) {n:Nat} {rest:List Txt} {k:Nat} {op:Int} (h:Runs toks n (y39::rest) k op):Got toks n rest op k (fun l=>l.length) (optF toks [61] [124] L k):=by
 obtain ⟨m,t,rfl,ht,hA⟩:=x4d h;rcases hA with ⟨hF,h⟩|⟨hF,h⟩
 ·obtain ⟨a,k',m2,e,hr,hm,hN⟩:=z04 hE L hL h;exact ⟨a,k',m2,e,hr,by omega,hN⟩
 ·have h:Runs toks m rest k op:=by rcases h with ⟨_,h⟩|⟨_,h⟩<;>exact h
  unfold optF;rw [ht,Option.bind_some,if_neg (by rw [y00 (hE.wf k t ht) (by decide),y16 hF (by decide+kernel)];decide)];exact ⟨_,_,m,rfl,h,by omega,by simp⟩
section body
variable (hE : TokA toks) (L : Nat) (hL : toks.length ≤ L) (f : Nat) (h2 : 200 < f) (hd : NoteD × Bool × TokD × Nat) {k0 : Nat} (hk0 : k0 + 1 ≤ hd.2.2.2)
include hE hL h2 hk0
theorem z29 {n:Nat} {st:List Txt} {rest:List Txt} (h:Runs toks n (st++rest) hd.2.2.2 0) (hst:st=[y04,y5h]∨st=[nDIR,y04,y8t]∨st=[y5h]):Got toks n rest 0 k0 defN (y95 toks L f hd):=by
 unfold y95
 have fin: ∀n k1 ds,Got toks n rest 0 k1 (fun l=>l.length) (y20 toks (z10 toks) L k1)→y4i toks L f hd.2.2.2=some (ds,k1)→sumN dirN ds+hd.2.2.2≤k1→Got toks n rest 0 k0 defN ((y4i toks L f hd.2.2.2).bind fun d=>(y20 toks (z10 toks) L d.2).bind fun r=>some ((⟨1,hd.2.1,hd.1,[],[],d.1,[],[],[],[],r.1,false,[],hd.2.2.1.line,hd.2.2.1.col⟩:DefD),r.2)):=by
  rintro n k1 ds ⟨a,k',m1,e,hr,hm,hN⟩ hds hsz;rw [hds,Option.bind_some,e,Option.bind_some];exact ⟨_,_,m1,rfl,hr,hm,by simp only [defN,sumN,List.length_nil] at hN ⊢;omega⟩
 rcases hst with rfl|rfl|rfl
 ·obtain ⟨a,k',m1,e,hr,hm,hN⟩:=y18 hE L hL h (by omega) (by omega:200<(0:Int)+(f:Nat)) (by omega:0<hd.2.2.2);have hg:=z21 hE L hL hr (Int.le_refl _);obtain ⟨x,y,z,g1,g2,g3,g4⟩:=fin _ _ _ hg e hN;exact ⟨x,y,z,g1,g2,by omega,g4⟩
 ·obtain ⟨a,k',m1,e,hr,hm,hN⟩:=y7r hE L hL h (by omega) (by omega:200<(0:Int)+(f:Nat)) (by omega:0<hd.2.2.2);have hg:=x4m hE L hL hr (Int.le_refl _);obtain ⟨x,y,z,g1,g2,g3,g4⟩:=fin _ _ _ hg e hN;exact ⟨x,y,z,g1,g2,by omega,g4⟩
 ·have hg:=z21 hE L hL h (Int.le_refl _);obtain ⟨m,t,_,ht,hA⟩:=x1o h;rcases hA with ⟨hF,_⟩|⟨_,hA⟩
  ·have hlt:=(Qac.1 ht).1;exact fin _ _ _ hg (z23 hE L f (by omega) ht hF (by decide+kernel)) (by simp [sumN])
  ·exact hA.elim
theorem z8d {n:Nat} {st:List Txt} {rest:List Txt} (h:Runs toks n (z56::(st++rest)) hd.2.2.2 0) (hst:st=[y04]∨st=[nDIR,y04]):Got toks n rest 0 k0 defN (y96 toks L f hd):=by
 obtain ⟨t,ht⟩:=h.tok;obtain ⟨m1,rfl,hf,hn,hl,h⟩:=h.t0 hE ht;unfold y96;rw [ht,Option.bind_some,hn]
 have hg:Got toks m1 rest 0 (hd.2.2.2+1) (sumN dirN) (y4i toks L f (hd.2.2.2+1)):=by
  rcases hst with rfl|rfl
  ·exact y18 hE L hL h (by omega) (by omega) (by omega)
  ·exact y7r hE L hL h (by omega) (by omega) (by omega)
 obtain ⟨a,k',m2,e,hr,hm,hN⟩:=hg;rw [e,Option.bind_some];exact ⟨_,_,m2,rfl,hr,by omega,by simp only [defN,sumN,List.length_nil] at hN ⊢;omega⟩
theorem y9s (kind:Int) {n:Nat} {st:List Txt} {rest:List Txt} (h:Runs toks n (z56::(st++rest)) hd.2.2.2 0) (hst:st=[y45,y04,y27]∨st=[y38]):Got toks n rest 0 k0 defN (y42 kind toks L f hd):=by
 obtain ⟨t,ht⟩:=h.tok;obtain ⟨m1,rfl,hf,hn,hl,h⟩:=h.t0 hE ht
 have hg: ∃is k1 ds k2,optF toks [105,109,112,108,101,109,101,110,116,115] [38] L (hd.2.2.2+1)=some (is,k1)∧y4i toks L f k1=some (ds,k2)∧is.length+(hd.2.2.2+1)≤k1∧sumN dirN ds+k1≤k2∧Got toks m1 rest 0 k2 (sumN y3c) (y20 toks (y4t toks L f) L k2):=by
  rcases hst with rfl|rfl
  ·obtain ⟨a,k1,m2,e,hr,hm,hN⟩:=x4o hE L hL h;obtain ⟨b,k2,m3,e2,hr2,hm2,hN2⟩:=y18 hE L hL hr (by omega) (by omega:200<(0:Int)+(f:Nat)) (by omega);obtain ⟨x,y,z,g1,g2,g3,g4⟩:=z0n hE L hL hr2 (Int.le_refl _) (by omega:200<(0:Int)+(f:Nat));exact ⟨a,k1,b,k2,e,e2,hN,hN2,x,y,z,g1,g2,by omega,g4⟩
  ·obtain ⟨m2,t2,rfl,ht2,hA⟩:=x31 h;rcases hA with ⟨hF,h⟩|⟨hF0,⟨hF,h⟩|⟨_,⟨hF,h⟩|⟨_,hA⟩⟩⟩
   ·obtain ⟨a,k1,m2,e,hr,hm,hN⟩:=z26 hE L hL h;obtain ⟨b,k2,m3,e2,hr2,hm2,hN2⟩:=y18 hE L hL hr (by omega) (by omega:200<(0:Int)+(f:Nat)) (by omega);obtain ⟨x,y,z,g1,g2,g3,g4⟩:=z0n hE L hL hr2 (Int.le_refl _) (by omega:200<(0:Int)+(f:Nat));exact ⟨a,k1,b,k2,e,e2,hN,hN2,x,y,z,g1,g2,by omega,g4⟩
   ·obtain ⟨b,k2,m3,e2,hr2,hm2,hN2⟩:=y7r hE L hL h (by omega) (by omega:200<(0:Int)+(f:Nat)) (by omega);obtain ⟨x,y,z,g1,g2,g3,g4⟩:=z0n hE L hL hr2 (Int.le_refl _) (by omega:200<(0:Int)+(f:Nat));exact ⟨[],_,b,k2,z27 hE L ht2 (y16 hF0 (by decide+kernel)),e2,by simp,hN2,x,y,z,g1,g2,by omega,g4⟩
   ·obtain ⟨x,y,z,g1,g2,g3,g4⟩:=z20 hE L hL h (Int.le_refl _) (by omega:200<(0:Int)+(f:Nat));exact ⟨[],_,[],_,z27 hE L ht2 (y16 hF0 (by decide+kernel)),z23 hE L f (by omega) ht2 hF (by decide+kernel),by simp,by simp [sumN],x,y,z,g1,g2,by omega,g4⟩
   ·exact hA.elim
 obtain ⟨is,k1,ds,k2,e1,e2,hN1,hN2,a,k',m2,e,hr,hm,hN⟩:=hg;unfold y42;rw [ht,Option.bind_some,hn,e1,Option.bind_some,e2,Option.bind_some,e,Option.bind_some];exact ⟨_,_,m2,rfl,hr,by omega,by simp only [defN,sumN,List.length_nil] at hN ⊢;omega⟩
theorem x1u {n:Nat} {st:List Txt} {rest:List Txt} (h:Runs toks n (z56::(st++rest)) hd.2.2.2 0) (hst:st=[y04,y39]∨st=[z0i]):Got toks n rest 0 k0 defN (z34 toks L f hd):=by
 obtain ⟨t,ht⟩:=h.tok;obtain ⟨m1,rfl,hf,hn,hl,h⟩:=h.t0 hE ht
 have hg: ∃ds k2,y4i toks L f (hd.2.2.2+1)=some (ds,k2)∧sumN dirN ds+(hd.2.2.2+1)≤k2∧Got toks m1 rest 0 k2 (fun l=>l.length) (optF toks [61] [124] L k2):=by
  rcases hst with rfl|rfl
  ·obtain ⟨b,k2,m3,e2,hr2,hm2,hN2⟩:=y18 hE L hL h (by omega) (by omega:200<(0:Int)+(f:Nat)) (by omega);obtain ⟨x,y,z,g1,g2,g3,g4⟩:=z28 hE L hL hr2;exact ⟨b,k2,e2,hN2,x,y,z,g1,g2,by omega,g4⟩
  ·obtain ⟨m2,t2,rfl,ht2,hA⟩:=x77 h;rcases hA with ⟨hF,h⟩|⟨_,⟨hF,h⟩|⟨_,hA⟩⟩
   ·obtain ⟨b,k2,m3,e2,hr2,hm2,hN2⟩:=y7r hE L hL h (by omega) (by omega:200<(0:Int)+(f:Nat)) (by omega);obtain ⟨x,y,z,g1,g2,g3,g4⟩:=z28 hE L hL hr2;exact ⟨b,k2,e2,hN2,x,y,z,g1,g2,by omega,g4⟩
   ·obtain ⟨x,y,z,g1,g2,g3,g4⟩:=z04 hE L hL h;exact ⟨[],_,z23 hE L f (by omega) ht2 hF (by decide+kernel),by simp [sumN],x,y,z,g1,g2,by omega,g4⟩
   ·exact hA.elim
 obtain ⟨ds,k2,e2,hN2,a,k',m2,e,hr,hm,hN⟩:=hg;unfold z34;rw [ht,Option.bind_some,hn,e2,Option.bind_some,e,Option.bind_some];exact ⟨_,_,m2,rfl,hr,by omega,by simp only [defN,sumN,List.length_nil] at hN ⊢;omega⟩
theorem x8r {n:Nat} {st:List Txt} {rest:List Txt} (h:Runs toks n (z56::(st++rest)) hd.2.2.2 0) (hst:st=[y04,y9q]∨st=[z4p]):Got toks n rest 0 k0 defN (x20 toks L f hd):=by
 obtain ⟨t,ht⟩:=h.tok;obtain ⟨m1,rfl,hf,hn,hl,h⟩:=h.t0 hE ht
 have hg: ∃ds k2,y4i toks L f (hd.2.2.2+1)=some (ds,k2)∧sumN dirN ds+(hd.2.2.2+1)≤k2∧Got toks m1 rest 0 k2 (sumN y3x) (y20 toks (y6u toks L f) L k2):=by
  rcases hst with rfl|rfl
  ·obtain ⟨b,k2,m3,e2,hr2,hm2,hN2⟩:=y18 hE L hL h (by omega) (by omega:200<(0:Int)+(f:Nat)) (by omega);obtain ⟨x,y,z,g1,g2,g3,g4⟩:=z8c hE L hL hr2 (Int.le_refl _) (by omega:200<(0:Int)+(f:Nat));exact ⟨b,k2,e2,hN2,x,y,z,g1,g2,by omega,g4⟩
  ·obtain ⟨m2,t2,rfl,ht2,hA⟩:=q1j h;rcases hA with ⟨hF,h⟩|⟨_,⟨hF,h⟩|⟨_,hA⟩⟩
   ·obtain ⟨b,k2,m3,e2,hr2,hm2,hN2⟩:=y7r hE L hL h (by omega) (by omega:200<(0:Int)+(f:Nat)) (by omega);obtain ⟨x,y,z,g1,g2,g3,g4⟩:=z8c hE L hL hr2 (Int.le_refl _) (by omega:200<(0:Int)+(f:Nat));exact ⟨b,k2,e2,hN2,x,y,z,g1,g2,by omega,g4⟩
   ·obtain ⟨x,y,z,g1,g2,g3,g4⟩:=z4s hE L hL h (Int.le_refl _) (by omega:200<(0:Int)+(f:Nat));exact ⟨[],_,z23 hE L f (by omega) ht2 hF (by decide+kernel),by simp [sumN],x,y,z,g1,g2,by omega,g4⟩
   ·exact hA.elim
 obtain ⟨ds,k2,e2,hN2,a,k',m2,e,hr,hm,hN⟩:=hg;unfold x20;rw [ht,Option.bind_some,hn,e2,Option.bind_some,e,Option.bind_some];exact ⟨_,_,m2,rfl,hr,by omega,by simp only [defN,sumN,List.length_nil] at hN ⊢;omega⟩
theorem x1v {n:Nat} {st:List Txt} {rest:List Txt} (h:Runs toks n (z56::(st++rest)) hd.2.2.2 0) (hst:st=[y04,y55]∨st=[z0j]):Got toks n rest 0 k0 defN (z35 toks L f hd):=by
 obtain ⟨t,ht⟩:=h.tok;obtain ⟨m1,rfl,hf,hn,hl,h⟩:=h.t0 hE ht
 have hg: ∃ds k2,y4i toks L f (hd.2.2.2+1)=some (ds,k2)∧sumN dirN ds+(hd.2.2.2+1)≤k2∧Got toks m1 rest 0 k2 (sumN y14) (y3g toks [123] [125] L f k2):=by
  rcases hst with rfl|rfl
  ·obtain ⟨b,k2,m3,e2,hr2,hm2,hN2⟩:=y18 hE L hL h (by omega) (by omega:200<(0:Int)+(f:Nat)) (by omega);obtain ⟨x,y,z,g1,g2,g3,g4⟩:=z4r hE L hL hr2 (Int.le_refl _) (by omega) (by omega:200<(0:Int)+(f:Nat));exact ⟨b,k2,e2,hN2,x,y,z,g1,g2,by omega,g4⟩
  ·obtain ⟨m2,t2,rfl,ht2,hA⟩:=x8f h;rcases hA with ⟨hF,h⟩|⟨_,⟨hF,h⟩|⟨_,hA⟩⟩
   ·obtain ⟨b,k2,m3,e2,hr2,hm2,hN2⟩:=y7r hE L hL h (by omega) (by omega:200<(0:Int)+(f:Nat)) (by omega);obtain ⟨x,y,z,g1,g2,g3,g4⟩:=z4r hE L hL hr2 (Int.le_refl _) (by omega) (by omega:200<(0:Int)+(f:Nat));exact ⟨b,k2,e2,hN2,x,y,z,g1,g2,by omega,g4⟩
   ·obtain ⟨x,y,z,g1,g2,g3,g4⟩:=z2z hE L hL h (Int.le_refl _) (by omega) (by omega:200<(0:Int)+(f:Nat));exact ⟨[],_,z23 hE L f (by omega) ht2 hF (by decide+kernel),by simp [sumN],x,y,z,g1,g2,by omega,g4⟩
   ·exact hA.elim
 obtain ⟨ds,k2,e2,hN2,a,k',m2,e,hr,hm,hN⟩:=hg;unfold z35;rw [ht,Option.bind_some,hn,e2,Option.bind_some,e,Option.bind_some];exact ⟨_,_,m2,rfl,hr,by omega,by simp only [defN,sumN,List.length_nil] at hN ⊢;omega⟩
theorem q6h {n:Nat} {rest:List Txt} (h:Runs toks n ([64]::z56::y61::z2w::[39,111,110]::nBAR::[46,112,108,97,99,101]::y47::rest) hd.2.2.2 0):Got toks n rest 0 k0 defN (dirF toks L f hd):=by
 obtain ⟨t,ht⟩:=h.tok;have hW:=hE.wf _ t ht;obtain ⟨m1,rfl,hf,hn,hl,h⟩:=h.t0 hE ht;obtain ⟨t3,ht3⟩:=h.tok;obtain ⟨m2,rfl,hf3,hn3,hl3,h⟩:=h.t0 hE ht3;obtain ⟨a,k1,m3,e1,hr,hm1,hN1⟩:=z2y hE L hL h (Int.le_refl _) (by omega) (by omega:200<(0:Int)+(f:Nat))
 have hrep: ∃k2 m4 t5,toks[k1]?=some t5∧(if isF t5 [114,101,112,101,97,116,97,98,108,101]=true then k1+1 else k1)=k2∧k1≤k2∧m4<m3∧Runs toks m4 ([39,111,110]::nBAR::[46,112,108,97,99,101]::y47::rest) k2 0:=by
  obtain ⟨m4,t5,rfl,ht5,hA⟩:=x8g hr;have hW5:=hE.wf _ t5 ht5;rcases hA with ⟨hF,h⟩|⟨hF,h⟩
  ·obtain ⟨m5,rfl,hf5,hn5,hl5,h⟩:=h.t0 hE ht5;exact ⟨k1+1,m5,t5,ht5,if_pos (by rw [z0k hW5 (by decide)];exact hf5),by omega,by omega,h⟩
  ·have h:Runs toks m4 ([39,111,110]::nBAR::[46,112,108,97,99,101]::y47::rest) k1 0:=by rcases h with ⟨_,h⟩|⟨_,h⟩<;>exact h
   exact ⟨k1,m4,t5,ht5,if_neg (by rw [z0k hW5 (by decide),y16 hF (by decide+kernel)];decide),by omega,by omega,h⟩
 obtain ⟨k2,m4,t5,ht5,hk2,hle,hm4,h⟩:=hrep;obtain ⟨t6,ht6⟩:=h.tok;have hW6:=hE.wf _ t6 ht6;obtain ⟨m5,rfl,hf6,hn6,hl6,h⟩:=h.t0 hE ht6;obtain ⟨b,k3,m6,e2,hr2,hm2,hN2⟩:=z0l hE 124 (by decide) (by decide+kernel) [46,112,108,97,99,101] y47 nBAR (by decide+kernel) (by decide+kernel) (fun t h=>x4n h) x8h q2h L hL (by omega) h;unfold dirF;rw [ht,Option.bind_some,if_pos (by rw [y00 hW (by decide)];exact hf),ht3,Option.bind_some,hn3,e1,Option.bind_some,ht5,Option.bind_some,hk2,ht6,Option.bind_some,if_pos (by rw [z0k hW6 (by decide)];exact hf6),e2,Option.bind_some];exact ⟨_,_,m6,rfl,hr2,by omega,by simp only [defN,sumN,List.length_nil] at hN1 hN2 ⊢;omega⟩
end body
end
section
variable {toks : List TokD} (hE : TokA toks) (L : Nat) (hL : toks.length ≤ L) (f : Nat) (h2 : 200 < f)
theorem kw {t:TokD} {w:Txt} (hw: ∀t,y1a (39::w) t=((t.kind==3)&&decide (t.text=w))) (h:y1a (39::w) t=true):t.text=w:=by
 rw [hw] at h;simp only [Qao,decide_eq_true_eq] at h;exact h.2
theorem y63 {t:TokD} {w:Txt} (h:t.text=w) (hw:w≠[101,120,116,101,110,100]):isF t [101,120,116,101,110,100]=false:=by
 unfold isF;rw [h,Qa4 hw];rfl
theorem q2l {h:NoteD×Bool×TokD×Nat} (hk:h.2.2.1.text=[115,99,104,101,109,97]):y5b toks L f h=y95 toks L f h:=by
 have e:y4s [115,99,104,101,109,97]=1:=by decide+kernel
 unfold y5b;rw [hk,e];rfl
theorem q2m {h:NoteD×Bool×TokD×Nat} (hk:h.2.2.1.text=[115,99,97,108,97,114]):y5b toks L f h=y96 toks L f h:=by
 have e:y4s [115,99,97,108,97,114]=2:=by decide+kernel
 unfold y5b;rw [hk,e];rfl
theorem q2n {h:NoteD×Bool×TokD×Nat} (hk:h.2.2.1.text=[116,121,112,101]):y5b toks L f h=y42 3 toks L f h:=by
 have e:y4s [116,121,112,101]=3:=by decide+kernel
 unfold y5b;rw [hk,e];rfl
theorem q2o {h:NoteD×Bool×TokD×Nat} (hk:h.2.2.1.text=[105,110,116,101,114,102,97,99,101]):y5b toks L f h=y42 4 toks L f h:=by
 have e:y4s [105,110,116,101,114,102,97,99,101]=4:=by decide+kernel
 unfold y5b;rw [hk,e];rfl
theorem q2p {h:NoteD×Bool×TokD×Nat} (hk:h.2.2.1.text=[117,110,105,111,110]):y5b toks L f h=z34 toks L f h:=by
 have e:y4s [117,110,105,111,110]=5:=by decide+kernel
 unfold y5b;rw [hk,e];rfl
theorem q2q {h:NoteD×Bool×TokD×Nat} (hk:h.2.2.1.text=[101,110,117,109]):y5b toks L f h=x20 toks L f h:=by
 have e:y4s [101,110,117,109]=6:=by decide+kernel
 unfold y5b;rw [hk,e];rfl
theorem q2r {h:NoteD×Bool×TokD×Nat} (hk:h.2.2.1.text=[105,110,112,117,116]):y5b toks L f h=z35 toks L f h:=by
 have e:y4s [105,110,112,117,116]=7:=by decide+kernel
 unfold y5b;rw [hk,e];rfl
theorem q6i {h:NoteD×Bool×TokD×Nat} (hk:h.2.2.1.text=[100,105,114,101,99,116,105,118,101]):y5b toks L f h=dirF toks L f h:=by
 have e:y4s [100,105,114,101,99,116,105,118,101]=8:=by decide+kernel
 unfold y5b;rw [hk,e];rfl
theorem Got.weak {α:Type} {n n':Nat} {rest:List Txt} {op:Int} {k:Nat} {N:α→Nat} {x:Option (α×Nat)} (h:Got toks n rest op k N x) (hn:n≤n'):Got toks n' rest op k N x:=by
 obtain ⟨a,b,c,h1,h2,h3,h4⟩:=h;exact ⟨a,b,c,h1,h2,by omega,h4⟩
include hE hL h2
theorem x1w {n:Nat} {rest:List Txt} {k k0:Nat} {t:TokD} (ht:toks[k]?=some t) (hk0:k0≤k) (note:NoteD) (ext:Bool) (h:Runs toks n (z9p::rest) k 0):
  Got toks n rest 0 k0 defN (y5b toks L f (note,ext,t,k+1))∧isF t [101,120,116,101,110,100]=false∧y0q toks.length k=k+1∧t.kind=3:=by
 obtain ⟨m,t',rfl,ht',hA⟩:=q33 h
 rw [ht] at ht';injection ht' with ht';subst ht'
 have hk3: ∀w,(∀t,y1a (39::w) t=((t.kind==3)&&decide (t.text=w)))→y1a (39::w) t=true→t.kind=3:=fun w hw h=>by
  rw [hw] at h;simp only [Qao,Qa7] at h;exact h.1
 rcases hA with ⟨_,h⟩|⟨_,⟨_,h⟩|⟨_,⟨_,h⟩|⟨_,⟨_,h⟩|⟨_,⟨_,h⟩|⟨_,⟨_,h⟩|⟨_,⟨_,h⟩|⟨_,⟨_,h⟩|⟨_,h⟩⟩⟩⟩⟩⟩⟩⟩
 ·obtain ⟨m1,rfl,hf,hn,hl,h⟩:=h.t0 hE ht;have hx:=kw (fun t=>rfl) hf;rw [q2l L f hx];exact ⟨(z29 hE L hL f h2 (note,ext,t,k+1) (by simp only;omega) (st:=[y04,y5h]) h (.inl rfl)).weak (by omega),y63 hx (by decide),hn,hk3 _ (fun t=>rfl) hf⟩
 ·obtain ⟨m1,rfl,hf,hn,hl,h⟩:=h.t0 hE ht;have hx:=kw (fun t=>rfl) hf;rw [q2m L f hx];exact ⟨(z8d hE L hL f h2 (note,ext,t,k+1) (by simp only;omega) (st:=[y04]) h (.inl rfl)).weak (by omega),y63 hx (by decide),hn,hk3 _ (fun t=>rfl) hf⟩
 ·obtain ⟨m1,rfl,hf,hn,hl,h⟩:=h.t0 hE ht;have hx:=kw (fun t=>rfl) hf;rw [q2n L f hx];exact ⟨(y9s hE L hL f h2 (note,ext,t,k+1) (by simp only;omega) 3 (st:=[y45,y04,y27]) h (.inl rfl)).weak (by omega),y63 hx (by decide),hn,hk3 _ (fun t=>rfl) hf⟩
 ·obtain ⟨m1,rfl,hf,hn,hl,h⟩:=h.t0 hE ht;have hx:=kw (fun t=>rfl) hf;rw [q2o L f hx];exact ⟨(y9s hE L hL f h2 (note,ext,t,k+1) (by simp only;omega) 4 (st:=[y45,y04,y27]) h (.inl rfl)).weak (by omega),y63 hx (by decide),hn,hk3 _ (fun t=>rfl) hf⟩
 ·obtain ⟨m1,rfl,hf,hn,hl,h⟩:=h.t0 hE ht;have hx:=kw (fun t=>rfl) hf;rw [q2p L f hx];exact ⟨(x1u hE L hL f h2 (note,ext,t,k+1) (by simp only;omega) (st:=[y04,y39]) h (.inl rfl)).weak (by omega),y63 hx (by decide),hn,hk3 _ (fun t=>rfl) hf⟩
 ·obtain ⟨m1,rfl,hf,hn,hl,h⟩:=h.t0 hE ht;have hx:=kw (fun t=>rfl) hf;rw [q2q L f hx];exact ⟨(x8r hE L hL f h2 (note,ext,t,k+1) (by simp only;omega) (st:=[y04,y9q]) h (.inl rfl)).weak (by omega),y63 hx (by decide),hn,hk3 _ (fun t=>rfl) hf⟩
 ·obtain ⟨m1,rfl,hf,hn,hl,h⟩:=h.t0 hE ht;have hx:=kw (fun t=>rfl) hf;rw [q2r L f hx];exact ⟨(x1v hE L hL f h2 (note,ext,t,k+1) (by simp only;omega) (st:=[y04,y55]) h (.inl rfl)).weak (by omega),y63 hx (by decide),hn,hk3 _ (fun t=>rfl) hf⟩
 ·obtain ⟨m1,rfl,hf,hn,hl,h⟩:=h.t0 hE ht;have hx:=kw (fun t=>rfl) hf;rw [q6i L f hx];exact ⟨(q6h hE L hL f h2 (note,ext,t,k+1) (by simp only;omega) h).weak (by omega),y63 hx (by decide),hn,hk3 _ (fun t=>rfl) hf⟩
 ·exact h.elim
theorem x8s {n:Nat} {rest:List Txt} {k k0:Nat} {t:TokD} (ht:toks[k]?=some t) (hk0:k0≤k) (note:NoteD) (ext:Bool) (h:Runs toks n (z72::rest) k 0):
  Got toks n rest 0 k0 defN (y5b toks L f (note,ext,t,k+1))∧y0q toks.length k=k+1:=by
 obtain ⟨m,t',rfl,ht',hA⟩:=q1c h
 rw [ht] at ht';injection ht' with ht';subst ht'
 rcases hA with ⟨_,h⟩|⟨_,⟨_,h⟩|⟨_,⟨_,h⟩|⟨_,⟨_,h⟩|⟨_,⟨_,h⟩|⟨_,⟨_,h⟩|⟨_,⟨_,h⟩|⟨_,h⟩⟩⟩⟩⟩⟩⟩
 ·obtain ⟨m1,rfl,hf,hn,hl,h⟩:=h.t0 hE ht;have hx:=kw (fun t=>rfl) hf;rw [q2l L f hx];obtain ⟨m2,t2,rfl,ht2,hA⟩:=x3z h;rcases hA with ⟨_,h⟩|⟨_,⟨_,h⟩|⟨_,h⟩⟩
  ·exact ⟨(z29 hE L hL f h2 (note,ext,t,k+1) (by simp only;omega) (st:=[nDIR,y04,y8t]) h (.inr (.inl rfl))).weak (by omega),hn⟩
  ·exact ⟨(z29 hE L hL f h2 (note,ext,t,k+1) (by simp only;omega) (st:=[y5h]) h (.inr (.inr rfl))).weak (by omega),hn⟩
  ·exact h.elim
 ·obtain ⟨m1,rfl,hf,hn,hl,h⟩:=h.t0 hE ht;have hx:=kw (fun t=>rfl) hf;rw [q2m L f hx];exact ⟨(z8d hE L hL f h2 (note,ext,t,k+1) (by simp only;omega) (st:=[nDIR,y04]) h (.inr rfl)).weak (by omega),hn⟩
 ·obtain ⟨m1,rfl,hf,hn,hl,h⟩:=h.t0 hE ht;have hx:=kw (fun t=>rfl) hf;rw [q2n L f hx];exact ⟨(y9s hE L hL f h2 (note,ext,t,k+1) (by simp only;omega) 3 (st:=[y38]) h (.inr rfl)).weak (by omega),hn⟩
 ·obtain ⟨m1,rfl,hf,hn,hl,h⟩:=h.t0 hE ht;have hx:=kw (fun t=>rfl) hf;rw [q2o L f hx];exact ⟨(y9s hE L hL f h2 (note,ext,t,k+1) (by simp only;omega) 4 (st:=[y38]) h (.inr rfl)).weak (by omega),hn⟩
 ·obtain ⟨m1,rfl,hf,hn,hl,h⟩:=h.t0 hE ht;have hx:=kw (fun t=>rfl) hf;rw [q2p L f hx];exact ⟨(x1u hE L hL f h2 (note,ext,t,k+1) (by simp only;omega) (st:=[z0i]) h (.inr rfl)).weak (by omega),hn⟩
 ·obtain ⟨m1,rfl,hf,hn,hl,h⟩:=h.t0 hE ht;have hx:=kw (fun t=>rfl) hf;rw [q2q L f hx];exact ⟨(x8r hE L hL f h2 (note,ext,t,k+1) (by simp only;omega) (st:=[z4p]) h (.inr rfl)).weak (by omega),hn⟩
 ·obtain ⟨m1,rfl,hf,hn,hl,h⟩:=h.t0 hE ht;have hx:=kw (fun t=>rfl) hf;rw [q2r L f hx];exact ⟨(x1v hE L hL f h2 (note,ext,t,k+1) (by simp only;omega) (st:=[z0j]) h (.inr rfl)).weak (by omega),hn⟩
 ·exact h.elim
theorem q4h {n:Nat} {rest:List Txt} {k:Nat} (h:Runs toks n (nDEF::rest) k 0):Got toks n rest 0 k defN (defF toks L f k)∧ ∃t,toks[k]?=some t∧t.kind≠0:=by
 obtain ⟨m,t,rfl,ht,hA⟩:=q6c h;have hW:=hE.wf _ t ht;unfold defF y6d;rcases hA with ⟨hF,h⟩|⟨hF0,⟨hF,h⟩|⟨_,⟨hF,h⟩|⟨_,h⟩⟩⟩
 ·have hk:=y4y hF (by decide);obtain ⟨p,m1,e,em,h'⟩:=z1i hE ht h;subst em;replace h:=h';obtain ⟨t0,ht0⟩:=h.tok;obtain ⟨hg,hx,hn,_⟩:=x1w hE L hL f h2 ht0 (by omega:k≤k+1) p false h;rw [e,Option.bind_some,ht0,Option.bind_some,hx];simp only [Bool.false_eq_true,if_false];rw [ht0,Option.bind_some,hn,Option.bind_some]
  first|exact ⟨hg.weak (by omega),t,ht,hk⟩|exact ⟨hg.weak (by omega),t,rfl,hk⟩
 ·have hk:=y4y hF (by decide);obtain ⟨hg,hx,hn,_⟩:=x1w hE L hL f h2 ht (Qab k) y6r false h;rw [y5i ht (y16 hF0 (by decide+kernel)),Option.bind_some,ht,Option.bind_some,hx];simp only [Bool.false_eq_true,if_false];rw [ht,Option.bind_some,hn,Option.bind_some]
  first|exact ⟨hg.weak (by omega),t,ht,hk⟩|exact ⟨hg.weak (by omega),t,rfl,hk⟩
 ·have hk:=y4y hF (by decide);obtain ⟨m1,rfl,hf,hn,hl,h⟩:=h.t0 hE ht;obtain ⟨t1,ht1⟩:=h.tok;obtain ⟨hg,hn1⟩:=x8s hE L hL f h2 ht1 (by omega:k≤k+1) y6r true h
  have hx:isF t [101,120,116,101,110,100]=true:=by rw [z0k hW (by decide)];exact hf
  rw [y5i ht (y16 hF0 (by decide+kernel)),Option.bind_some,ht,Option.bind_some,hx];simp only [if_true];rw [ht1,Option.bind_some,hn1,Option.bind_some]
  first|exact ⟨hg.weak (by omega),t,ht,hk⟩|exact ⟨hg.weak (by omega),t,rfl,hk⟩
 ·exact h.elim
theorem q1w: ∀n,
  (∀(k fu:Nat),Runs toks n [z71,endT] k 0→toks.length<fu+k→ ∃defs,y3w toks L f fu k=some defs∧y0k defs+k≤toks.length)∧
  (∀(k fu:Nat),Runs toks n [nDEF,z71,endT] k 0→toks.length<fu+k→ ∃defs,y3w toks L f fu k=some defs∧y0k defs+k≤toks.length):=by
 intro n
 induction n using Nat.strongRecOn with
 |_ n ih=>
  refine ⟨fun k fu h h3=>?_,fun k fu h h3=>?_⟩
  ·obtain ⟨m,t,rfl,ht,hA⟩:=q31 h;have hlt:k<toks.length:=(Qac.1 ht).1;rcases hA with ⟨hF,h⟩|⟨hF,h⟩
   ·exact (ih m (by omega)).2 k fu h h3
   ·have h:Runs toks m [endT] k 0:=by rcases h with ⟨_,h⟩|⟨_,h⟩<;>exact h
    obtain ⟨fu,rfl⟩: ∃g,fu=g+1:=⟨fu - 1,by omega⟩
    have h0:t.kind=0:=by
     unfold Runs at h
     cases m with
     |zero=>cases h
     |succ m=>
      rw [runF,ht] at h;simp only at h;rw [if_neg (by decide),if_neg (by decide)] at h
      cases hf:y1a endT t with
      |false=>rw [hf,if_pos rfl] at h;simp at h
      |true=>have:(t.kind==0)=true:=hf;simpa using this
    rw [y3w,ht,Option.bind_some,if_pos h0];exact ⟨[],rfl,by simp only [y0k,sumN];omega⟩
  ·obtain ⟨⟨a,k',m,e,hr,hm,hN⟩,t,ht,hk⟩:=q4h hE L hL f h2 h;have hlt:k<toks.length:=(Qac.1 ht).1;obtain ⟨fu,rfl⟩: ∃g,fu=g+1:=⟨fu - 1,by omega⟩;have hp:0<defN a:=Nat.succ_pos _;rw [y3w,ht,Option.bind_some,if_neg hk,e,Option.bind_some];obtain ⟨b,e2,hN2⟩:=(ih m hm).1 k' fu hr (by omega);rw [e2,Option.bind_some];exact ⟨_,rfl,by simp only [y0k,sumN] at hN2 ⊢;omega⟩
theorem q4i {n:Nat} (h:Runs toks n [nDOC] 0 0) (hL1:toks.length<L): ∃defs,y3w toks L f L 0=some defs∧y0k defs≤toks.length:=by
 obtain ⟨m,t,rfl,ht,hA⟩:=q6b h;rcases hA with ⟨hF,h⟩|⟨_,h⟩
 ·obtain ⟨d,e,hN⟩:=(q1w hE L hL f h2 m).2 0 L h (by omega);exact ⟨d,e,by omega⟩
 ·exact h.elim
end
end Go.Proofs.YtbpgkkoeehopjaaGreat.acr
namespace Go.Proofs.YtbpgkkoeehopjaaGreat.tot
open Go.RowKit words enc utf ln tree gram rd dat lex acr
set_option maxRecDepth 100000
structure Src (s:List Int) (N:Nat):Prop where
 at_: ∀i,i≤N→ ∃z,s[i]?=some z
 pos: ∀i z,s[i]?=some z→0≤z→i<N
theorem q1x (zs:List Int) (b:Bool):Src (y4r zs b) zs.length:=by
 have hl:zs.length+1≤(y4r zs b).length:=by unfold y4r;cases b<;>simp
 refine ⟨fun i hi=>⟨_,Qad (by omega)⟩,fun i z hz h0=>Nat.lt_of_not_le fun hi=>?_⟩;unfold y4r at hz;rw [Qat,Qba (by simpa using hi)] at hz;have hm:=Qaf hz
 cases b<;>simp at hm<;>omega
theorem z05 {c:Int} {t:Txt} (h:inF c t=true):0≤c:=by
 unfold inF at h;obtain ⟨b,_,hb⟩:=Qbh.1 h;have:=Qa6 hb;omega
theorem q4j {c:Int} {t:Txt} (h:inF c t=true) (ht:(t.all fun b=>decide (b.toNat<128))=true):c<128:=by
 unfold inF at h;obtain ⟨b,hm,hb⟩:=Qbh.1 h;have h1:=Qa6 hb;have h2:=Qa6 (Qbi.1 ht b hm);omega
theorem q1y {c:Int} (h:z48 c=true):0≤c:=by
 unfold z48 at h;rcases Bool.or_eq_true_iff.1 h with h|h
 ·exact z05 h
 ·exact z05 h
theorem x8t {c:Int} (h:z3m c=true):0≤c:=by
 unfold z3m at h;rcases Bool.or_eq_true_iff.1 h with h|h
 ·have:c=65279:=by simpa using h
  omega
 ·exact z05 h
theorem y9t {s:List Int} {i:Nat} {c:Int} (h:y2e s i c=true):s[i]?=some c∧s[i+1]?=some c∧s[i+2]?=some c:=Qa6 h
section
variable {s : List Int} {N : Nat} (hS : Src s N)
include hS
theorem z58: ∀(f i:Nat),i≤N→N<i+f→ ∃j,y8g s f i=some j∧i≤j∧j≤N
 |0,i,h1,h2=>by omega
 |f+1,i,h1,h2=>by
  obtain ⟨z,hz⟩:=hS.at_ i h1;rw [y8g,hz];dsimp only;split
  ·rename_i hr;have hi:=hS.pos i z hz (q1y hr);obtain ⟨j,e,h3,h4⟩:=z58 f (i+1) (by omega) (by omega);exact ⟨j,e,by omega,h4⟩
  ·exact ⟨i,rfl,Qab _,h1⟩
theorem x8u: ∀(f i:Nat),i≤N→N<i+f→ ∃j,comF s f i=some j∧i≤j∧j≤N
 |0,i,h1,h2=>by omega
 |f+1,i,h1,h2=>by
  obtain ⟨z,hz⟩:=hS.at_ i h1;rw [comF,hz];dsimp only;split
  ·rename_i hr;have hi:=hS.pos i z hz hr.1;obtain ⟨j,e,h3,h4⟩:=x8u f (i+1) (by omega) (by omega);exact ⟨j,e,by omega,h4⟩
  ·exact ⟨i,rfl,Qab _,h1⟩
theorem z92: ∀(f i:Nat),i≤N→N+1<i+f→ ∃j,behF s f i=some j∧i≤j∧j≤N
 |0,i,h1,h2=>by omega
 |f+1,i,h1,h2=>by
  obtain ⟨z,hz⟩:=hS.at_ i h1;rw [behF,hz];dsimp only;split
  ·rename_i hr;have hi:=hS.pos i z hz (x8t hr);obtain ⟨j,e,h3,h4⟩:=z92 f (i+1) (by omega) (by omega);exact ⟨j,e,by omega,h4⟩
  ·split
   ·rename_i h35;have hi:=hS.pos i z hz (by omega);obtain ⟨f,rfl⟩: ∃g,f=g+1:=⟨f - 1,by omega⟩
    have e1:comF s (f+1) i=comF s f (i+1):=by rw [comF,hz];dsimp only;rw [if_pos (by omega)]
    obtain ⟨j,e,h3,h4⟩:=x8u hS f (i+1) (by omega) (by omega);rw [e1,e];dsimp only;obtain ⟨q,e2,h5,h6⟩:=z92 (f+1) j (by omega) (by omega);exact ⟨q,e2,by omega,h6⟩
   ·exact ⟨i,rfl,Qab _,h1⟩
theorem z93 (i:Nat): ∀(f j:Nat),j≤N→N<j+f→ ∃r,blkF s i f j=some r∧(r=i∨(j+3≤r∧r≤N))
 |0,j,h1,h2=>by omega
 |f+1,j,h1,h2=>by
  obtain ⟨z,hz⟩:=hS.at_ j h1;rw [blkF,hz];dsimp only;split
  ·exact ⟨i,rfl,.inl rfl⟩
  ·rename_i h0;have hj:=hS.pos j z hz (by omega);split
   ·rename_i h3;have h4:=hS.pos _ _ (y9t h3.2).2.2 (by omega);obtain ⟨r,e,h5⟩:=z93 i f (j+4) (by omega) (by omega);exact ⟨r,e,by omega⟩
   ·split
    ·rename_i h3;have h4:=hS.pos _ _ (y9t h3).2.2 (by omega);exact ⟨j+3,rfl,.inr ⟨Qab _,by omega⟩⟩
    ·obtain ⟨r,e,h5⟩:=z93 i f (j+1) (by omega) (by omega);exact ⟨r,e,by omega⟩
theorem z94 (i:Nat): ∀(f j:Nat),j≤N→N<j+f→ ∃r,quoF s i f j=some r∧(r=i∨(j+1≤r∧r≤N))
 |0,j,h1,h2=>by omega
 |f+1,j,h1,h2=>by
  obtain ⟨z,hz⟩:=hS.at_ j h1;rw [quoF,hz];dsimp only;split
  ·rename_i h0;have hj:=hS.pos j z hz h0.1;split
   ·exact ⟨j+1,rfl,.inr ⟨Qab _,by omega⟩⟩
   ·split
    ·obtain ⟨y,hy⟩:=hS.at_ (j+1) (by omega);rw [hy];dsimp only;split
     ·exact ⟨i,rfl,.inl rfl⟩
     ·rename_i h3;have h4:=hS.pos _ _ hy (by omega);obtain ⟨r,e,h5⟩:=z94 i f (j+2) (by omega) (by omega);exact ⟨r,e,by omega⟩
    ·obtain ⟨r,e,h5⟩:=z94 i f (j+1) (by omega) (by omega);exact ⟨r,e,by omega⟩
  ·exact ⟨i,rfl,.inl rfl⟩
def Good (N i:Nat) (r:Nat×Int×Txt) (P:Int→Prop):Prop:=(r.1=i∧(r.2.1=0∨r.2.1=1))∨(i<r.1∧r.1≤N∧P r.2.1)
theorem q1z (hN:s.length≤N+2) (f i:Nat) (hi:i<N) (hf:N<i+f): ∃r,z6r s f i=some r∧Good N i r fun k=>k=6∨k=7:=by
 have hlen:N<s.length:=by obtain ⟨z,hz⟩:=hS.at_ N (Qab _);exact (Qac.1 hz).1
 unfold z6r;split
 ·rename_i h3;have h4:=hS.pos _ _ (y9t h3).2.2 (by omega);obtain ⟨j,e,hj⟩:=z93 hS i f (i+3) (by omega) (by omega);rw [e];dsimp only;split
  ·exact ⟨_,rfl,.inl ⟨rfl,.inr rfl⟩⟩
  ·rw [if_pos (by omega)];split
   ·exact ⟨_,rfl,.inr ⟨by dsimp only;omega,by dsimp only;omega,.inr rfl⟩⟩
   ·exact ⟨_,rfl,.inl ⟨rfl,.inr rfl⟩⟩
 ·obtain ⟨j,e,hj⟩:=z94 hS i f (i+1) (by omega) (by omega);rw [e];dsimp only;split
  ·exact ⟨_,rfl,.inl ⟨rfl,.inr rfl⟩⟩
  ·rw [if_pos (by omega)];split
   ·exact ⟨_,rfl,.inr ⟨by dsimp only;omega,by dsimp only;omega,.inl rfl⟩⟩
   ·exact ⟨_,rfl,.inl ⟨rfl,.inr rfl⟩⟩
omit hS in
theorem z0o: ∀(l:List Int) (m k:Nat) (st:Int) (e:Nat) (f:Int) (z:Int),e≤k→l[m]?=some z→z<43→(y15 l k st e f).1≤k+m
 |[],m,k,st,e,f,z,h,hz,h2=>by simp at hz
 |c::r,0,k,st,e,f,z,h,hz,h2=>by
  simp only [List.getElem?_cons_zero,Option.some.injEq] at hz;subst hz;rw [y15,if_pos (Int.lt_of_not_ge fun h0=>by have:=lex.step_end h0;omega)];exact h
 |c::r,m+1,k,st,e,f,z,h,hz,h2=>by
  rw [y15];split
  ·dsimp only;omega
  ·split
   ·have:=z0o r m (k+1) (y3r st c) (k+1) (z8q (y3r st c)) z (Qab _) (by simpa using hz) h2;omega
   ·have:=z0o r m (k+1) (y3r st c) e f z (by omega) (by simpa using hz) h2;omega
theorem q4k (i:Nat) (hi:i≤N):Good N i ((numF s i).1,(numF s i).2,[]) fun k=>k=4∨k=5:=by
 obtain ⟨zN,hzN⟩:=hS.at_ N (Qab _)
 have hneg:zN<0:=Int.lt_of_not_ge fun h=>by have:=hS.pos N zN hzN h;omega
 have hb:=z0o (s.drop i) (N - i) i 0 i 0 zN (Qab _) (by rw [Qbc,show i+(N - i)=N by omega];exact hzN) (by omega);have hg:=y87 (s.drop i) i 0 i 0 (Qab _);obtain ⟨p,hp⟩: ∃p,y7v s i=p:=⟨_,rfl⟩;have hp2:y15 (s.drop i) i 0 i 0=p:=hp;rw [hp2] at hb hg;unfold numF;rw [hp];split
 ·exact .inl ⟨rfl,.inr rfl⟩
 ·split
  ·exact .inl ⟨rfl,.inr rfl⟩
  ·rename_i h;refine .inr ⟨by dsimp only;omega,by dsimp only;omega,?_⟩;dsimp only;split
   ·exact .inl rfl
   ·exact .inr rfl
def q2s (z:Int) (k:Int):Prop:=(y7y z=true∧k=3)∨((y6h z=true∨z=45)∧(k=4∨k=5))∨(z=34∧(k=6∨k=7))∨(y7y z=false∧0≤z∧z<128∧k=2)
theorem q4l (hN:s.length≤N+2) (f i:Nat) (hi:i≤N) (hf:N<i+f): ∃r z,oneF s f i=some r∧s[i]?=some z∧Good N i r (q2s z):=by
 obtain ⟨z,hz⟩:=hS.at_ i hi;unfold oneF;rw [hz];dsimp only;split
 ·exact ⟨_,z,rfl,rfl,.inl ⟨rfl,.inl rfl⟩⟩
 ·split
  ·rename_i hst;have hlt:=hS.pos i z hz (z05 hst);obtain ⟨j,e,h1,h2⟩:=z58 hS f i hi hf
   have hj:i<j:=by
    obtain ⟨g,rfl⟩: ∃g,f=g+1:=⟨f - 1,by omega⟩;rw [y8g,hz] at e;dsimp only at e;rw [if_pos (by unfold z48;unfold y7y at hst;rw [hst];rfl)] at e;obtain ⟨j',e',h3,h4⟩:=z58 hS g (i+1) (by omega) (by omega);rw [e'] at e;injection e with e;omega
   rw [e];exact ⟨_,z,rfl,rfl,.inr ⟨hj,h2,.inl ⟨hst,rfl⟩⟩⟩
  ·rename_i hst
   have hst:y7y z=false:=by cases h:y7y z with|true=>exact absurd h hst|false=>rfl
   split
   ·rename_i hd;refine ⟨_,z,rfl,rfl,?_⟩;rcases q4k hS i hi with h|⟨h1,h2,h3⟩
    ·exact .inl h
    ·exact .inr ⟨h1,h2,.inr (.inl ⟨hd,h3⟩)⟩
   ·split
    ·rename_i h34;have hlt:=hS.pos i z hz (by omega);obtain ⟨r,e,h⟩:=q1z hS hN f i hlt hf;refine ⟨r,z,e,rfl,?_⟩;rcases h with h|⟨h1,h2,h3⟩
     ·exact .inl h
     ·exact .inr ⟨h1,h2,.inr (.inr (.inl ⟨h34,h3⟩))⟩
    ·have hp: ∃j,y70 s i=some j∧i≤j∧(i<j→j≤N∧0≤z∧z<128):=by
      unfold y70;rw [hz];dsimp only;split
      ·rename_i hm;have:=hS.pos i z hz (z05 hm);exact ⟨_,rfl,by omega,fun _=>⟨by omega,z05 hm,q4j hm (by decide)⟩⟩
      ·split
       ·rename_i h3;have:=hS.pos _ _ (y9t h3).2.2 (by omega);have h46:=(y9t h3).1;rw [hz] at h46;injection h46 with h46;exact ⟨_,rfl,by omega,fun _=>⟨by omega,by omega,by omega⟩⟩
       ·exact ⟨_,rfl,by omega,fun h=>by omega⟩
     obtain ⟨j,e,h1,h2⟩:=hp;rw [e];dsimp only;split
     ·rename_i hj;exact ⟨_,z,rfl,rfl,.inr ⟨hj,(h2 hj).1,.inr (.inr (.inr ⟨hst,(h2 hj).2.1,(h2 hj).2.2,rfl⟩))⟩⟩
     ·exact ⟨_,z,rfl,rfl,.inl ⟨rfl,.inr rfl⟩⟩
end
theorem x4p {z:Int} (h0:0≤z) (h1:z<128) (r:List Int):(encS (z::r)).data.toList=[]∨ ∃t,(encS (z::r)).data.toList=UInt8.ofNat z.toNat::t:=by
 unfold encS;split
 ·right
  have he:Lib.encodeRuneZ z=[z]:=by unfold Lib.encodeRuneZ;rw [if_pos (by omega)]
  unfold encL;rw [List.flatMap_cons,he];exact ⟨_,rfl⟩
 ·exact .inl rfl
theorem q67 {z:Int} {r:List Int} {t:TokD} (ht:t.text=(encS (z::r)).data.toList) (hk:q2s z t.kind):TokW t:=by
 have key: ∀(b:UInt8) (x:Txt),0≤z→z<128→t.text=b::x→z=(b.toNat:Int):=fun b x h0 h1 h=>by
  rcases x4p h0 h1 r with e|⟨y,e⟩
  ·rw [ht,e] at h;cases h
  ·rw [ht,e] at h;injection h with h _;rw [←h,UInt8.toNat_ofNat'];have:z.toNat % 2 ^ 8=z.toNat:=Nat.mod_eq_of_lt (by omega);omega
 rcases hk with ⟨hs,h3⟩|⟨hd,h4⟩|⟨_,h6⟩|⟨hs,hz0,hz1,h2⟩
 ·refine ⟨fun p hp he=>?_,fun w hw he=>.inl h3⟩;have hz:=key p [] (z05 hs) (q4j hs (by decide)) he
  have: ∀p∈([33,38,40,41,58,61,64,91,93,123,124,125]:Txt),y7y (p.toNat:Int)=false:=by decide+kernel
  rw [hz,this p hp] at hs;cases hs
 ·have hb:0≤z∧z<128:=by
   rcases hd with hd|hd
   ·exact ⟨z05 hd,q4j hd (by decide)⟩
   ·omega
  refine ⟨fun p hp he=>?_,fun w hw he=>?_⟩
  ·have hz:=key p [] hb.1 hb.2 he
   have: ∀p∈([33,38,40,41,58,61,64,91,93,123,124,125]:Txt),y6h (p.toNat:Int)=false∧p≠45:=by decide+kernel
   obtain ⟨q1,q2⟩:=this p hp;rcases hd with hd|hd
   ·rw [hz,q1] at hd;cases hd
   ·exact absurd (Qb1.1 (show p.toNat=(45:UInt8).toNat by have:(45:UInt8).toNat=45:=rfl;omega)) q2
  ·have: ∀w∈([[101,120,116,101,110,100],[105,109,112,108,101,109,101,110,116,115],[114,101,112,101,97,116,97,98,108,101],[111,110]]:List Txt),∃b x,w=b::x∧y6h (b.toNat:Int)=false∧b.toNat≠45:=by
    intro w hw;simp only [Qbd,List.mem_nil_iff,or_false] at hw;rcases hw with rfl|rfl|rfl|rfl
    all_goals exact ⟨_,_,rfl,by decide+kernel,by decide⟩
   obtain ⟨b,x,e,q1,q2⟩:=this w hw;have hz:=key b x hb.1 hb.2 (he.trans e);rcases hd with hd|hd
   ·rw [hz,q1] at hd;cases hd
   ·omega
 ·exact ⟨fun p hp he=>.inr h6,fun w hw he=>.inr h6⟩
 ·refine ⟨fun p hp he=>.inl h2,fun w hw he=>?_⟩
  have: ∀w∈([[101,120,116,101,110,100],[105,109,112,108,101,109,101,110,116,115],[114,101,112,101,97,116,97,98,108,101],[111,110]]:List Txt),∃b x,w=b::x∧y7y (b.toNat:Int)=true:=by
   intro w hw;simp only [Qbd,List.mem_nil_iff,or_false] at hw;rcases hw with rfl|rfl|rfl|rfl
   all_goals exact ⟨_,_,rfl,by decide+kernel⟩
  obtain ⟨b,x,e,q1⟩:=this w hw;have hz:=key b x hz0 hz1 (he.trans e);rw [hz,q1] at hs;cases hs
theorem x8v {zs s:List Int} (hS:Src s zs.length) (hN:s.length≤zs.length+2) (f i:Nat) (hi:i≤zs.length) (hf:zs.length+1<i+f):
  ∃t too,y9d zs s f i=some t∧t.stop=((too:Nat):Int)∧TokW t∧(((t.kind=0∨t.kind=1))∨(i<too∧too≤zs.length∧ ¬(t.kind=0∨t.kind=1))):=by
 obtain ⟨a,e,h1,h2⟩:=z92 hS f i hi hf;obtain ⟨r,z,e2,hz,h3⟩:=q4l hS hN f a h2 (by omega)
 have hlen:zs.length<s.length:=by obtain ⟨z,hz⟩:=hS.at_ zs.length (Qab _);exact (Qac.1 hz).1
 have hr1:a≤r.1∧r.1≤s.length∧a≤zs.length:=by rcases h3 with h|h<;>omega
 unfold y9d;rw [e];dsimp only;rw [e2];dsimp only;rw [if_pos hr1];refine ⟨_,r.1,rfl,rfl,?_,?_⟩
 ·rcases h3 with ⟨q1,q2⟩|⟨q1,q2,q3⟩
  ·have hsub:(s.drop a).take (r.1 - a)=[]:=by rw [q1,Nat.sub_self];rfl
   rw [hsub];have hE:(encS []).data.toList=[]:=rfl;refine ⟨fun p hp he=>?_,fun w hw he=>?_⟩
   ·exact absurd (hE.symm.trans he) (by simp)
   ·have e0:=hE.symm.trans he;subst e0;exact absurd hw (by decide)
  ·have hsub: ∃rr,(s.drop a).take (r.1 - a)=z::rr:=by
    obtain ⟨ha,hza⟩:=Qac.1 hz;rw [Qa1 ha,hza,show r.1 - a=(r.1 - a - 1)+1 by omega,List.take_succ_cons];exact ⟨_,rfl⟩
   obtain ⟨rr,hrr⟩:=hsub;rw [hrr];exact q67 (r:=rr) rfl q3
 ·rcases h3 with ⟨q1,q2⟩|⟨q1,q2,q3⟩
  ·exact .inl q2
  ·refine .inr ⟨by omega,q2,?_⟩;dsimp only
   rcases q3 with ⟨_,h⟩|⟨_,h⟩|⟨_,h⟩|⟨_,_,_,h⟩<;>omega
theorem x1x {zs s:List Int} (hS:Src s zs.length) (hN:s.length≤zs.length+2) (hz:zs.length≤3000000) (fB:Nat) (hf:zs.length+1<fB): ∀(fu i:Nat),i≤zs.length→zs.length<i+fu→
  ∃l:List TokD,z07 zs s fB fu i=some l∧l≠[]∧l.length+i≤zs.length+1∧(∀(k:Nat) (t:TokD),l[k]?=some t→((t.kind=0∨t.kind=1)↔k+1=l.length))∧ ∀(k:Nat) (t:TokD),l[k]?=some t→TokW t
 |0,i,h1,h2=>by omega
 |fu+1,i,h1,h2=>by
  obtain ⟨t,too,e,e2,hW,h3⟩:=x8v hS hN fB i h1 (by omega);rw [z07,e];dsimp only;by_cases hk:t.kind=0∨t.kind=1
  ·rw [if_pos hk];refine ⟨[t],rfl,by simp,by simp;omega,fun k t' ht=>?_,fun k t' ht=>?_⟩
   ·cases k with
    |zero=>simp only [List.getElem?_cons_zero,Option.some.injEq] at ht;subst ht;simp [hk]
    |succ k=>simp at ht
   ·cases k with
    |zero=>simp only [List.getElem?_cons_zero,Option.some.injEq] at ht;subst ht;exact hW
    |succ k=>simp at ht
  ·obtain ⟨q1,q2,q3⟩:i<too∧too≤zs.length∧ ¬(t.kind=0∨t.kind=1):=by rcases h3 with h|h;exact absurd h hk;exact h
   rw [if_neg hk,if_neg (by omega),e2,Int.toNat_natCast];obtain ⟨l,e3,g1,g2,g3,g4⟩:=x1x hS hN hz fB hf fu too q2 (by omega);rw [e3];dsimp only;have hl:0<l.length:=Qbt.2 g1;refine ⟨t::l,rfl,by simp,by simp;omega,fun k t' ht=>?_,fun k t' ht=>?_⟩
   ·cases k with
    |zero=>
     simp only [List.getElem?_cons_zero,Option.some.injEq] at ht;subst ht;simp only [List.length_cons];exact ⟨fun h=>absurd h hk,fun h=>by omega⟩
    |succ k=>
     have:=g3 k t' (by simpa using ht);simp only [List.length_cons];rw [this];omega
   ·cases k with
    |zero=>simp only [List.getElem?_cons_zero,Option.some.injEq] at ht;subst ht;exact hW
    |succ k=>exact g4 k t' (by simpa using ht)
theorem x4q (src:Txt) (h:src.length≤2200000): ∃toks,y3f src=some toks∧TokA toks∧1≤toks.length∧toks.length≤src.length+1:=by
 have h1:=x0i src;have h2:=x5e src;unfold y3f;obtain ⟨l,e,g1,g2,g3,g4⟩:=x1x (q1x (decF src).1 (decide ((decF src).2=src.length))) (by unfold y4r;split<;>simp) (by omega) (src.length+3) (by omega) (src.length+3) 0 (by omega) (by omega);exact ⟨l,e,⟨⟨g3⟩,g4⟩,Qbt.2 g1,by omega⟩
end Go.Proofs.YtbpgkkoeehopjaaGreat.tot
namespace Go.Proofs.YtbpgkkoeehopjaaGreat.hp
open Go.RowKit words enc tree gram lex rd dec dat held acr tot
set_option maxRecDepth 100000
set_option maxHeartbeats 40000000
attribute [local go_sem ↓] Go.wp_at_zero Go.wp_at_succ
section
variable {w0 w K : World} {M : List Ent}
theorem q11 {A:Option Addr} {n c:Nat} {src:List UInt8} (H:Hp w0 w K M) (hr:Rd K K.heap.size A (Lib.byteCells src)) (hn:src.length=n) (hnc:n≤c) (hcm:c≤maxLen) (h63:n≤2200000)
  {toks:List TokD} (ht:y3f src=some toks) (hnl:toks.length≤3000000) {nf bf fr:Nat} (hfr:fr≤1000000000) {e p1 p2:Int} (hrun:runF rulesG nf bf toks 200 fr [[68,79,67]] 0 0=some (e,p1,p2)) (he:e≠0):
  Calls Tryz.prog 55 #[.slice A n c,.int .i64 200] w fun en w'=>∃K' g,en= .returned (.tuple #[.slice none 0 0,.agg #[.int .i64 e,.slice (some ⟨g,0,none⟩) 1 1,.slice none 0 0]])∧Sat K' K∧Hp w0 w' K' M:=by
 have HRUN:=hide hrun;have HT:=hide ht;have hgram:=fun w=>z2h w;rw [x00] at hgram
 have hb0:((e:Int) !=0)=true:=by rw [Qa8];exact he
 clear hrun ht he;go_enter Tryz.func55,Tryz.ntmps55
 go_upto_region 5 with (first|(refine oA 5 H ?_;clear H;intro w gz H)|(refine oL H ?_)|(refine oP H ?_;clear H;intro w _ H))
 go_wp2_with fail
 refine (z3w x0z A n c w.heap.size src w (Rd.sat hr (Qab _) H.sat) (Qab _) hn hnc hcm h63 toks HT.out).mono ?_;rintro en w1 ⟨vt,rfl,hrt,hb1⟩;obtain ⟨At,ct,ust,rfl,hnt,hct,_,_⟩:=y0j hrt;obtain ⟨K1,hle1,H1,hdt⟩:=H.fresh1 hb1 hrt;clear H hrt hb1
 go_wp2_with fail
 refine (hgram w1).mono ?_;rintro en w2 ⟨vg,rfl,hrg,hb2⟩;obtain ⟨Ag,cg,usg,rfl,_,_,_,_⟩:=y0j hrg;have H2:=H1.below hb2;clear H1 hb2
 go_wp2_with fail
 refine (z62 w2.heap.size linesG Ag 52 cg w2 hrg (Qab _) x02 (by decide)).mono ?_;rintro en w3 ⟨vr,rfl,hrr,hb3⟩;rw [x01,show linesG.length=rulesG.length from rfl] at hrr;obtain ⟨Ar,cr,usr,rfl,_,_,_,_⟩:=y0j hrr;have H3:=H2.below hb3;clear H2 hb3 hrg;have hcall:=x5z w3.heap.size rulesG Ar At rulesG.length cr toks.length ct [68,79,67] toks 200 nf bf fr (e,p1,p2) w3 hrr (RD.lo hdt H3) (Qab _) (by omega) (by omega) hfr HRUN.out;clear hrr
 go_wp2_with fail
 refine hcall.mono ?_;rintro en w4 ⟨rfl,hb4⟩;have H:=H3.below hb4;clear hcall H3 hb4 hgram HRUN HT;obtain ⟨nt,hnt2⟩: ∃x,toks.length=x:=⟨_,rfl⟩;rw [hnt2] at hnl ⊢;clear hdt hnt2 hnt hct
 go_upto_region 8 with (first|(refine oL H ?_)|(refine oP H ?_;clear H;intro w _ H))
 refine rB [5] H ?_;clear H;intro w H;refine rT 0 H ?_;refine rT 1 H ?_;refine rT 4 H ?_;refine rW 2 H ?_;clear H;intro w g2 H;refine rT 3 H ?_;refine rL 5 H ?_;clear H;intro w _ H;refine rE ?_
 go_wp2_with (first|(refine oL H ?_)|(refine oP H ?_;clear H;intro w _ H))
 refine oB3 H ?_;exact ⟨K1,_,rfl,hle1,H.fin⟩
theorem q4m (H:Hp w0 w K M) {src:Txt} (hlen:src.length≤2200000) {toks:List TokD} (ht:y3f src=some toks) (hnl:toks.length≤3000000) {nf bf fr:Nat} (hfr:fr≤1000000000) {e p1 p2:Int} (hrun:runF rulesG nf bf toks 200 fr [[68,79,67]] 0 0=some (e,p1,p2)) (he:e≠0):
  Calls Tryz.prog 13 #[.string (str src)] w fun en w'=>∃K',en= .returned (.slice none 0 0)∧Sat K' K∧Hp w0 w' K' M:=by
 obtain ⟨cb,w1,hrunc,hb1,hc1,hc2,hrd,hs1⟩:=z37 (P:=Tryz.prog) w 9 86 5 src Tryz.underlying9 Tryz.underlying86 Tryz.underlying5 (by simp only [maxLen];omega);obtain ⟨K1,hle1,H1,hk,-⟩:=H.fresh hb1
 have hr1:Rd K1 K1.heap.size (some ⟨w.heap.size,0,none⟩) (Lib.byteCells src):=fun hn=>by
  obtain ⟨ad,e,hb,hc⟩:=hrd hn;injection e with e;subst e;have h0:=hk w.heap.size (Qab _)
  have hlt:w.heap.size<w1.heap.size:=by omega
  refine ⟨_,rfl,?_,fun j u hu=>?_⟩
  ·rw [Qbq hlt] at h0;exact (Qan.1 h0).1
  ·have:=hc j u hu
   have e1:(⟨w.heap.size,0,none⟩:Addr).add j=⟨w.heap.size,j,none⟩:=by unfold Addr.add;by_cases h:j=0<;>simp [h]
   rw [e1] at this ⊢;exact (World.cell?_of_block h0).trans this
 have hcall:=q11 H1 hr1 rfl hc1 hc2 hlen ht hnl hfr hrun he
 have hb0:((e:Int) !=0)=true:=by rw [Qa8];exact he
 clear ht hrun hk hr1 hrd H H1 he;go_enter Tryz.func13,Tryz.ntmps13
 go_wp2_with (first|(refine hcall.mono ?_;rintro en w ⟨K2,g,rfl,hle2,H⟩)|(refine oL H ?_)|(refine oP H ?_;clear H;intro w _ H))
 go_ret;exact ⟨K2,rfl,hle2.trans hle1,H.fin⟩
end
def y57 (src:Txt):List DefD:=match y3f src with
 |none=>[]
 |some toks=>if runF rulesG nfG bfG toks 200 800000000 [nDOC] 0 0=some (0,0,0) then (y3w toks 3000000 300 3000000 0).getD [] else []
theorem z3a (R:List RuleD) (nf bf:Nat) (toks:List TokD) (depth:Int): ∀(f:Nat) (st:List Txt) (k:Nat) (op:Int) (r:Int×Int×Int),runF R nf bf toks depth f st k op=some r→r=(0,0,0)∨r.1≠0
 |0,_,_,_,r,h=>by cases h
 |f+1,[],k,op,r,h=>by injection h with h;exact .inl h.symm
 |f+1,s::st,k,op,r,h=>by
  rw [runF] at h;split at h
  ·cases h
  ·split at h
   ·cases h
   ·split at h
    ·split at h
     ·cases h
     ·split at h
      ·cases h
      ·exact z3a R nf bf toks depth f _ _ _ r h
     ·injection h with h;subst h;exact .inr (by simp)
    ·split at h
     ·injection h with h;subst h;exact .inr (by simp)
     ·split at h
      ·injection h with h;subst h;exact .inr (by simp)
      ·exact z3a R nf bf toks depth f _ _ _ r h
theorem z4t (src:Txt) (hlen:src.length≤2200000): ∃toks,y3f src=some toks∧TokA toks∧toks.length≤src.length+1∧
  ((runF rulesG nfG bfG toks 200 800000000 [nDOC] 0 0=some (0,0,0)∧y3w toks 3000000 300 3000000 0=some (y57 src)∧y0k (y57 src)≤toks.length)∨
   (∃e p1 p2,e≠0∧runF rulesG nfG bfG toks 200 800000000 [nDOC] 0 0=some (e,p1,p2)∧y57 src=[])):=by
 obtain ⟨toks,e,hA,h1,h2⟩:=x4q src hlen;have hphi:phi toks [nDOC] 0≤[nDOC].length+200*(toks.length - 0):=x1m (by intro s hs;obtain rfl:=Qax.1 hs;decide+kernel) (by omega);have hl1:[nDOC].length=1:=rfl;rw [hl1] at hphi;obtain ⟨r,hr⟩:=y9p toks 200 hA.toTokE 800000000 [nDOC] 0 0 (by omega) (by intro s hs;obtain rfl:=Qax.1 hs;decide+kernel) (by omega) (by omega);refine ⟨toks,e,hA,h2,?_⟩
 have hdef:y57 src=if runF rulesG nfG bfG toks 200 800000000 [nDOC] 0 0=some (0,0,0) then (y3w toks 3000000 300 3000000 0).getD [] else []:=by unfold y57;rw [e]
 rcases z3a _ _ _ _ _ _ _ _ _ r hr with rfl|h0
 ·left;obtain ⟨defs,hd,hN⟩:=q4i hA 3000000 (by omega) 300 (by omega) hr (by omega);rw [if_pos hr,hd,Option.getD_some] at hdef;rw [hdef];exact ⟨hr,hd,hN⟩
 ·right;obtain ⟨e0,p1,p2⟩:=r;refine ⟨e0,p1,p2,h0,hr,?_⟩;rw [hdef,if_neg (fun h=>by rw [hr] at h;injection h with h;injection h with h _;exact h0 h)]
section
variable {w0 w K : World} {M : List Ent}
theorem z59 (H:Hp w0 w K M) (src:Txt) (hlen:src.length≤2200000):
  Calls Tryz.prog 13 #[.string (str src)] w fun e w'=>∃K' A' c',e= .returned (.slice A' (y57 src).length c')∧Sat K' K∧Hp w0 w' K' M∧RD K' (.list (y57 src).length (y0s (y57 src))) (.slice A' (y57 src).length c'):=by
 obtain ⟨toks,e,hA,h2,⟨hr,hd,hN⟩|⟨e0,p1,p2,h0,hr,hd⟩⟩:=z4t src hlen
 ·exact x6l H ⟨hlen,toks,nfG,bfG,800000000,3000000,300,e,by omega,by omega,hr,by omega,hd⟩ rfl
 ·refine (q4m H hlen e (by omega) (by omega) hr h0).mono ?_;rintro en w' ⟨K',rfl,hs,H⟩;rw [hd];exact ⟨K',none,0,rfl,hs,H,.nil (Qab _)⟩
theorem x8w (src:Txt) (hlen:src.length≤2200000):y0k (y57 src)≤src.length+1:=by
 obtain ⟨toks,e,hA,h2,⟨hr,hd,hN⟩|⟨e0,p1,p2,h0,hr,hd⟩⟩:=z4t src hlen
 ·omega
 ·rw [hd];exact Qak _
end
end Go.Proofs.YtbpgkkoeehopjaaGreat.hp
namespace Go.Proofs.YtbpgkkoeehopjaaGreat.hp
open Go.RowKit words enc tree gram lex rd dec dat held
set_option maxRecDepth 100000
set_option maxHeartbeats 40000000
attribute [local go_sem ↓] Go.wp_at_zero Go.wp_at_succ
mutual
def z95 (p:Bool):LitD→LitD→Bool
 | .mk k t b is fs l c,.mk k2 t2 b2 is2 fs2 l2 c2=>k==k2&&t==t2&&b==b2&&(!p||l==l2&&c==c2)&&eqLits p is is2&&eqPairs p fs fs2
def eqLits (p:Bool):List LitD→List LitD→Bool
 |[],[]=>true
 |d::r,e::s=>z95 p d e&&eqLits p r s
 |_,_=>false
def eqPair (p:Bool):PairD→PairD→Bool
 | .mk n v l c,.mk n2 v2 l2 c2=>n==n2&&z95 p v v2&&(!p||l==l2&&c==c2)
def eqPairs (p:Bool):List PairD→List PairD→Bool
 |[],[]=>true
 |d::r,e::s=>eqPair p d e&&eqPairs p r s
 |_,_=>false
end
theorem z8e {p:Bool}: ∀{l m:List LitD},eqLits p l m=true→l.length=m.length∧ ∀{k:Nat} {x y:LitD},l[k]?=some x→m[k]?=some y→z95 p x y=true
 |[],[],_=>⟨rfl,fun h=>by simp at h⟩
 |d::r,e::s,h=>by
  simp only [eqLits,Qao] at h;obtain ⟨h1,h2⟩:=z8e h.2;refine ⟨by simp [h1],fun {k x y} hx hy=>?_⟩
  cases k with
  |zero=>simp only [List.getElem?_cons_zero,Option.some.injEq] at hx hy;subst hx hy;exact h.1
  |succ k=>exact h2 (k:=k) (by simpa using hx) (by simpa using hy)
 |[],_::_,h=>by simp [eqLits] at h
 |_::_,[],h=>by simp [eqLits] at h
theorem z0p {p:Bool}: ∀{l m:List PairD},eqPairs p l m=true→l.length=m.length∧ ∀{k:Nat} {x y:PairD},l[k]?=some x→m[k]?=some y→eqPair p x y=true
 |[],[],_=>⟨rfl,fun h=>by simp at h⟩
 |d::r,e::s,h=>by
  simp only [eqPairs,Qao] at h;obtain ⟨h1,h2⟩:=z0p h.2;refine ⟨by simp [h1],fun {k x y} hx hy=>?_⟩
  cases k with
  |zero=>simp only [List.getElem?_cons_zero,Option.some.injEq] at hx hy;subst hx hy;exact h.1
  |succ k=>exact h2 (k:=k) (by simpa using hx) (by simpa using hy)
 |[],_::_,h=>by simp [eqPairs] at h
 |_::_,[],h=>by simp [eqPairs] at h
section
variable {P : Program} {w0 w K K' : World} {M N : List Ent} {ops : Array Oper} {Q : Exit → Act → World → Prop} {F : List Nat} {fuel : Nat} {listed : Array Bool} {a a' : Act} {oi : Oper} {o : Oper} {v : Value}
theorem datA {ty:TypeId} {x:Operand} {n j:Nat} {p:Addr} {cs us:List Value} (ho:o.op= .load ty x:=by rfl) (hs:Rw P ty n:=by infer_instance) (hx:a.eval x= .pointer (some ⟨p.block,p.off+(j+1),none⟩):=by rfl)
  (hc:At K p cs:=by assumption) (hn:(cs.drop (j+1)).take n=us:=by (simp only [List.drop_succ_cons,List.take_succ_cons,List.drop_zero,List.take_zero,List.take_nil];try rfl)) (hl:us.length=n:=by rfl):y97 P o a K M (.agg us.toArray):=fun w0 w H=>by
 obtain ⟨d,hu,hd⟩:=hs.u;have hsz:=hs.s;rw [←hl] at hsz
 have hat:At w ⟨p.block,p.off+(j+1),none⟩ us:=⟨fun u hu=>(At.sat hc H.sat).2 j u (by
  rw [←hn,Qbb,Qbc] at hu;split at hu
  ·simpa using hu
  ·cases hu),fun i u hu=>by
  have:=(At.sat hc H.sat).2 (j+(i+1)) u (by
   rw [←hn,Qbb,Qbc] at hu;split at hu
   ·rwa [show j+1+(i+1)=j+(i+1)+1 by omega] at hu
   ·cases hu)
  rwa [show p.off+(j+(i+1)+1)=p.off+(j+1)+(i+1) by omega] at this⟩
 unfold execOp;simp only [ho,hx,Instr.loadAt,Instr.sureAddr,Sem.run_bind,Sem.run_pure,Result.andThen_ok,y3n w _ ty us d hat hu hd hsz]
theorem rU (i:Nat) (H:Hp w0 w K' N) (h:AnyL P .any ops Q (Ov w0 K M) F fuel (listed.setIfInBounds i true) a' w) (hi:ops[i]?=some oi:=by (simp only [List.getElem?_toArray,List.getElem?_cons_zero,List.getElem?_cons_succ];try rfl))
  (ha:a.put oi.dst undef=a':=by (simp only [Act.put,List.getElem_toArray,List.getElem_cons_zero,List.getElem_cons_succ,List.setIfInBounds_toArray,List.set_cons_zero,List.set_cons_succ];try rfl))
  (hw:Region.wanted oi (yielded ops a.tmps)=false:=by rfl) (hs:Region.noSelect ops=true:=by kernel_rfl) (hf:Region.free .any ops listed i=true:=by kernel_rfl) (hr:(Region.ready .any ops listed).contains i=true:=by kernel_rfl) (hF:waits .any ops F i=true:=by kernel_rfl) (hc:closed .any ops listed=true:=by kernel_rfl)
  (hle:Sat K' K:=by first|exact Sat.refl _|assumption) (hsf:Inc M N:=by first|((repeat (first|exact n0|exact nN|apply nD))<;>fail)|((repeat (first|exact n0|exact nN|refine nS (by ((repeat (first|exact u0|apply uS))<;>fail)) ?_|apply nD))<;>fail)|fail) (hQ: ∀c a w,Q (.panic c) (a.put oi.dst undef) w→Q (.panic c) a w:=by exact fun _ _ _ h=>h):AnyL P .any ops Q (Ov w0 K M) F (fuel+1) listed a w:=
 held.take hi hs hf hr hF hc hQ (.inr ⟨hw,rfl⟩) ⟨K',N,hle,H,hsf⟩ (ha▸h)
end
instance:Sc Tryz.prog 117:=⟨⟨_,Tryz.underlying117,rfl⟩⟩
section
variable {w0 w K : World} {M : List Ent}
theorem y7s (p:Bool): ∀(m:Nat) (d e:LitD) (cs es:Array Value) (w0 w K:World) (M:List Ent),litN d≤m→m≤9000000→z95 p d e=true→RL K (litL d) cs.toList→RL K (litL e) es.toList→Hp w0 w K M→
  Calls Tryz.prog 153 #[.agg cs,.agg es,.bool p] w fun e w'=>e= .returned (.bool true)∧Hp w0 w' K M:=by
 intro m
 induction m with
 |zero=>intro d e cs es w0 w K M h;have:=y7e d;omega
 |succ m ih=>
 intro d e cs es w0 w K M hn hm heq hd he H;obtain ⟨kind,text,block,items,fields,line,col⟩:=d;obtain ⟨kind2,text2,block2,items2,fields2,line2,col2⟩:=e;obtain ⟨Ai,ci,Af,cf,hcs,hi,hf⟩:=y0l hd;obtain rfl:cs= #[_,_,_,_,_,_,_]:=Qal.1 hcs;obtain ⟨Bi,bi,Bf,bf,hes,gi,gf⟩:=y0l he;obtain rfl:es= #[_,_,_,_,_,_,_]:=Qal.1 hes;simp only [z95,Qao,Qa7] at heq;obtain ⟨⟨⟨⟨⟨h1,h2⟩,h3⟩,h4⟩,h5⟩,h6⟩:=heq;subst h1 h2 h3;obtain ⟨e5,E5⟩:=z8e h5;obtain ⟨e6,E6⟩:=z0p h6
 have hni:items.length≤9000000:=by have:=z5j items;simp only [litN] at hn;omega
 have hnf:fields.length≤9000000:=by have:=y6w fields;simp only [litN] at hn;omega
 have HI:=hide (show ∀x∈items,litN x≤m from fun x hx=>by obtain ⟨k,hk⟩:=Qaq hx;have:=z89 hk;simp only [litN] at hn;omega);have HF:=hide (show ∀x∈fields,pairN x≤m from fun x hx=>by obtain ⟨k,hk⟩:=Qaq hx;have:=y9f hk;simp only [litN] at hn;omega);have HE5:=hide (show ∀(k:Nat) (x y:LitD),items[k]?=some x→items2[k]?=some y→z95 p x y=true from fun k x y=>E5);have HE6:=hide (show ∀(k:Nat) (x y:PairD),fields[k]?=some x→fields2[k]?=some y→eqPair p x y=true from fun k x y=>E6);have HIH:=hide ih;rw [y7b] at hi gi;rw [y3u] at hf gf;clear ih hcs hes hd he hn h5 h6 E5 E6;rw [←e5] at gi;rw [←e6] at gf;obtain ⟨ni,hni2⟩: ∃x,items.length=x:=⟨_,rfl⟩;obtain ⟨nf,hnf2⟩: ∃x,fields.length=x:=⟨_,rfl⟩;rw [hni2] at hi gi hni e5;rw [hnf2] at hf gf hnf e6;rw [←e5,←e6,hni2,hnf2];have HNI:=hide hni2;have HNF:=hide hnf2;have HNJ:=hide e5.symm;have HNG:=hide e6.symm;clear hni2 hnf2 e5 e6
 cases p with
 |false=>
  go_enter Tryz.func153,Tryz.ntmps153
  go_upto_region 1 with (first|(refine oA 3 H ?_;clear H;intro w gv H)|(refine oA 4 H ?_;clear H;intro w gu H))
  have a0:=H.c 0 0;have a1:=H.c 0 1;have a2:=H.c 0 2;have a3:=H.c 0 3;have a4:=H.c 0 4;have a5:=H.c 0 5;have a6:=H.c 0 6;have b5:=H.c 1 5;have b6:=H.c 1 6;have b0:=H.c 1 0;have b1:=H.c 1 1;have b2:=H.c 1 2;have b3:=H.c 1 3;have b4:=H.c 1 4
  go_wp2_with fail
  go_loopw [7] (fun i wr=>∃k:Nat,k≤ni∧i= .int .i64 k∧Hp w0 wr K (.box gu [.int .i64 kind,.string (str text),.bool block,.slice Bi ni bi,.slice Bf nf bf,.int .i64 line2,.int .i64 col2] 121:: .box gv [.int .i64 kind,.string (str text),.bool block,.slice Ai ni ci,.slice Af nf cf,.int .i64 line,.int .i64 col] 121::M)) (fun i _=>ni - (intOf i).toNat)
  case atStart=>exact ⟨0,Qak _,rfl,H⟩
  case round=>
   clear H;obtain ⟨k,hk,rfl,H⟩:=hrel;by_cases hlt:k<ni
   ·obtain ⟨x,ad,us,hx,rfl,hxl,hat⟩:=el_k y5r hi (by rw [HNI.out];exact hlt) (by decide);obtain ⟨y,bd,vs,hy,rfl,hyl,hbt⟩:=el_k y5r gi (by rw [HNJ.out];exact hlt) (by decide);obtain ⟨hkI,hwr⟩:=wr_k hlt hni;have hxn:=HI.out x (Qaf hx);have hxy:=hide (HE5.out k x y hx hy);obtain ⟨dk,dt,db,di,df,dln,dcl⟩:=x;obtain ⟨Xi,xi,Xf,xf,rfl,-,-⟩:=y0l hxl;obtain ⟨dk',dt',db',di',df',dln',dcl'⟩:=y;obtain ⟨Yi,yi,Yf,yf,rfl,-,-⟩:=y0l hyl;have hc:=fun {w M} (h:Hp w0 w K M)=>HIH.out _ _ #[_,_,_,_,_,_,_] #[_,_,_,_,_,_,_] w0 w K M hxn (by omega) hxy.out hxl hyl h;clear hx hy
    go_wp2_with (refine oL H ?_)
    refine rB [] H ?_;clear H;intro w H;refine rT 0 H ?_;refine rT 1 H ?_;refine rT 2 H ?_;refine rT 3 H ?_;refine rT 4 H ?_;refine rT 5 H ?_;refine rT 6 H ?_;refine rT 7 H ?_;refine rT 8 H ?_;refine rT 9 H ?_;refine rT 10 H ?_;refine rC 11 (hc H) ?_;clear H;rintro e w ⟨rfl,H⟩;refine rX H ?_;refine rT 12 H ?_;refine rE ?_
    go_wp2_with (first|(refine oL H ?_)|(refine oP H ?_;clear H;intro w _ H))
    go_roundw
    case rel=>exact ⟨k+1,by omega,by go_num,H⟩
    case measure=>simp [intOf];omega
   ·obtain rfl:ni=k:=by omega
    clear hlt
    go_wp2_with (refine oL H ?_)
    go_loopw [9] (fun i wr=>∃k:Nat,k≤nf∧i= .int .i64 k∧Hp w0 wr K (.box gu [.int .i64 kind,.string (str text),.bool block,.slice Bi ni bi,.slice Bf nf bf,.int .i64 line2,.int .i64 col2] 121:: .box gv [.int .i64 kind,.string (str text),.bool block,.slice Ai ni ci,.slice Af nf cf,.int .i64 line,.int .i64 col] 121::M)) (fun i _=>nf - (intOf i).toNat)
    case atStart=>exact ⟨0,Qak _,rfl,H⟩
    case round=>
     clear H;obtain ⟨k,hk,rfl,H⟩:=hrel;by_cases hlt:k<nf
     ·obtain ⟨x,ad,us,hx,rfl,hxl,hat⟩:=el_k y3t hf (by rw [HNF.out];exact hlt) (by decide);obtain ⟨y,bd,vs,hy,rfl,hyl,hbt⟩:=el_k y3t gf (by rw [HNG.out];exact hlt) (by decide);obtain ⟨hkI,hwr⟩:=wr_k hlt hnf;have hxn:=HF.out x (Qaf hx);have hxy:=HE6.out k x y hx hy;obtain ⟨pn,⟨dk,dt,db,di,df,dln,dcl⟩,pl,pc⟩:=x;obtain ⟨qn,⟨dk',dt',db',di',df',dln',dcl'⟩,ql,qc⟩:=y;simp only [eqPair,Qao,Qa7] at hxy;obtain ⟨⟨rfl,hxy⟩,hpos⟩:=hxy;clear hpos;have hxy:=hide hxy;obtain ⟨ls,rfl,hvl⟩:=y12 hxl;obtain ⟨Xi,xi,Xf,xf,rfl,-,-⟩:=y0l hvl;obtain ⟨ls,rfl,hul⟩:=y12 hyl;obtain ⟨Yi,yi,Yf,yf,rfl,-,-⟩:=y0l hul;simp only [pairN] at hxn;have hc:=fun {w M} (h:Hp w0 w K M)=>HIH.out _ _ #[_,_,_,_,_,_,_] #[_,_,_,_,_,_,_] w0 w K M (by omega) (by omega) hxy.out hvl hul h;simp only [List.cons_append,List.nil_append] at hat hbt;clear hx hy
      go_wp2_with (refine oL H ?_)
      refine rB [] H ?_;clear H;intro w H;refine rT 0 H ?_;refine rT 1 H ?_;refine rT 2 H ?_;refine rT 3 H ?_;refine rT 4 H ?_;refine rT 5 H ?_ (hd:=datA);refine rT 6 H ?_;refine rT 7 H ?_;refine rT 8 H ?_;refine rT 9 H ?_;refine rT 10 H ?_;refine rT 11 H ?_ (hd:=datA);refine rT 12 H ?_;refine rC 13 (hc H) ?_;clear H;rintro e w ⟨rfl,H⟩;refine rX H ?_;refine rT 14 H ?_;refine rE ?_
      go_wp2_with fail
      refine rB [] H ?_;clear H;intro w H;refine rT 0 H ?_;refine rT 1 H ?_;refine rT 2 H ?_;refine rT 3 H ?_;refine rT 4 H ?_;refine rT 5 H ?_;refine rT 6 H ?_;refine rT 7 H ?_;refine rT 8 H ?_;refine rT 9 H ?_;refine rT 10 H ?_;refine rT 11 H ?_;refine rT 12 H ?_;refine rT 13 H ?_;refine rT 14 H ?_;refine rT 15 H ?_;refine rT 16 H ?_;refine rT 17 H ?_;refine rT 18 H ?_;refine rT 19 H ?_;refine rU 20 H ?_;refine rU 21 H ?_;refine rU 22 H ?_;refine rU 23 H ?_;refine rU 24 H ?_;refine rU 25 H ?_;refine rU 26 H ?_;refine rU 27 H ?_;refine rU 28 H ?_;refine rU 29 H ?_;refine rU 30 H ?_;refine rU 31 H ?_;refine rU 32 H ?_;refine rT 33 H ?_;refine rT 34 H ?_;refine rE ?_
      go_wp2_with fail
      go_roundw
      case rel=>exact ⟨k+1,by omega,by go_num,H⟩
      case measure=>simp [intOf];omega
     ·obtain rfl:nf=k:=by omega
      go_wp2_with (refine oL H ?_)
      go_ret;exact ⟨rfl,H.fin⟩
 |true=>
  simp only [Bool.not_true,Bool.false_or,Qao,Qa7] at h4;obtain ⟨rfl,rfl⟩:=h4;go_enter Tryz.func153,Tryz.ntmps153
  go_upto_region 1 with (first|(refine oA 3 H ?_;clear H;intro w gv H)|(refine oA 4 H ?_;clear H;intro w gu H))
  have a0:=H.c 0 0;have a1:=H.c 0 1;have a2:=H.c 0 2;have a3:=H.c 0 3;have a4:=H.c 0 4;have a5:=H.c 0 5;have a6:=H.c 0 6;have b5:=H.c 1 5;have b6:=H.c 1 6;have b0:=H.c 1 0;have b1:=H.c 1 1;have b2:=H.c 1 2;have b3:=H.c 1 3;have b4:=H.c 1 4
  go_wp2_with fail
  go_loopw [7] (fun i wr=>∃k:Nat,k≤ni∧i= .int .i64 k∧Hp w0 wr K (.box gu [.int .i64 kind,.string (str text),.bool block,.slice Bi ni bi,.slice Bf nf bf,.int .i64 line,.int .i64 col] 121:: .box gv [.int .i64 kind,.string (str text),.bool block,.slice Ai ni ci,.slice Af nf cf,.int .i64 line,.int .i64 col] 121::M)) (fun i _=>ni - (intOf i).toNat)
  case atStart=>exact ⟨0,Qak _,rfl,H⟩
  case round=>
   clear H;obtain ⟨k,hk,rfl,H⟩:=hrel;by_cases hlt:k<ni
   ·obtain ⟨x,ad,us,hx,rfl,hxl,hat⟩:=el_k y5r hi (by rw [HNI.out];exact hlt) (by decide);obtain ⟨y,bd,vs,hy,rfl,hyl,hbt⟩:=el_k y5r gi (by rw [HNJ.out];exact hlt) (by decide);obtain ⟨hkI,hwr⟩:=wr_k hlt hni;have hxn:=HI.out x (Qaf hx);have hxy:=hide (HE5.out k x y hx hy);obtain ⟨dk,dt,db,di,df,dln,dcl⟩:=x;obtain ⟨Xi,xi,Xf,xf,rfl,-,-⟩:=y0l hxl;obtain ⟨dk',dt',db',di',df',dln',dcl'⟩:=y;obtain ⟨Yi,yi,Yf,yf,rfl,-,-⟩:=y0l hyl;have hc:=fun {w M} (h:Hp w0 w K M)=>HIH.out _ _ #[_,_,_,_,_,_,_] #[_,_,_,_,_,_,_] w0 w K M hxn (by omega) hxy.out hxl hyl h;clear hx hy
    go_wp2_with (refine oL H ?_)
    refine rB [] H ?_;clear H;intro w H;refine rT 0 H ?_;refine rT 1 H ?_;refine rT 2 H ?_;refine rT 3 H ?_;refine rT 4 H ?_;refine rT 5 H ?_;refine rT 6 H ?_;refine rT 7 H ?_;refine rT 8 H ?_;refine rT 9 H ?_;refine rT 10 H ?_;refine rC 11 (hc H) ?_;clear H;rintro e w ⟨rfl,H⟩;refine rX H ?_;refine rT 12 H ?_;refine rE ?_
    go_wp2_with (first|(refine oL H ?_)|(refine oP H ?_;clear H;intro w _ H))
    go_roundw
    case rel=>exact ⟨k+1,by omega,by go_num,H⟩
    case measure=>simp [intOf];omega
   ·obtain rfl:ni=k:=by omega
    clear hlt
    go_wp2_with (refine oL H ?_)
    go_loopw [9] (fun i wr=>∃k:Nat,k≤nf∧i= .int .i64 k∧Hp w0 wr K (.box gu [.int .i64 kind,.string (str text),.bool block,.slice Bi ni bi,.slice Bf nf bf,.int .i64 line,.int .i64 col] 121:: .box gv [.int .i64 kind,.string (str text),.bool block,.slice Ai ni ci,.slice Af nf cf,.int .i64 line,.int .i64 col] 121::M)) (fun i _=>nf - (intOf i).toNat)
    case atStart=>exact ⟨0,Qak _,rfl,H⟩
    case round=>
     clear H;obtain ⟨k,hk,rfl,H⟩:=hrel;by_cases hlt:k<nf
     ·obtain ⟨x,ad,us,hx,rfl,hxl,hat⟩:=el_k y3t hf (by rw [HNF.out];exact hlt) (by decide);obtain ⟨y,bd,vs,hy,rfl,hyl,hbt⟩:=el_k y3t gf (by rw [HNG.out];exact hlt) (by decide);obtain ⟨hkI,hwr⟩:=wr_k hlt hnf;have hxn:=HF.out x (Qaf hx);have hxy:=HE6.out k x y hx hy;obtain ⟨pn,⟨dk,dt,db,di,df,dln,dcl⟩,pl,pc⟩:=x;obtain ⟨qn,⟨dk',dt',db',di',df',dln',dcl'⟩,ql,qc⟩:=y;simp only [eqPair,Qao,Qa7] at hxy;obtain ⟨⟨rfl,hxy⟩,hpos⟩:=hxy;simp only [Bool.not_true,Bool.false_or,Qao,Qa7] at hpos;obtain ⟨rfl,rfl⟩:=hpos;have hxy:=hide hxy;obtain ⟨ls,rfl,hvl⟩:=y12 hxl;obtain ⟨Xi,xi,Xf,xf,rfl,-,-⟩:=y0l hvl;obtain ⟨ls,rfl,hul⟩:=y12 hyl;obtain ⟨Yi,yi,Yf,yf,rfl,-,-⟩:=y0l hul;simp only [pairN] at hxn;have hc:=fun {w M} (h:Hp w0 w K M)=>HIH.out _ _ #[_,_,_,_,_,_,_] #[_,_,_,_,_,_,_] w0 w K M (by omega) (by omega) hxy.out hvl hul h;simp only [List.cons_append,List.nil_append] at hat hbt;clear hx hy
      go_wp2_with (refine oL H ?_)
      refine rB [] H ?_;clear H;intro w H;refine rT 0 H ?_;refine rT 1 H ?_;refine rT 2 H ?_;refine rT 3 H ?_;refine rT 4 H ?_;refine rT 5 H ?_ (hd:=datA);refine rT 6 H ?_;refine rT 7 H ?_;refine rT 8 H ?_;refine rT 9 H ?_;refine rT 10 H ?_;refine rT 11 H ?_ (hd:=datA);refine rT 12 H ?_;refine rC 13 (hc H) ?_;clear H;rintro e w ⟨rfl,H⟩;refine rX H ?_;refine rT 14 H ?_;refine rE ?_
      go_wp2_with fail
      refine rB [] H ?_;clear H;intro w H;refine rT 0 H ?_;refine rT 1 H ?_;refine rT 2 H ?_;refine rT 3 H ?_;refine rT 4 H ?_;refine rT 5 H ?_;refine rT 6 H ?_;refine rT 7 H ?_;refine rT 8 H ?_;refine rT 9 H ?_;refine rT 10 H ?_;refine rT 11 H ?_;refine rT 12 H ?_;refine rT 13 H ?_;refine rT 14 H ?_;refine rT 15 H ?_;refine rT 16 H ?_;refine rT 17 H ?_;refine rT 18 H ?_;refine rT 19 H ?_;refine rT 20 H ?_;refine rT 21 H ?_;refine rT 22 H ?_;refine rT 23 H ?_;refine rT 24 H ?_;refine rT 25 H ?_ (hd:=datA);refine rT 26 H ?_;refine rT 27 H ?_;refine rT 28 H ?_;refine rT 29 H ?_;refine rT 30 H ?_;refine rT 31 H ?_ (hd:=datA);refine rT 32 H ?_;refine rT 33 H ?_;refine rT 34 H ?_;refine rE ?_
      go_wp2_with fail
      go_roundw
      case rel=>exact ⟨k+1,by omega,by go_num,H⟩
      case measure=>simp [intOf];omega
     ·obtain rfl:nf=k:=by omega
      go_wp2_with (refine oL H ?_)
      go_ret;exact ⟨rfl,H.fin⟩
end
def y2d {α:Type} (f:α→α→Bool):List α→List α→Bool
 |[],[]=>true
 |d::r,e::s=>f d e&&y2d f r s
 |_,_=>false
theorem y28 {α:Type} {f:α→α→Bool}: ∀{l m:List α},y2d f l m=true→l.length=m.length∧ ∀{k:Nat} {x y:α},l[k]?=some x→m[k]?=some y→f x y=true
 |[],[],_=>⟨rfl,fun h=>by simp at h⟩
 |d::r,e::s,h=>by
  simp only [y2d,Qao] at h;obtain ⟨h1,h2⟩:=y28 h.2;refine ⟨by simp [h1],fun {k x y} hx hy=>?_⟩
  cases k with
  |zero=>simp only [List.getElem?_cons_zero,Option.some.injEq] at hx hy;subst hx hy;exact h.1
  |succ k=>exact h2 (k:=k) (by simpa using hx) (by simpa using hy)
 |[],_::_,h=>by simp [y2d] at h
 |_::_,[],h=>by simp [y2d] at h
def z96 (p:Bool) (d e:DirD):Bool:=d.name==e.name&&(!p||d.line==e.line&&d.col==e.col)&&eqPairs p d.args e.args
section
variable {w0 w K : World} {M : List Ent}
theorem z3b (p:Bool) {l m:List PairD} {A B:Option Addr} {c b:Nat} (hn:pairsN l≤9000000) (heq:eqPairs p l m=true) (hd:RD K (.list l.length (pairsL l)) (.slice A l.length c)) (he:RD K (.list m.length (pairsL m)) (.slice B m.length b)) (H:Hp w0 w K M):
  Calls Tryz.prog 154 #[.slice A l.length c,.slice B m.length b,.bool p] w fun e w'=>e= .returned (.bool true)∧Hp w0 w' K M:=by
 obtain ⟨e6,E6⟩:=z0p heq
 have hnf:l.length≤9000000:=by have:=y6w l;omega
 have HF:=hide (show ∀x∈l,pairN x≤9000000 from fun x hx=>by obtain ⟨k,hk⟩:=Qaq hx;have:=y9f hk;omega);have HE6:=hide (show ∀(k:Nat) (x y:PairD),l[k]?=some x→m[k]?=some y→eqPair p x y=true from fun k x y=>E6);rw [y3u] at hd he;rw [←e6] at he ⊢;obtain ⟨nf,hnf2⟩: ∃x,l.length=x:=⟨_,rfl⟩;rw [hnf2] at hd he hnf e6 ⊢;have HNF:=hide hnf2;have HNG:=hide e6.symm;clear hnf2 e6 E6 heq hn;go_enter Tryz.func154,Tryz.ntmps154
 go_wp2_with fail
 go_loopw [7] (fun i wr=>∃k:Nat,k≤nf∧i= .int .i64 k∧Hp w0 wr K M) (fun i _=>nf - (intOf i).toNat)
 case atStart=>exact ⟨0,Qak _,rfl,H⟩
 case round=>
  clear H;obtain ⟨k,hk,rfl,H⟩:=hrel;by_cases hlt:k<nf
  ·obtain ⟨x,ad,us,hx,rfl,hxl,hat⟩:=el_k y3t hd (by rw [HNF.out];exact hlt) (by decide);obtain ⟨y,bd,vs,hy,rfl,hyl,hbt⟩:=el_k y3t he (by rw [HNG.out];exact hlt) (by decide);obtain ⟨hkI,hwr⟩:=wr_k hlt hnf;have hxn:=HF.out x (Qaf hx);have hxy:=HE6.out k x y hx hy;obtain ⟨pn,⟨dk,dt,db,di,df,dln,dcl⟩,pl,pc⟩:=x;obtain ⟨qn,⟨dk',dt',db',di',df',dln',dcl'⟩,ql,qc⟩:=y;simp only [eqPair,Qao,Qa7] at hxy
   cases p with
   |false=>
    obtain ⟨⟨rfl,hxy⟩,hpos⟩:=hxy;clear hpos;have hxy:=hide hxy;obtain ⟨ls,rfl,hvl⟩:=y12 hxl;obtain ⟨Xi,xi,Xf,xf,rfl,-,-⟩:=y0l hvl;obtain ⟨ls,rfl,hul⟩:=y12 hyl;obtain ⟨Yi,yi,Yf,yf,rfl,-,-⟩:=y0l hul;simp only [pairN] at hxn;have hc:=fun {w M} (h:Hp w0 w K M)=>y7s _ 9000000 _ _ #[_,_,_,_,_,_,_] #[_,_,_,_,_,_,_] w0 w K M (by omega) (Qab _) hxy.out hvl hul h;simp only [List.cons_append,List.nil_append] at hat hbt;clear hx hy
    go_wp2_with fail
    refine rB [] H ?_;clear H;intro w H;refine rT 0 H ?_;refine rT 1 H ?_;refine rT 2 H ?_;refine rT 3 H ?_;refine rT 4 H ?_ (hd:=datA);refine rT 5 H ?_;refine rT 6 H ?_;refine rT 7 H ?_;refine rT 8 H ?_;refine rT 9 H ?_ (hd:=datA);refine rT 10 H ?_;refine rC 11 (hc H) ?_;clear H;rintro e w ⟨rfl,H⟩;refine rX H ?_;refine rT 12 H ?_;refine rE ?_
    go_wp2_with fail
    refine rB [] H ?_;clear H;intro w H;refine rT 0 H ?_;refine rT 1 H ?_;refine rT 2 H ?_;refine rT 3 H ?_;refine rT 4 H ?_;refine rT 5 H ?_;refine rT 6 H ?_;refine rT 7 H ?_;refine rT 8 H ?_;refine rT 9 H ?_;refine rT 10 H ?_;refine rT 11 H ?_;refine rT 12 H ?_;refine rT 13 H ?_;refine rT 14 H ?_;refine rT 15 H ?_;refine rT 16 H ?_;refine rT 17 H ?_;refine rU 18 H ?_;refine rU 19 H ?_;refine rU 20 H ?_;refine rU 21 H ?_;refine rU 22 H ?_;refine rU 23 H ?_;refine rU 24 H ?_;refine rU 25 H ?_;refine rU 26 H ?_;refine rU 27 H ?_;refine rU 28 H ?_;refine rT 29 H ?_;refine rT 30 H ?_;refine rE ?_
    go_wp2_with fail
    go_roundw
    case rel=>exact ⟨k+1,by omega,by go_num,H⟩
    case measure=>simp [intOf];omega
   |true=>
    obtain ⟨⟨rfl,hxy⟩,hpos⟩:=hxy;simp only [Bool.not_true,Bool.false_or,Qao,Qa7] at hpos;obtain ⟨rfl,rfl⟩:=hpos;have hxy:=hide hxy;obtain ⟨ls,rfl,hvl⟩:=y12 hxl;obtain ⟨Xi,xi,Xf,xf,rfl,-,-⟩:=y0l hvl;obtain ⟨ls,rfl,hul⟩:=y12 hyl;obtain ⟨Yi,yi,Yf,yf,rfl,-,-⟩:=y0l hul;simp only [pairN] at hxn;have hc:=fun {w M} (h:Hp w0 w K M)=>y7s _ 9000000 _ _ #[_,_,_,_,_,_,_] #[_,_,_,_,_,_,_] w0 w K M (by omega) (Qab _) hxy.out hvl hul h;simp only [List.cons_append,List.nil_append] at hat hbt;clear hx hy
    go_wp2_with fail
    refine rB [] H ?_;clear H;intro w H;refine rT 0 H ?_;refine rT 1 H ?_;refine rT 2 H ?_;refine rT 3 H ?_;refine rT 4 H ?_ (hd:=datA);refine rT 5 H ?_;refine rT 6 H ?_;refine rT 7 H ?_;refine rT 8 H ?_;refine rT 9 H ?_ (hd:=datA);refine rT 10 H ?_;refine rC 11 (hc H) ?_;clear H;rintro e w ⟨rfl,H⟩;refine rX H ?_;refine rT 12 H ?_;refine rE ?_
    go_wp2_with fail
    refine rB [] H ?_;clear H;intro w H;refine rT 0 H ?_;refine rT 1 H ?_;refine rT 2 H ?_;refine rT 3 H ?_;refine rT 4 H ?_;refine rT 5 H ?_;refine rT 6 H ?_;refine rT 7 H ?_;refine rT 8 H ?_;refine rT 9 H ?_;refine rT 10 H ?_;refine rT 11 H ?_;refine rT 12 H ?_;refine rT 13 H ?_;refine rT 14 H ?_;refine rT 15 H ?_;refine rT 16 H ?_;refine rT 17 H ?_;refine rT 18 H ?_;refine rT 19 H ?_;refine rT 20 H ?_;refine rT 21 H ?_;refine rT 22 H ?_ (hd:=datA);refine rT 23 H ?_;refine rT 24 H ?_;refine rT 25 H ?_;refine rT 26 H ?_;refine rT 27 H ?_ (hd:=datA);refine rT 28 H ?_;refine rT 29 H ?_;refine rT 30 H ?_;refine rE ?_
    go_wp2_with fail
    go_roundw
    case rel=>exact ⟨k+1,by omega,by go_num,H⟩
    case measure=>simp [intOf];omega
  ·obtain rfl:nf=k:=by omega
   go_wp2_with fail
   go_ret;exact ⟨rfl,H⟩
theorem y2p (p:Bool) {l m:List DirD} {A B:Option Addr} {c b:Nat} (hn:sumN dirN l≤9000000) (heq:y2d (z96 p) l m=true) (hd:RD K (.list l.length (y2h l)) (.slice A l.length c)) (he:RD K (.list m.length (y2h m)) (.slice B m.length b)) (H:Hp w0 w K M):
  Calls Tryz.prog 116 #[.slice A l.length c,.slice B m.length b,.bool p] w fun e w'=>e= .returned (.bool true)∧Hp w0 w' K M:=by
 obtain ⟨e6,E6⟩:=y28 heq;have hnf:=Qah (y0x y5w l) hn;have HF:=hide (show ∀x∈l,dirN x≤9000000 from fun x hx=>by obtain ⟨k,hk⟩:=Qaq hx;have:=y77 (f:=dirN) hk;omega);have HE6:=hide (show ∀(k:Nat) (x y:DirD),l[k]?=some x→m[k]?=some y→z96 p x y=true from fun k x y=>E6);rw [←e6] at he ⊢;obtain ⟨nf,hnf2⟩: ∃x,l.length=x:=⟨_,rfl⟩;rw [hnf2] at hd he hnf e6 ⊢;have HNF:=hide hnf2;have HNG:=hide e6.symm;clear hnf2 e6 E6 heq hn;go_enter Tryz.func116,Tryz.ntmps116
 go_wp2_with fail
 go_loopw [7] (fun i wr=>∃k:Nat,k≤nf∧i= .int .i64 k∧Hp w0 wr K M) (fun i _=>nf - (intOf i).toNat)
 case atStart=>exact ⟨0,Qak _,rfl,H⟩
 case round=>
  clear H;obtain ⟨k,hk,rfl,H⟩:=hrel;by_cases hlt:k<nf
  ·obtain ⟨x,ad,us,hx,rfl,hxl,hat⟩:=el_k (m:=4) (f:=dirL) (fun _=>rfl) hd (by rw [HNF.out];exact hlt) (by decide);obtain ⟨y,bd,vs,hy,rfl,hyl,hbt⟩:=el_k (m:=4) (f:=dirL) (fun _=>rfl) he (by rw [HNG.out];exact hlt) (by decide);obtain ⟨hkI,hwr⟩:=wr_k hlt hnf;have hxn:=HF.out x (Qaf hx);have hxy:=HE6.out k x y hx hy;obtain ⟨pn,pas,pl,pc⟩:=x;obtain ⟨qn,qas,ql,qc⟩:=y;simp only [z96,Qao,Qa7] at hxy
   cases p with
   |false=>
    obtain ⟨⟨rfl,hpos⟩,hxy⟩:=hxy;clear hpos;have hxy:=hide hxy;obtain ⟨Aa,ca,rfl,ha⟩:=y6v hxl;obtain ⟨Ab,cb,rfl,hb⟩:=y6v hyl;simp only [dirN] at hxn;dsimp only at ha hb hat hbt;have hc:=fun {w M} (h:Hp w0 w K M)=>z3b _ (by omega) hxy.out ha hb h;clear hx hy
    go_wp2_with fail
    refine rB [] H ?_;clear H;intro w H;refine rT 0 H ?_;refine rT 1 H ?_;refine rT 2 H ?_;refine rT 3 H ?_;refine rT 4 H ?_;refine rT 5 H ?_;refine rT 6 H ?_;refine rT 7 H ?_;refine rT 8 H ?_;refine rT 9 H ?_;refine rT 10 H ?_;refine rC 11 (hc H) ?_;clear H;rintro e w ⟨rfl,H⟩;refine rX H ?_;refine rT 12 H ?_;refine rE ?_
    go_wp2_with fail
    refine rB [] H ?_;clear H;intro w H;refine rT 0 H ?_;refine rT 1 H ?_;refine rT 2 H ?_;refine rT 3 H ?_;refine rT 4 H ?_;refine rT 5 H ?_;refine rT 6 H ?_;refine rT 7 H ?_;refine rT 8 H ?_;refine rT 9 H ?_;refine rT 10 H ?_;refine rT 11 H ?_;refine rT 12 H ?_;refine rT 13 H ?_;refine rT 14 H ?_;refine rT 15 H ?_;refine rT 16 H ?_;refine rT 17 H ?_;refine rU 18 H ?_;refine rU 19 H ?_;refine rU 20 H ?_;refine rU 21 H ?_;refine rU 22 H ?_;refine rU 23 H ?_;refine rU 24 H ?_;refine rU 25 H ?_;refine rU 26 H ?_;refine rU 27 H ?_;refine rU 28 H ?_;refine rT 29 H ?_;refine rT 30 H ?_;refine rE ?_
    go_wp2_with fail
    go_roundw
    case rel=>exact ⟨k+1,by omega,by go_num,H⟩
    case measure=>simp [intOf];omega
   |true=>
    obtain ⟨⟨rfl,hpos⟩,hxy⟩:=hxy;simp only [Bool.not_true,Bool.false_or,Qao,Qa7] at hpos;obtain ⟨rfl,rfl⟩:=hpos;have hxy:=hide hxy;obtain ⟨Aa,ca,rfl,ha⟩:=y6v hxl;obtain ⟨Ab,cb,rfl,hb⟩:=y6v hyl;simp only [dirN] at hxn;dsimp only at ha hb hat hbt;have hc:=fun {w M} (h:Hp w0 w K M)=>z3b _ (by omega) hxy.out ha hb h;clear hx hy
    go_wp2_with fail
    refine rB [] H ?_;clear H;intro w H;refine rT 0 H ?_;refine rT 1 H ?_;refine rT 2 H ?_;refine rT 3 H ?_;refine rT 4 H ?_;refine rT 5 H ?_;refine rT 6 H ?_;refine rT 7 H ?_;refine rT 8 H ?_;refine rT 9 H ?_;refine rT 10 H ?_;refine rC 11 (hc H) ?_;clear H;rintro e w ⟨rfl,H⟩;refine rX H ?_;refine rT 12 H ?_;refine rE ?_
    go_wp2_with fail
    refine rB [] H ?_;clear H;intro w H;refine rT 0 H ?_;refine rT 1 H ?_;refine rT 2 H ?_;refine rT 3 H ?_;refine rT 4 H ?_;refine rT 5 H ?_;refine rT 6 H ?_;refine rT 7 H ?_;refine rT 8 H ?_;refine rT 9 H ?_;refine rT 10 H ?_;refine rT 11 H ?_;refine rT 12 H ?_;refine rT 13 H ?_;refine rT 14 H ?_;refine rT 15 H ?_;refine rT 16 H ?_;refine rT 17 H ?_;refine rT 18 H ?_;refine rT 19 H ?_;refine rT 20 H ?_;refine rT 21 H ?_;refine rT 22 H ?_ (hd:=datA);refine rT 23 H ?_;refine rT 24 H ?_;refine rT 25 H ?_;refine rT 26 H ?_;refine rT 27 H ?_ (hd:=datA);refine rT 28 H ?_;refine rT 29 H ?_;refine rT 30 H ?_;refine rE ?_
    go_wp2_with fail
    go_roundw
    case rel=>exact ⟨k+1,by omega,by go_num,H⟩
    case measure=>simp [intOf];omega
  ·obtain rfl:nf=k:=by omega
   go_wp2_with fail
   go_ret;exact ⟨rfl,H⟩
end
section
variable {P : Program} {w0 w K K' : World} {M N : List Ent} {ops : Array Oper} {Q : Exit → Act → World → Prop} {F : List Nat} {fuel : Nat} {listed : Array Bool} {a a' : Act} {oi : Oper} {o : Oper} {v : Value}
theorem datB {ty:TypeId} {x:Operand} {n:Nat} {p:Addr} {cs us:List Value} (ho:o.op= .load ty x:=by rfl) (hs:Rw P ty n:=by infer_instance) (hx:a.eval x= .pointer (some p):=by first|exact (rfl:_=Value.pointer _)|(simp [Act.eval,Act.put];done)|fail)
  (hc:At K p cs:=by assumption) (hn:cs.take n=us:=by (simp only [List.take_succ_cons,List.take_zero,List.take_nil];try rfl)) (hl:us.length=n:=by rfl):y97 P o a K M (.agg us.toArray):=fun w0 w H=>by
 obtain ⟨d,hu,hd⟩:=hs.u;have hsz:=hs.s;rw [←hl] at hsz
 have hat:At w p us:=⟨fun u hu=>(At.sat hc H.sat).1 u (by
  rw [←hn,Qbb] at hu;split at hu
  ·exact hu
  ·cases hu),fun i u hu=>(At.sat hc H.sat).2 i u (by
  rw [←hn,Qbb] at hu;split at hu
  ·exact hu
  ·cases hu)⟩
 unfold execOp;simp only [ho,hx,Instr.loadAt,Instr.sureAddr,Sem.run_bind,Sem.run_pure,Result.andThen_ok,y3n w _ ty us d hat hu hd hsz]
theorem rD (i:Nat) {f:FuncId} {xs:Array Value} {R:Ending→World→Prop} (hC:Calls P f xs w R) (h: ∀e w',R e w'→ ∃v a',e= .returned v∧a.put oi.dst v=a'∧Ov w0 K M w'∧AnyL P .any ops Q (Ov w0 K M) F fuel (listed.setIfInBounds i true) a' w') (hr:Region.ready .any ops listed=[i]:=by kernel_rfl)
  (hi:ops[i]?=some oi:=by (simp only [List.getElem?_toArray,List.getElem?_cons_zero,List.getElem?_cons_succ];try rfl)) (hrun:(execOp a.eval oi).run P w= .ok (.enter f xs) w:=by (go_simp;try with_reducible rfl)) (hw:Region.wanted oi (yielded ops a.tmps)=true:=by rfl):AnyL P .any ops Q (Ov w0 K M) F (fuel+1) listed a w:=
 held.step hr hi fun Kq hKq=>by
  rw [if_pos hw];unfold Oper.wp;rw [hrun,Oper.upon_enter];refine hC.mono fun e w' hR=>?_;obtain ⟨v,a',rfl,ha,hS,hW⟩:=h e w' hR;exact hKq.out _ _ (fun _=>hS) (fun _=>by rw [ha];exact hW)
end
def y8z (p:Bool) (d e:NamedD):Bool:=d.name==e.name&&(!p||d.line==e.line&&d.col==e.col)
section
variable {w0 w K : World} {M : List Ent}
theorem y64 (p:Bool) {l m:List NamedD} {A B:Option Addr} {c b:Nat} (hn:l.length≤9000000) (heq:y2d (y8z p) l m=true) (hd:RD K (.list l.length (l.flatMap y74)) (.slice A l.length c)) (he:RD K (.list m.length (m.flatMap y74)) (.slice B m.length b)) (H:Hp w0 w K M):
  Calls Tryz.prog 111 #[.slice A l.length c,.slice B m.length b,.bool p] w fun e w'=>e= .returned (.bool true)∧Hp w0 w' K M:=by
 obtain ⟨e6,E6⟩:=y28 heq;have hnf:=hn;have HE6:=hide (show ∀(k:Nat) (x y:NamedD),l[k]?=some x→m[k]?=some y→(y8z p) x y=true from fun k x y=>E6);rw [←e6] at he ⊢;obtain ⟨nf,hnf2⟩: ∃x,l.length=x:=⟨_,rfl⟩;rw [hnf2] at hd he hnf e6 ⊢;have HNF:=hide hnf2;have HNG:=hide e6.symm;clear hnf2 e6 E6 heq hn;go_enter Tryz.func111,Tryz.ntmps111
 go_wp2_with fail
 go_loopw [7] (fun i wr=>∃k:Nat,k≤nf∧i= .int .i64 k∧Hp w0 wr K M) (fun i _=>nf - (intOf i).toNat)
 case atStart=>exact ⟨0,Qak _,rfl,H⟩
 case round=>
  clear H;obtain ⟨k,hk,rfl,H⟩:=hrel;by_cases hlt:k<nf
  ·obtain ⟨x,ad,us,hx,rfl,hxl,hat⟩:=el_k (m:=3) (f:=y74) (fun _=>rfl) hd (by rw [HNF.out];exact hlt) (by decide);obtain ⟨y,bd,vs,hy,rfl,hyl,hbt⟩:=el_k (m:=3) (f:=y74) (fun _=>rfl) he (by rw [HNG.out];exact hlt) (by decide);obtain ⟨hkI,hwr⟩:=wr_k hlt hnf;have hxy:=HE6.out k x y hx hy
   cases p with
   |false=>
    obtain ⟨xn,xl,xc⟩:=x;obtain ⟨yn,yl,yc⟩:=y;simp only [y8z,Qao,Qa7] at hxy;obtain ⟨rfl,hpos⟩:=hxy;clear hpos;obtain ⟨r0,rfl,h0⟩:=hxl.lit_inv;obtain ⟨r1,rfl,h1⟩:=h0.lit_inv;obtain ⟨r2,rfl,h2⟩:=h1.lit_inv;obtain rfl:=h2.nil_inv;obtain ⟨s0,rfl,k0⟩:=hyl.lit_inv;obtain ⟨s1,rfl,k1⟩:=k0.lit_inv;obtain ⟨s2,rfl,k2⟩:=k1.lit_inv;obtain rfl:=k2.nil_inv;clear hx hy
    go_wp2_with fail
    refine rB [] H ?_;clear H;intro w H;refine rT 0 H ?_;refine rT 1 H ?_;refine rT 2 H ?_;refine rT 3 H ?_;refine rT 4 H ?_;refine rT 5 H ?_;refine rT 6 H ?_;refine rT 7 H ?_;refine rT 8 H ?_;refine rT 9 H ?_;refine rT 10 H ?_;refine rT 11 H ?_;refine rT 12 H ?_;refine rT 13 H ?_;refine rU 14 H ?_;refine rU 15 H ?_;refine rU 16 H ?_;refine rU 17 H ?_;refine rU 18 H ?_;refine rU 19 H ?_;refine rU 20 H ?_;refine rU 21 H ?_;refine rU 22 H ?_;refine rU 23 H ?_;refine rU 24 H ?_;refine rT 25 H ?_;refine rT 26 H ?_;refine rE ?_
    go_wp2_with fail
    go_roundw
    case rel=>exact ⟨k+1,by omega,by go_num,H⟩
    case measure=>simp [intOf];omega
   |true=>
    obtain ⟨xn,xl,xc⟩:=x;obtain ⟨yn,yl,yc⟩:=y;simp only [y8z,Qao,Qa7] at hxy;obtain ⟨rfl,hpos⟩:=hxy;simp only [Bool.not_true,Bool.false_or,Qao,Qa7] at hpos;obtain ⟨rfl,rfl⟩:=hpos;obtain ⟨r0,rfl,h0⟩:=hxl.lit_inv;obtain ⟨r1,rfl,h1⟩:=h0.lit_inv;obtain ⟨r2,rfl,h2⟩:=h1.lit_inv;obtain rfl:=h2.nil_inv;obtain ⟨s0,rfl,k0⟩:=hyl.lit_inv;obtain ⟨s1,rfl,k1⟩:=k0.lit_inv;obtain ⟨s2,rfl,k2⟩:=k1.lit_inv;obtain rfl:=k2.nil_inv;clear hx hy
    go_wp2_with fail
    refine rB [] H ?_;clear H;intro w H;refine rT 0 H ?_;refine rT 1 H ?_;refine rT 2 H ?_;refine rT 3 H ?_;refine rT 4 H ?_;refine rT 5 H ?_;refine rT 6 H ?_;refine rT 7 H ?_;refine rT 8 H ?_;refine rT 9 H ?_;refine rT 10 H ?_;refine rT 11 H ?_;refine rT 12 H ?_;refine rT 13 H ?_;refine rT 14 H ?_;refine rT 15 H ?_;refine rT 16 H ?_;refine rT 17 H ?_;refine rT 18 H ?_ (hd:=datA);refine rT 19 H ?_;refine rT 20 H ?_;refine rT 21 H ?_;refine rT 22 H ?_;refine rT 23 H ?_ (hd:=datA);refine rT 24 H ?_;refine rT 25 H ?_;refine rT 26 H ?_;refine rE ?_
    go_wp2_with fail
    go_roundw
    case rel=>exact ⟨k+1,by omega,by go_num,H⟩
    case measure=>simp [intOf];omega
  ·obtain rfl:nf=k:=by omega
   go_wp2_with fail
   go_ret;exact ⟨rfl,H⟩
end
instance:Sc Tryz.prog 30:=⟨⟨_,Tryz.underlying30,rfl⟩⟩
def z8f (p:Bool) (d e:RootD):Bool:=d.op==e.op&&d.type==e.type&&(!p||d.line==e.line&&d.col==e.col)
section
variable {w0 w K : World} {M : List Ent}
theorem z8g (p:Bool) {l m:List RootD} {A B:Option Addr} {c b:Nat} (hn:l.length≤9000000) (heq:y2d (z8f p) l m=true) (hd:RD K (.list l.length (l.flatMap z08)) (.slice A l.length c)) (he:RD K (.list m.length (m.flatMap z08)) (.slice B m.length b)) (H:Hp w0 w K M):
  Calls Tryz.prog 115 #[.slice A l.length c,.slice B m.length b,.bool p] w fun e w'=>e= .returned (.bool true)∧Hp w0 w' K M:=by
 obtain ⟨e6,E6⟩:=y28 heq;have hnf:=hn;have HE6:=hide (show ∀(k:Nat) (x y:RootD),l[k]?=some x→m[k]?=some y→(z8f p) x y=true from fun k x y=>E6);rw [←e6] at he ⊢;obtain ⟨nf,hnf2⟩: ∃x,l.length=x:=⟨_,rfl⟩;rw [hnf2] at hd he hnf e6 ⊢;have HNF:=hide hnf2;have HNG:=hide e6.symm;clear hnf2 e6 E6 heq hn;go_enter Tryz.func115,Tryz.ntmps115
 go_wp2_with fail
 go_loopw [7] (fun i wr=>∃k:Nat,k≤nf∧i= .int .i64 k∧Hp w0 wr K M) (fun i _=>nf - (intOf i).toNat)
 case atStart=>exact ⟨0,Qak _,rfl,H⟩
 case round=>
  clear H;obtain ⟨k,hk,rfl,H⟩:=hrel;by_cases hlt:k<nf
  ·obtain ⟨x,ad,us,hx,rfl,hxl,hat⟩:=el_k (m:=4) (f:=z08) (fun _=>rfl) hd (by rw [HNF.out];exact hlt) (by decide);obtain ⟨y,bd,vs,hy,rfl,hyl,hbt⟩:=el_k (m:=4) (f:=z08) (fun _=>rfl) he (by rw [HNG.out];exact hlt) (by decide);obtain ⟨hkI,hwr⟩:=wr_k hlt hnf;have hxy:=HE6.out k x y hx hy
   cases p with
   |false=>
    obtain ⟨xo,xt,xl,xc⟩:=x;obtain ⟨yo,yt,yl,yc⟩:=y;simp only [z8f,Qao,Qa7] at hxy;obtain ⟨⟨rfl,rfl⟩,hpos⟩:=hxy;clear hpos;obtain ⟨r0,rfl,h0⟩:=hxl.lit_inv;obtain ⟨r1,rfl,h1⟩:=h0.lit_inv;obtain ⟨r2,rfl,h2⟩:=h1.lit_inv;obtain ⟨r3,rfl,h3⟩:=h2.lit_inv;obtain rfl:=h3.nil_inv;obtain ⟨s0,rfl,k0⟩:=hyl.lit_inv;obtain ⟨s1,rfl,k1⟩:=k0.lit_inv;obtain ⟨s2,rfl,k2⟩:=k1.lit_inv;obtain ⟨s3,rfl,k3⟩:=k2.lit_inv;obtain rfl:=k3.nil_inv;clear hx hy
    go_wp2_with fail
    refine rB [] H ?_;clear H;intro w H;refine rT 0 H ?_;refine rT 1 H ?_;refine rT 2 H ?_;refine rT 3 H ?_;refine rT 4 H ?_;refine rT 5 H ?_;refine rT 6 H ?_;refine rT 7 H ?_;refine rT 8 H ?_;refine rT 9 H ?_;refine rT 10 H ?_;refine rT 11 H ?_;refine rT 12 H ?_;refine rT 13 H ?_;refine rT 14 H ?_;refine rT 15 H ?_;refine rT 16 H ?_;refine rT 17 H ?_;refine rT 18 H ?_;refine rT 19 H ?_;refine rT 20 H ?_;refine rT 21 H ?_;refine rT 22 H ?_;refine rT 23 H ?_;refine rT 24 H ?_;refine rT 25 H ?_;refine rT 26 H ?_;refine rU 27 H ?_;refine rU 28 H ?_;refine rU 29 H ?_;refine rU 30 H ?_;refine rU 31 H ?_;refine rU 32 H ?_;refine rU 33 H ?_;refine rU 34 H ?_;refine rU 35 H ?_;refine rU 36 H ?_;refine rU 37 H ?_;refine rT 38 H ?_;refine rT 39 H ?_;refine rE ?_
    go_wp2_with fail
    go_roundw
    case rel=>exact ⟨k+1,by omega,by go_num,H⟩
    case measure=>simp [intOf];omega
   |true=>
    obtain ⟨xo,xt,xl,xc⟩:=x;obtain ⟨yo,yt,yl,yc⟩:=y;simp only [z8f,Qao,Qa7] at hxy;obtain ⟨⟨rfl,rfl⟩,hpos⟩:=hxy;simp only [Bool.not_true,Bool.false_or,Qao,Qa7] at hpos;obtain ⟨rfl,rfl⟩:=hpos;obtain ⟨r0,rfl,h0⟩:=hxl.lit_inv;obtain ⟨r1,rfl,h1⟩:=h0.lit_inv;obtain ⟨r2,rfl,h2⟩:=h1.lit_inv;obtain ⟨r3,rfl,h3⟩:=h2.lit_inv;obtain rfl:=h3.nil_inv;obtain ⟨s0,rfl,k0⟩:=hyl.lit_inv;obtain ⟨s1,rfl,k1⟩:=k0.lit_inv;obtain ⟨s2,rfl,k2⟩:=k1.lit_inv;obtain ⟨s3,rfl,k3⟩:=k2.lit_inv;obtain rfl:=k3.nil_inv;clear hx hy
    go_wp2_with fail
    refine rB [] H ?_;clear H;intro w H;refine rT 0 H ?_;refine rT 1 H ?_;refine rT 2 H ?_;refine rT 3 H ?_;refine rT 4 H ?_;refine rT 5 H ?_;refine rT 6 H ?_;refine rT 7 H ?_;refine rT 8 H ?_;refine rT 9 H ?_;refine rT 10 H ?_;refine rT 11 H ?_;refine rT 12 H ?_;refine rT 13 H ?_;refine rT 14 H ?_;refine rT 15 H ?_;refine rT 16 H ?_;refine rT 17 H ?_;refine rT 18 H ?_;refine rT 19 H ?_;refine rT 20 H ?_;refine rT 21 H ?_;refine rT 22 H ?_;refine rT 23 H ?_;refine rT 24 H ?_;refine rT 25 H ?_;refine rT 26 H ?_;refine rT 27 H ?_;refine rT 28 H ?_;refine rT 29 H ?_;refine rT 30 H ?_;refine rT 31 H ?_ (hd:=datA);refine rT 32 H ?_;refine rT 33 H ?_;refine rT 34 H ?_;refine rT 35 H ?_;refine rT 36 H ?_ (hd:=datA);refine rT 37 H ?_;refine rT 38 H ?_;refine rT 39 H ?_;refine rE ?_
    go_wp2_with fail
    go_roundw
    case rel=>exact ⟨k+1,by omega,by go_num,H⟩
    case measure=>simp [intOf];omega
  ·obtain rfl:nf=k:=by omega
   go_wp2_with fail
   go_ret;exact ⟨rfl,H⟩
end
end Go.Proofs.YtbpgkkoeehopjaaGreat.hp
