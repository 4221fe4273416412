/- Part 10 of 17 of a proof: see the last part. -/
import Derived.Test.YtbpgkkoeehopjaaGreatP4
import Derived.Test.YtbpgkkoeehopjaaGreatP5
import Derived.Test.YtbpgkkoeehopjaaGreatP8
import Derived.Test.YtbpgkkoeehopjaaGreatP9
import Derived.Deep.QuietTactic
import Derived.BigQuiet
set_option linter.unusedVariables false
set_option linter.unusedSimpArgs false
namespace Go.Proofs.YtbpgkkoeehopjaaGreat.acr
open tree gram rd dat lex
set_option maxRecDepth 100000
section
variable {toks : List TokD}
theorem q3e (hE:TokA toks) (L:Nat) (hL:toks.length≤L) {n:Nat} {rest:List Txt} {k k0:Nat} {op:Int} {f:Nat} {p:NoteD} (hn0:y9k toks k0=some (p,k)) (hk0:k0≤k) (h:Runs toks n (y82::rest) k op) (h0:0≤op) (h1:op≤200) (h2:200<op+f):
  Got toks n rest op k0 y22 (y5a toks L f k0):=by
 obtain ⟨m,t,rfl,ht,hA⟩:=x7x h;rcases hA with ⟨hF,h⟩|⟨_,h⟩
 ·obtain ⟨m1,rfl,hf,hn,hl,h⟩:=h.t0 hE ht;obtain ⟨a,k1,m2,e1,hr,hm1,hN1⟩:=z3a hE L hL h h0 h1 h2;obtain ⟨t2,ht2⟩:=hr.tok;have hW2:=hE.wf _ t2 ht2;obtain ⟨m3,rfl,hf2,hn2,hl2,h⟩:=hr.t0 hE ht2;obtain ⟨r,k',m4,e,hr,hm,hN,hlen⟩:=x8f hE _ _ (k1+1) op f h h0 h1 h2;obtain ⟨b,k3,m7,e3,hr3,hm3,hN3⟩:=y2g hE L hL hr h1 h2 (by omega);unfold y5a;rw [hn0,Option.bind_some,ht,Option.bind_some,hn,e1,Option.bind_some,ht2,Option.bind_some,if_pos (by rw [y01 hW2 (by decide)];exact hf2),e,Option.bind_some,e3,Option.bind_some];exact ⟨_,_,m7,rfl,hr3,by omega,by simp only [y22];omega⟩
 ·exact h.elim
theorem x8i (hE:TokA toks) (L:Nat) (hL:toks.length≤L) {n:Nat} {rest:List Txt} {k:Nat} {op:Int} {f:Nat} (h:Runs toks n (z1c::rest) k op) (h0:0≤op) (h1:op≤200) (h2:200<op+f):
  Got toks n rest op k y22 (y5a toks L f k):=by
 obtain ⟨m,t,rfl,ht,hA⟩:=x17 h;rcases hA with ⟨hF,h⟩|⟨hF,⟨hF2,h⟩|⟨_,h⟩⟩
 ·obtain ⟨p,m1,e,em,h'⟩:=z1s hE ht h;subst em;obtain ⟨a,k2,m6,e2,hr2,hm2,hN2⟩:=q3e hE L hL e (by omega) h' h0 h1 h2;exact ⟨a,k2,m6,e2,hr2,by omega,hN2⟩
 ·obtain ⟨a,k2,m6,e2,hr2,hm2,hN2⟩:=q3e hE L hL (y5v ht (y2e hF (by decide+kernel))) (Qab _) h h0 h1 h2;exact ⟨a,k2,m6,e2,hr2,by omega,hN2⟩
 ·exact h.elim
theorem q3f (hE:TokA toks) (L:Nat) (hL:toks.length≤L) {n:Nat} {rest:List Txt} {k k0:Nat} {op:Int} {f:Nat} {p:NoteD} (hn0:y9k toks k0=some (p,k)) (hk0:k0≤k) (h:Runs toks n (z27::rest) k op) (h1:op≤200) (h2:200<op+f):
  Got toks n rest op k0 y3c (y6x toks L f k0):=by
 obtain ⟨m,t,rfl,ht,hA⟩:=q1r h;rcases hA with ⟨hF,h⟩|⟨_,h⟩
 ·obtain ⟨m1,rfl,hf,hn,hl,h⟩:=h.t0 hE ht;obtain ⟨b,k3,m7,e3,hr3,hm3,hN3⟩:=y2g hE L hL h h1 h2 (by omega);unfold y6x;rw [hn0,Option.bind_some,ht,Option.bind_some,hn,e3,Option.bind_some];exact ⟨_,_,m7,rfl,hr3,by omega,by simp only [y3c];omega⟩
 ·exact h.elim
theorem x8j (hE:TokA toks) (L:Nat) (hL:toks.length≤L) {n:Nat} {rest:List Txt} {k:Nat} {op:Int} {f:Nat} (h:Runs toks n (z7w::rest) k op) (h1:op≤200) (h2:200<op+f):
  Got toks n rest op k y3c (y6x toks L f k):=by
 obtain ⟨m,t,rfl,ht,hA⟩:=x76 h;rcases hA with ⟨hF,h⟩|⟨hF,⟨hF2,h⟩|⟨_,h⟩⟩
 ·obtain ⟨p,m1,e,em,h'⟩:=z1s hE ht h;subst em;obtain ⟨a,k2,m6,e2,hr2,hm2,hN2⟩:=q3f hE L hL e (by omega) h' h1 h2;exact ⟨a,k2,m6,e2,hr2,by omega,hN2⟩
 ·obtain ⟨a,k2,m6,e2,hr2,hm2,hN2⟩:=q3f hE L hL (y5v ht (y2e hF (by decide+kernel))) (Qab _) h h1 h2;exact ⟨a,k2,m6,e2,hr2,by omega,hN2⟩
 ·exact h.elim
theorem q18 (hE:TokA toks) {n:Nat} {rest:List Txt} {k:Nat} {op:Int} (h:Runs toks n (z7v::rest) k op):Got toks n rest op k (fun _=>1) (z2i toks k):=by
 obtain ⟨m,t,rfl,ht,hA⟩:=x7r h;rcases hA with ⟨hF,h⟩|⟨_,h⟩
 ·obtain ⟨m1,rfl,hf,hn,hl,h⟩:=h.t0 hE ht;obtain ⟨t1,ht1⟩:=h.tok;have hW1:=hE.wf _ t1 ht1;obtain ⟨m2,rfl,hf1,hn1,hl1,h⟩:=h.t0 hE ht1;obtain ⟨t2,ht2⟩:=h.tok;obtain ⟨m3,rfl,hf2,hn2,hl2,h⟩:=h.t0 hE ht2
  have hs:y1h tSTR t=false:=by
   have:((t.kind==3)&&y3v t.text y5q)=true:=hf;simp only [Qao,Qa7] at this
   show ((t.kind==6)||(t.kind==7))=false
   rw [this.1];rfl
  unfold z2i;rw [y5v ht hs,Option.bind_some,ht,Option.bind_some];simp only;rw [hn,ht1,Option.bind_some,if_pos (by rw [y01 hW1 (by decide)];exact hf1),ht2,Option.bind_some,hn2];exact ⟨_,_,m3,rfl,h,by omega,by show 1+k≤_;omega⟩
 ·exact h.elim
theorem x8k {α:Type} (hE:TokA toks) (L:Nat) (hL:toks.length≤L) (item list:Txt) (e:Nat→Option (α×Nat)) (N:α→Nat) (hN: ∀a,0<N a) (op:Int) (hop:op≤199)
  (hitem: ∀(n:Nat) (rest:List Txt) (k:Nat),Runs toks n (item::rest) k (op+1)→Got toks n rest (op+1) k N (e k))
  (hno: ∀(n:Nat) (rest:List Txt) (k:Nat) (op:Int) (t:TokD),Runs toks n (item::rest) k op→toks[k]?=some t→isF t [125]=false)
  (hin: ∀(n:Nat) (rest:List Txt) (k:Nat) (op:Int),Runs toks n (list::rest) k op→ ∃m t,n=m+1∧toks[k]?=some t∧(Runs toks m (item::list::rest) k op∨Runs toks m rest k op)): ∀n,
  (∀(rest:List Txt) (k fu:Nat),Runs toks n (list::[125]::rest) k (op+1)→toks.length<fu+k→Got toks n rest op k (fun l=>sumN N l+1) (y56 toks e fu k))∧
  (∀(rest:List Txt) (k fu:Nat),Runs toks n (item::list::[125]::rest) k (op+1)→toks.length<fu+k→Got toks n rest op k (fun l=>sumN N l+1) (y56 toks e fu k)):=by
 intro n
 induction n using Nat.strongRecOn with
 |_ n ih=>
  refine ⟨fun rest k fu h h3=>?_,fun rest k fu h h3=>?_⟩
  ·obtain ⟨m,t,rfl,ht,hA⟩:=hin _ _ _ _ h;have hlt:k<toks.length:=(Qac.1 ht).1;have hW:=hE.wf k t ht;rcases hA with h|h
   ·obtain ⟨a,k',m1,e',hr,hm,hN⟩:=(ih m (by omega)).2 rest k fu h h3;exact ⟨a,k',m1,e',hr,by omega,hN⟩
   ·obtain ⟨fu,rfl⟩: ∃g,fu=g+1:=⟨fu - 1,by omega⟩;rw [y56,ht,Option.bind_some];obtain ⟨m',rfl,hf,hn,hl,h⟩:=h.tclose hE ht;rw [if_pos (by rw [y01 hW (by decide)];exact hf)];rw [Int.add_sub_cancel] at h;exact ⟨_,_,m',rfl,h,by omega,by simp [sumN];omega⟩
  ·obtain ⟨t,ht⟩:=h.tok;have hlt:k<toks.length:=(Qac.1 ht).1;obtain ⟨fu,rfl⟩: ∃g,fu=g+1:=⟨fu - 1,by omega⟩;rw [y56,ht,Option.bind_some,if_neg (by rw [hno _ _ _ _ _ h ht];decide)];obtain ⟨a,k',m3,e1,hr,hm,hN1⟩:=hitem _ _ _ h;rw [e1,Option.bind_some];have hp:=hN a;obtain ⟨b,k2,m4,e2,hr2,hm2,hN2⟩:=(ih m3 (by omega)).1 rest k' fu hr (by omega);rw [e2,Option.bind_some];exact ⟨_,_,m4,rfl,hr2,by omega,by simp only [sumN] at hN2 ⊢;omega⟩
theorem z0l {α:Type} (hE:TokA toks) (L:Nat) (hL:toks.length≤L) (item list:Txt) (e:Nat→Option (α×Nat)) (N:α→Nat) (hN: ∀a,0<N a) (op:Int)
  (hitem:op≤199→ ∀(n:Nat) (rest:List Txt) (k:Nat),Runs toks n (item::rest) k (op+1)→Got toks n rest (op+1) k N (e k))
  (hno: ∀(n:Nat) (rest:List Txt) (k:Nat) (op:Int) (t:TokD),Runs toks n (item::rest) k op→toks[k]?=some t→isF t [125]=false)
  (hin: ∀(n:Nat) (rest:List Txt) (k:Nat) (op:Int),Runs toks n (list::rest) k op→ ∃m t,n=m+1∧toks[k]?=some t∧(Runs toks m (item::list::rest) k op∨Runs toks m rest k op))
  {n:Nat} {rest:List Txt} {k:Nat} (h:Runs toks n ([123]::item::list::[125]::rest) k op):Got toks n rest op k (fun l=>sumN N l) (y3b toks e L k):=by
 obtain ⟨t,ht⟩:=h.tok;have hlt:k<toks.length:=(Qac.1 ht).1;have hW:=hE.wf k t ht;obtain ⟨m1,rfl,hf,hn,hl,hop,h⟩:=h.topen hE ht;unfold y3b;rw [ht,Option.bind_some,if_pos (by rw [y01 hW (by decide)];exact hf)];obtain ⟨a,k',m2,e1,hr,hm,hN1⟩:=(x8k hE L hL item list e N hN op (by omega) (hitem (by omega)) hno hin m1).2 rest (k+1) L h (by omega);exact ⟨a,k',m2,e1,hr,by omega,by simp only at hN1 ⊢;omega⟩
theorem z6h {α:Type} (hE:TokA toks) (e:Nat→Option (α×Nat)) (L:Nat) {k:Nat} {t:TokD} (ht:toks[k]?=some t) (hf:y1h [123] t=false):y3b toks e L k=some ([],k):=by
 unfold y3b;rw [ht,Option.bind_some,if_neg (by rw [y01 (hE.wf k t ht) (by decide),hf];decide)]
theorem y9v (hE:TokA toks) {k:Nat} {t:TokD} {F:List Txt} (ht:toks[k]?=some t) (hF:fits F t=true) (hn:F.contains [125]=false):isF t [125]=false:=y62 (hE.wf k t ht) (by decide) hF hn
theorem z3c (hE:TokA toks) (L:Nat) (hL:toks.length≤L) {n:Nat} {rest:List Txt} {k:Nat} {op:Int} {f:Nat} (h:Runs toks n (y6a::rest) k op) (h0:0≤op) (h2:200<op+f):Got toks n rest op k (sumN y22) (y3b toks (y5a toks L f) L k):=by
 obtain ⟨m,t,rfl,ht,hA⟩:=x4g h;rcases hA with ⟨hF,h⟩|⟨_,h⟩
 ·obtain ⟨a,k',m1,e,hr,hm,hN⟩:=z0l hE L hL z1c y81 (y5a toks L f) y22 y24 op (fun ho n rest k h=>x8i hE L hL h (by omega) (by omega) (by omega))
   (fun n rest k op t h ht=>by
     obtain ⟨m,t',_,ht',hA⟩:=x17 h
     rw [ht] at ht';injection ht' with ht';subst ht'
     rcases hA with ⟨hF,_⟩|⟨_,⟨hF,_⟩|⟨_,h⟩⟩
     ·exact y9v hE ht hF (by decide+kernel)
     ·exact y9v hE ht hF (by decide+kernel)
     ·exact h.elim)
   (fun n rest k op h=>by
     obtain ⟨m,t,rfl,ht,hA⟩:=x7v h;rcases hA with ⟨_,h⟩|⟨_,⟨_,h⟩|⟨_,h⟩⟩
     ·exact ⟨m,t,rfl,ht,.inl h⟩
     ·exact ⟨m,t,rfl,ht,.inr h⟩
     ·exact ⟨m,t,rfl,ht,.inr h⟩) h
  exact ⟨a,k',m1,e,hr,by omega,hN⟩
 ·exact h.elim
theorem z0m (hE:TokA toks) (L:Nat) (hL:toks.length≤L) {n:Nat} {rest:List Txt} {k:Nat} {op:Int} {f:Nat} (h:Runs toks n (y3d::rest) k op) (h0:0≤op) (h2:200<op+f):Got toks n rest op k (sumN y22) (y3b toks (y5a toks L f) L k):=by
 obtain ⟨m,t,rfl,ht,hA⟩:=x7u h;rcases hA with ⟨hF,h⟩|⟨hF,h⟩
 ·obtain ⟨a,k',m1,e,hr,hm,hN⟩:=z3c hE L hL h h0 h2;exact ⟨a,k',m1,e,hr,by omega,hN⟩
 ·have h:Runs toks m rest k op:=by rcases h with ⟨_,h⟩|⟨_,h⟩<;>exact h
  rw [z6h hE _ L ht (y2e hF (by decide+kernel))];exact ⟨_,_,m,rfl,h,by omega,by simp [sumN]⟩
theorem z4z (hE:TokA toks) (L:Nat) (hL:toks.length≤L) {n:Nat} {rest:List Txt} {k:Nat} {op:Int} {f:Nat} (h:Runs toks n (y84::rest) k op) (h0:0≤op) (h2:200<op+f):Got toks n rest op k (sumN y3c) (y3b toks (y6x toks L f) L k):=by
 obtain ⟨m,t,rfl,ht,hA⟩:=x74 h;rcases hA with ⟨hF,h⟩|⟨_,h⟩
 ·obtain ⟨a,k',m1,e,hr,hm,hN⟩:=z0l hE L hL z7w z26 (y6x toks L f) y3c (fun d=>Nat.succ_pos _) op (fun ho n rest k h=>x8j hE L hL h (by omega) (by omega))
   (fun n rest k op t h ht=>by
     obtain ⟨m,t',_,ht',hA⟩:=x76 h
     rw [ht] at ht';injection ht' with ht';subst ht'
     rcases hA with ⟨hF,_⟩|⟨_,⟨hF,_⟩|⟨_,h⟩⟩
     ·exact y9v hE ht hF (by decide+kernel)
     ·exact y9v hE ht hF (by decide+kernel)
     ·exact h.elim)
   (fun n rest k op h=>by
     obtain ⟨m,t,rfl,ht,hA⟩:=q1p h;rcases hA with ⟨_,h⟩|⟨_,⟨_,h⟩|⟨_,h⟩⟩
     ·exact ⟨m,t,rfl,ht,.inl h⟩
     ·exact ⟨m,t,rfl,ht,.inr h⟩
     ·exact ⟨m,t,rfl,ht,.inr h⟩) h
  exact ⟨a,k',m1,e,hr,by omega,hN⟩
 ·exact h.elim
theorem z73 (hE:TokA toks) (L:Nat) (hL:toks.length≤L) {n:Nat} {rest:List Txt} {k:Nat} {op:Int} {f:Nat} (h:Runs toks n (y9u::rest) k op) (h0:0≤op) (h2:200<op+f):Got toks n rest op k (sumN y3c) (y3b toks (y6x toks L f) L k):=by
 obtain ⟨m,t,rfl,ht,hA⟩:=q1o h;rcases hA with ⟨hF,h⟩|⟨hF,h⟩
 ·obtain ⟨a,k',m1,e,hr,hm,hN⟩:=z4z hE L hL h h0 h2;exact ⟨a,k',m1,e,hr,by omega,hN⟩
 ·have h:Runs toks m rest k op:=by rcases h with ⟨_,h⟩|⟨_,h⟩<;>exact h
  rw [z6h hE _ L ht (y2e hF (by decide+kernel))];exact ⟨_,_,m,rfl,h,by omega,by simp [sumN]⟩
theorem x8l {α:Type}: ∀l:List α,sumN (fun _=>1) l=l.length
 |[]=>rfl
 |_::r=>by simp only [sumN,x8l r,List.length_cons];omega
theorem z3d (hE:TokA toks) (L:Nat) (hL:toks.length≤L) {n:Nat} {rest:List Txt} {k:Nat} {op:Int} (h:Runs toks n (y5u::rest) k op) (h0:0≤op):Got toks n rest op k (fun l=>l.length) (y3b toks (z2i toks) L k):=by
 obtain ⟨m,t,rfl,ht,hA⟩:=x16 h;rcases hA with ⟨hF,h⟩|⟨_,h⟩
 ·obtain ⟨a,k',m1,e,hr,hm,hN⟩:=z0l hE L hL z7v z23 (z2i toks) (fun _=>1) (fun _=>Nat.one_pos) op (fun ho n rest k h=>q18 hE h)
   (fun n rest k op t h ht=>by
     obtain ⟨m,t',_,ht',hA⟩:=x7r h
     rw [ht] at ht';injection ht' with ht';subst ht'
     rcases hA with ⟨hF,_⟩|⟨_,h⟩
     ·exact y9v hE ht hF (by decide+kernel)
     ·exact h.elim)
   (fun n rest k op h=>by
     obtain ⟨m,t,rfl,ht,hA⟩:=q1m h;rcases hA with ⟨_,h⟩|⟨_,⟨_,h⟩|⟨_,h⟩⟩
     ·exact ⟨m,t,rfl,ht,.inl h⟩
     ·exact ⟨m,t,rfl,ht,.inr h⟩
     ·exact ⟨m,t,rfl,ht,.inr h⟩) h
  exact ⟨a,k',m1,e,hr,by omega,by simp only at hN;rw [x8l] at hN;exact hN⟩
 ·exact h.elim
theorem x4w (hE:TokA toks) (L:Nat) (hL:toks.length≤L) {n:Nat} {rest:List Txt} {k:Nat} {op:Int} (h:Runs toks n (y8z::rest) k op) (h0:0≤op):Got toks n rest op k (fun l=>l.length) (y3b toks (z2i toks) L k):=by
 obtain ⟨m,t,rfl,ht,hA⟩:=x7o h;rcases hA with ⟨hF,h⟩|⟨hF,h⟩
 ·obtain ⟨a,k',m1,e,hr,hm,hN⟩:=z3d hE L hL h h0;exact ⟨a,k',m1,e,hr,by omega,hN⟩
 ·have h:Runs toks m rest k op:=by rcases h with ⟨_,h⟩|⟨_,h⟩<;>exact h
  rw [z6h hE _ L ht (y2e hF (by decide+kernel))];exact ⟨_,_,m,rfl,h,by omega,by simp⟩
theorem z3e (hE:TokA toks) (L f:Nat) (hL:0<L) {k:Nat} {t:TokD} (ht:toks[k]?=some t) {F:List Txt} (hF:fits F t=true) (hn:F.contains [64]=false):y4s toks L f k=some ([],k):=by
 obtain ⟨fu,rfl⟩: ∃g,L=g+1:=⟨L - 1,by omega⟩;unfold y4s;rw [y8b,ht,Option.bind_some,if_neg (by rw [y62 (hE.wf k t ht) (by decide) hF hn];decide)]
theorem x4x {t:TokD} (h:y1h [46,112,108,97,99,101] t=true):t.kind=3:=by
 have:((t.kind==3)&&y3v t.text y4j)=true:=h;simp only [Qao,Qa7] at this;exact this.1
theorem z3f (hE:TokA toks) (L:Nat) (hL:toks.length≤L) {n:Nat} {rest:List Txt} {k:Nat} {op:Int} (h:Runs toks n (y59::rest) k op):Got toks n rest op k (fun l=>l.length) (optF toks [105,109,112,108,101,109,101,110,116,115] [38] L k):=by
 obtain ⟨m,t,rfl,ht,hA⟩:=x4d h;have hW:=hE.wf _ t ht;rcases hA with ⟨hF,h⟩|⟨_,h⟩
 ·obtain ⟨m1,rfl,hf,hn,hl,h⟩:=h.t0 hE ht;unfold optF;rw [ht,Option.bind_some,if_pos (by rw [z0j hW (by decide)];exact hf)];obtain ⟨a,k',m2,e,hr,hm,hN⟩:=z0k hE 38 (by decide) (by decide+kernel) z6g y80 nAMP (by decide+kernel) (by decide+kernel) (fun t h=>z29 h) x7t q6n L hL (by omega) h;exact ⟨a,k',m2,e,hr,by omega,by simp only at hN ⊢;omega⟩
 ·exact h.elim
theorem z3g (hE:TokA toks) (L:Nat) {k:Nat} {t:TokD} (ht:toks[k]?=some t) (hf:y1h [39,105,109,112,108,101,109,101,110,116,115] t=false):optF toks [105,109,112,108,101,109,101,110,116,115] [38] L k=some ([],k):=by
 unfold optF;rw [ht,Option.bind_some,if_neg (by rw [z0j (hE.wf k t ht) (by decide),hf];decide)]
theorem x4y (hE:TokA toks) (L:Nat) (hL:toks.length≤L) {n:Nat} {rest:List Txt} {k:Nat} {op:Int} (h:Runs toks n (y5k::rest) k op):Got toks n rest op k (fun l=>l.length) (optF toks [105,109,112,108,101,109,101,110,116,115] [38] L k):=by
 obtain ⟨m,t,rfl,ht,hA⟩:=x7s h;rcases hA with ⟨hF,h⟩|⟨hF,h⟩
 ·obtain ⟨a,k',m2,e,hr,hm,hN⟩:=z3f hE L hL h;exact ⟨a,k',m2,e,hr,by omega,hN⟩
 ·have h:Runs toks m rest k op:=by rcases h with ⟨_,h⟩|⟨_,h⟩<;>exact h
  rw [z3g hE L ht (y2e hF (by decide+kernel))];exact ⟨_,_,m,rfl,h,by omega,by simp⟩
theorem z1d (hE:TokA toks) (L:Nat) (hL:toks.length≤L) {n:Nat} {rest:List Txt} {k:Nat} {op:Int} (h:Runs toks n (y4x::rest) k op):Got toks n rest op k (fun l=>l.length) (optF toks [61] [124] L k):=by
 obtain ⟨m,t,rfl,ht,hA⟩:=x0g h;have hW:=hE.wf _ t ht;rcases hA with ⟨hF,h⟩|⟨_,h⟩
 ·obtain ⟨m1,rfl,hf,hn,hl,h⟩:=h.t0 hE ht;unfold optF;rw [ht,Option.bind_some,if_pos (by rw [y01 hW (by decide)];exact hf)];obtain ⟨a,k',m2,e,hr,hm,hN⟩:=z0k hE 124 (by decide) (by decide+kernel) z6g y6b nBAR (by decide+kernel) (by decide+kernel) (fun t h=>z29 h) x4o q3c L hL (by omega) h;exact ⟨a,k',m2,e,hr,by omega,by simp only at hN ⊢;omega⟩
 ·exact h.elim
theorem z3h (hE:TokA toks) (L:Nat) (hL:toks.length≤L) {n:Nat} {rest:List Txt} {k:Nat} {op:Int} (h:Runs toks n (y4f::rest) k op):Got toks n rest op k (fun l=>l.length) (optF toks [61] [124] L k):=by
 obtain ⟨m,t,rfl,ht,hA⟩:=x4n h;rcases hA with ⟨hF,h⟩|⟨hF,h⟩
 ·obtain ⟨a,k',m2,e,hr,hm,hN⟩:=z1d hE L hL h;exact ⟨a,k',m2,e,hr,by omega,hN⟩
 ·have h:Runs toks m rest k op:=by rcases h with ⟨_,h⟩|⟨_,h⟩<;>exact h
  unfold optF;rw [ht,Option.bind_some,if_neg (by rw [y01 (hE.wf k t ht) (by decide),y2e hF (by decide+kernel)];decide)];exact ⟨_,_,m,rfl,h,by omega,by simp⟩
section body
variable (hE : TokA toks) (L : Nat) (hL : toks.length ≤ L) (f : Nat) (h2 : 200 < f) (hd : NoteD × Bool × TokD × Nat) {k0 : Nat} (hk0 : k0 + 1 ≤ hd.2.2.2)
include hE hL h2 hk0
theorem z3i {n:Nat} {st:List Txt} {rest:List Txt} (h:Runs toks n (st++rest) hd.2.2.2 0) (hst:st=[y09,y5u]∨st=[nDIR,y09,y8z]∨st=[y5u]):Got toks n rest 0 k0 defN (y8r toks L f hd):=by
 unfold y8r
 have fin: ∀n k1 ds,Got toks n rest 0 k1 (fun l=>l.length) (y3b toks (z2i toks) L k1)→y4s toks L f hd.2.2.2=some (ds,k1)→sumN dirN ds+hd.2.2.2≤k1→Got toks n rest 0 k0 defN ((y4s toks L f hd.2.2.2).bind fun d=>(y3b toks (z2i toks) L d.2).bind fun r=>some ((⟨1,hd.2.1,hd.1,[],[],d.1,[],[],[],[],r.1,false,[],hd.2.2.1.line,hd.2.2.1.col⟩:DefD),r.2)):=by
  rintro n k1 ds ⟨a,k',m1,e,hr,hm,hN⟩ hds hsz;rw [hds,Option.bind_some,e,Option.bind_some];exact ⟨_,_,m1,rfl,hr,hm,by simp only [defN,sumN,List.length_nil] at hN ⊢;omega⟩
 rcases hst with rfl|rfl|rfl
 ·obtain ⟨a,k',m1,e,hr,hm,hN⟩:=y2g hE L hL h (by omega) (by omega:200<(0:Int)+(f:Nat)) (by omega:0<hd.2.2.2);have hg:=z3d hE L hL hr (Int.le_refl _);obtain ⟨x,y,z,g1,g2,g3,g4⟩:=fin _ _ _ hg e hN;exact ⟨x,y,z,g1,g2,by omega,g4⟩
 ·obtain ⟨a,k',m1,e,hr,hm,hN⟩:=y7o hE L hL h (by omega) (by omega:200<(0:Int)+(f:Nat)) (by omega:0<hd.2.2.2);have hg:=x4w hE L hL hr (Int.le_refl _);obtain ⟨x,y,z,g1,g2,g3,g4⟩:=fin _ _ _ hg e hN;exact ⟨x,y,z,g1,g2,by omega,g4⟩
 ·have hg:=z3d hE L hL h (Int.le_refl _);obtain ⟨m,t,_,ht,hA⟩:=x16 h;rcases hA with ⟨hF,_⟩|⟨_,hA⟩
  ·have hlt:=(Qac.1 ht).1;exact fin _ _ _ hg (z3e hE L f (by omega) ht hF (by decide+kernel)) (by simp [sumN])
  ·exact hA.elim
theorem z74 {n:Nat} {st:List Txt} {rest:List Txt} (h:Runs toks n (z6g::(st++rest)) hd.2.2.2 0) (hst:st=[y09]∨st=[nDIR,y09]):Got toks n rest 0 k0 defN (y8s toks L f hd):=by
 obtain ⟨t,ht⟩:=h.tok;obtain ⟨m1,rfl,hf,hn,hl,h⟩:=h.t0 hE ht;unfold y8s;rw [ht,Option.bind_some,hn]
 have hg:Got toks m1 rest 0 (hd.2.2.2+1) (sumN dirN) (y4s toks L f (hd.2.2.2+1)):=by
  rcases hst with rfl|rfl
  ·exact y2g hE L hL h (by omega) (by omega) (by omega)
  ·exact y7o hE L hL h (by omega) (by omega) (by omega)
 obtain ⟨a,k',m2,e,hr,hm,hN⟩:=hg;rw [e,Option.bind_some];exact ⟨_,_,m2,rfl,hr,by omega,by simp only [defN,sumN,List.length_nil] at hN ⊢;omega⟩
theorem y9w (kind:Int) {n:Nat} {st:List Txt} {rest:List Txt} (h:Runs toks n (z6g::(st++rest)) hd.2.2.2 0) (hst:st=[y5k,y09,y3d]∨st=[y4e]):Got toks n rest 0 k0 defN (y36 kind toks L f hd):=by
 obtain ⟨t,ht⟩:=h.tok;obtain ⟨m1,rfl,hf,hn,hl,h⟩:=h.t0 hE ht
 have hg: ∃is k1 ds k2,optF toks [105,109,112,108,101,109,101,110,116,115] [38] L (hd.2.2.2+1)=some (is,k1)∧y4s toks L f k1=some (ds,k2)∧is.length+(hd.2.2.2+1)≤k1∧sumN dirN ds+k1≤k2∧Got toks m1 rest 0 k2 (sumN y22) (y3b toks (y5a toks L f) L k2):=by
  rcases hst with rfl|rfl
  ·obtain ⟨a,k1,m2,e,hr,hm,hN⟩:=x4y hE L hL h;obtain ⟨b,k2,m3,e2,hr2,hm2,hN2⟩:=y2g hE L hL hr (by omega) (by omega:200<(0:Int)+(f:Nat)) (by omega);obtain ⟨x,y,z,g1,g2,g3,g4⟩:=z0m hE L hL hr2 (Int.le_refl _) (by omega:200<(0:Int)+(f:Nat));exact ⟨a,k1,b,k2,e,e2,hN,hN2,x,y,z,g1,g2,by omega,g4⟩
  ·obtain ⟨m2,t2,rfl,ht2,hA⟩:=x4b h;rcases hA with ⟨hF,h⟩|⟨hF0,⟨hF,h⟩|⟨_,⟨hF,h⟩|⟨_,hA⟩⟩⟩
   ·obtain ⟨a,k1,m2,e,hr,hm,hN⟩:=z3f hE L hL h;obtain ⟨b,k2,m3,e2,hr2,hm2,hN2⟩:=y2g hE L hL hr (by omega) (by omega:200<(0:Int)+(f:Nat)) (by omega);obtain ⟨x,y,z,g1,g2,g3,g4⟩:=z0m hE L hL hr2 (Int.le_refl _) (by omega:200<(0:Int)+(f:Nat));exact ⟨a,k1,b,k2,e,e2,hN,hN2,x,y,z,g1,g2,by omega,g4⟩
   ·obtain ⟨b,k2,m3,e2,hr2,hm2,hN2⟩:=y7o hE L hL h (by omega) (by omega:200<(0:Int)+(f:Nat)) (by omega);obtain ⟨x,y,z,g1,g2,g3,g4⟩:=z0m hE L hL hr2 (Int.le_refl _) (by omega:200<(0:Int)+(f:Nat));exact ⟨[],_,b,k2,z3g hE L ht2 (y2e hF0 (by decide+kernel)),e2,by simp,hN2,x,y,z,g1,g2,by omega,g4⟩
   ·obtain ⟨x,y,z,g1,g2,g3,g4⟩:=z3c hE L hL h (Int.le_refl _) (by omega:200<(0:Int)+(f:Nat));exact ⟨[],_,[],_,z3g hE L ht2 (y2e hF0 (by decide+kernel)),z3e hE L f (by omega) ht2 hF (by decide+kernel),by simp,by simp [sumN],x,y,z,g1,g2,by omega,g4⟩
   ·exact hA.elim
 obtain ⟨is,k1,ds,k2,e1,e2,hN1,hN2,a,k',m2,e,hr,hm,hN⟩:=hg;unfold y36;rw [ht,Option.bind_some,hn,e1,Option.bind_some,e2,Option.bind_some,e,Option.bind_some];exact ⟨_,_,m2,rfl,hr,by omega,by simp only [defN,sumN,List.length_nil] at hN ⊢;omega⟩
theorem x2c {n:Nat} {st:List Txt} {rest:List Txt} (h:Runs toks n (z6g::(st++rest)) hd.2.2.2 0) (hst:st=[y09,y4f]∨st=[z0h]):Got toks n rest 0 k0 defN (z2j toks L f hd):=by
 obtain ⟨t,ht⟩:=h.tok;obtain ⟨m1,rfl,hf,hn,hl,h⟩:=h.t0 hE ht
 have hg: ∃ds k2,y4s toks L f (hd.2.2.2+1)=some (ds,k2)∧sumN dirN ds+(hd.2.2.2+1)≤k2∧Got toks m1 rest 0 k2 (fun l=>l.length) (optF toks [61] [124] L k2):=by
  rcases hst with rfl|rfl
  ·obtain ⟨b,k2,m3,e2,hr2,hm2,hN2⟩:=y2g hE L hL h (by omega) (by omega:200<(0:Int)+(f:Nat)) (by omega);obtain ⟨x,y,z,g1,g2,g3,g4⟩:=z3h hE L hL hr2;exact ⟨b,k2,e2,hN2,x,y,z,g1,g2,by omega,g4⟩
  ·obtain ⟨m2,t2,rfl,ht2,hA⟩:=x72 h;rcases hA with ⟨hF,h⟩|⟨_,⟨hF,h⟩|⟨_,hA⟩⟩
   ·obtain ⟨b,k2,m3,e2,hr2,hm2,hN2⟩:=y7o hE L hL h (by omega) (by omega:200<(0:Int)+(f:Nat)) (by omega);obtain ⟨x,y,z,g1,g2,g3,g4⟩:=z3h hE L hL hr2;exact ⟨b,k2,e2,hN2,x,y,z,g1,g2,by omega,g4⟩
   ·obtain ⟨x,y,z,g1,g2,g3,g4⟩:=z1d hE L hL h;exact ⟨[],_,z3e hE L f (by omega) ht2 hF (by decide+kernel),by simp [sumN],x,y,z,g1,g2,by omega,g4⟩
   ·exact hA.elim
 obtain ⟨ds,k2,e2,hN2,a,k',m2,e,hr,hm,hN⟩:=hg;unfold z2j;rw [ht,Option.bind_some,hn,e2,Option.bind_some,e,Option.bind_some];exact ⟨_,_,m2,rfl,hr,by omega,by simp only [defN,sumN,List.length_nil] at hN ⊢;omega⟩
theorem x8m {n:Nat} {st:List Txt} {rest:List Txt} (h:Runs toks n (z6g::(st++rest)) hd.2.2.2 0) (hst:st=[y09,y9u]∨st=[z4w]):Got toks n rest 0 k0 defN (z90 toks L f hd):=by
 obtain ⟨t,ht⟩:=h.tok;obtain ⟨m1,rfl,hf,hn,hl,h⟩:=h.t0 hE ht
 have hg: ∃ds k2,y4s toks L f (hd.2.2.2+1)=some (ds,k2)∧sumN dirN ds+(hd.2.2.2+1)≤k2∧Got toks m1 rest 0 k2 (sumN y3c) (y3b toks (y6x toks L f) L k2):=by
  rcases hst with rfl|rfl
  ·obtain ⟨b,k2,m3,e2,hr2,hm2,hN2⟩:=y2g hE L hL h (by omega) (by omega:200<(0:Int)+(f:Nat)) (by omega);obtain ⟨x,y,z,g1,g2,g3,g4⟩:=z73 hE L hL hr2 (Int.le_refl _) (by omega:200<(0:Int)+(f:Nat));exact ⟨b,k2,e2,hN2,x,y,z,g1,g2,by omega,g4⟩
  ·obtain ⟨m2,t2,rfl,ht2,hA⟩:=q1s h;rcases hA with ⟨hF,h⟩|⟨_,⟨hF,h⟩|⟨_,hA⟩⟩
   ·obtain ⟨b,k2,m3,e2,hr2,hm2,hN2⟩:=y7o hE L hL h (by omega) (by omega:200<(0:Int)+(f:Nat)) (by omega);obtain ⟨x,y,z,g1,g2,g3,g4⟩:=z73 hE L hL hr2 (Int.le_refl _) (by omega:200<(0:Int)+(f:Nat));exact ⟨b,k2,e2,hN2,x,y,z,g1,g2,by omega,g4⟩
   ·obtain ⟨x,y,z,g1,g2,g3,g4⟩:=z4z hE L hL h (Int.le_refl _) (by omega:200<(0:Int)+(f:Nat));exact ⟨[],_,z3e hE L f (by omega) ht2 hF (by decide+kernel),by simp [sumN],x,y,z,g1,g2,by omega,g4⟩
   ·exact hA.elim
 obtain ⟨ds,k2,e2,hN2,a,k',m2,e,hr,hm,hN⟩:=hg;unfold z90;rw [ht,Option.bind_some,hn,e2,Option.bind_some,e,Option.bind_some];exact ⟨_,_,m2,rfl,hr,by omega,by simp only [defN,sumN,List.length_nil] at hN ⊢;omega⟩
theorem x2d {n:Nat} {st:List Txt} {rest:List Txt} (h:Runs toks n (z6g::(st++rest)) hd.2.2.2 0) (hst:st=[y09,y6c]∨st=[z0i]):Got toks n rest 0 k0 defN (z2k toks L f hd):=by
 obtain ⟨t,ht⟩:=h.tok;obtain ⟨m1,rfl,hf,hn,hl,h⟩:=h.t0 hE ht
 have hg: ∃ds k2,y4s toks L f (hd.2.2.2+1)=some (ds,k2)∧sumN dirN ds+(hd.2.2.2+1)≤k2∧Got toks m1 rest 0 k2 (sumN y15) (y3k toks [123] [125] L f k2):=by
  rcases hst with rfl|rfl
  ·obtain ⟨b,k2,m3,e2,hr2,hm2,hN2⟩:=y2g hE L hL h (by omega) (by omega:200<(0:Int)+(f:Nat)) (by omega);obtain ⟨x,y,z,g1,g2,g3,g4⟩:=z4y hE L hL hr2 (Int.le_refl _) (by omega) (by omega:200<(0:Int)+(f:Nat));exact ⟨b,k2,e2,hN2,x,y,z,g1,g2,by omega,g4⟩
  ·obtain ⟨m2,t2,rfl,ht2,hA⟩:=x8a h;rcases hA with ⟨hF,h⟩|⟨_,⟨hF,h⟩|⟨_,hA⟩⟩
   ·obtain ⟨b,k2,m3,e2,hr2,hm2,hN2⟩:=y7o hE L hL h (by omega) (by omega:200<(0:Int)+(f:Nat)) (by omega);obtain ⟨x,y,z,g1,g2,g3,g4⟩:=z4y hE L hL hr2 (Int.le_refl _) (by omega) (by omega:200<(0:Int)+(f:Nat));exact ⟨b,k2,e2,hN2,x,y,z,g1,g2,by omega,g4⟩
   ·obtain ⟨x,y,z,g1,g2,g3,g4⟩:=z3b hE L hL h (Int.le_refl _) (by omega) (by omega:200<(0:Int)+(f:Nat));exact ⟨[],_,z3e hE L f (by omega) ht2 hF (by decide+kernel),by simp [sumN],x,y,z,g1,g2,by omega,g4⟩
   ·exact hA.elim
 obtain ⟨ds,k2,e2,hN2,a,k',m2,e,hr,hm,hN⟩:=hg;unfold z2k;rw [ht,Option.bind_some,hn,e2,Option.bind_some,e,Option.bind_some];exact ⟨_,_,m2,rfl,hr,by omega,by simp only [defN,sumN,List.length_nil] at hN ⊢;omega⟩
theorem q6r {n:Nat} {rest:List Txt} (h:Runs toks n ([64]::z6g::y61::z28::[39,111,110]::nBAR::[46,112,108,97,99,101]::y5m::rest) hd.2.2.2 0):Got toks n rest 0 k0 defN (dirF toks L f hd):=by
 obtain ⟨t,ht⟩:=h.tok;have hW:=hE.wf _ t ht;obtain ⟨m1,rfl,hf,hn,hl,h⟩:=h.t0 hE ht;obtain ⟨t3,ht3⟩:=h.tok;obtain ⟨m2,rfl,hf3,hn3,hl3,h⟩:=h.t0 hE ht3;obtain ⟨a,k1,m3,e1,hr,hm1,hN1⟩:=z3a hE L hL h (Int.le_refl _) (by omega) (by omega:200<(0:Int)+(f:Nat))
 have hrep: ∃k2 m4 t5,toks[k1]?=some t5∧(if isF t5 [114,101,112,101,97,116,97,98,108,101]=true then k1+1 else k1)=k2∧k1≤k2∧m4<m3∧Runs toks m4 ([39,111,110]::nBAR::[46,112,108,97,99,101]::y5m::rest) k2 0:=by
  obtain ⟨m4,t5,rfl,ht5,hA⟩:=x8b hr;have hW5:=hE.wf _ t5 ht5;rcases hA with ⟨hF,h⟩|⟨hF,h⟩
  ·obtain ⟨m5,rfl,hf5,hn5,hl5,h⟩:=h.t0 hE ht5;exact ⟨k1+1,m5,t5,ht5,if_pos (by rw [z0j hW5 (by decide)];exact hf5),by omega,by omega,h⟩
  ·have h:Runs toks m4 ([39,111,110]::nBAR::[46,112,108,97,99,101]::y5m::rest) k1 0:=by rcases h with ⟨_,h⟩|⟨_,h⟩<;>exact h
   exact ⟨k1,m4,t5,ht5,if_neg (by rw [z0j hW5 (by decide),y2e hF (by decide+kernel)];decide),by omega,by omega,h⟩
 obtain ⟨k2,m4,t5,ht5,hk2,hle,hm4,h⟩:=hrep;obtain ⟨t6,ht6⟩:=h.tok;have hW6:=hE.wf _ t6 ht6;obtain ⟨m5,rfl,hf6,hn6,hl6,h⟩:=h.t0 hE ht6;obtain ⟨b,k3,m6,e2,hr2,hm2,hN2⟩:=z0k hE 124 (by decide) (by decide+kernel) [46,112,108,97,99,101] y5m nBAR (by decide+kernel) (by decide+kernel) (fun t h=>x4x h) x8c q3c L hL (by omega) h;unfold dirF;rw [ht,Option.bind_some,if_pos (by rw [y01 hW (by decide)];exact hf),ht3,Option.bind_some,hn3,e1,Option.bind_some,ht5,Option.bind_some,hk2,ht6,Option.bind_some,if_pos (by rw [z0j hW6 (by decide)];exact hf6),e2,Option.bind_some];exact ⟨_,_,m6,rfl,hr2,by omega,by simp only [defN,sumN,List.length_nil] at hN1 hN2 ⊢;omega⟩
end body
end
section
variable {toks : List TokD} (hE : TokA toks) (L : Nat) (hL : toks.length ≤ L) (f : Nat) (h2 : 200 < f)
theorem kw {t:TokD} {w:Txt} (hw: ∀t,y1h (39::w) t=((t.kind==3)&&decide (t.text=w))) (h:y1h (39::w) t=true):t.text=w:=by
 rw [hw] at h;simp only [Qao,decide_eq_true_eq] at h;exact h.2
theorem y63 {t:TokD} {w:Txt} (h:t.text=w) (hw:w≠[101,120,116,101,110,100]):isF t [101,120,116,101,110,100]=false:=by
 unfold isF;rw [h,Qa4 hw];rfl
theorem q3g {h:NoteD×Bool×TokD×Nat} (hk:h.2.2.1.text=[115,99,104,101,109,97]):y47 toks L f h=y8r toks L f h:=by
 have e:y46 [115,99,104,101,109,97]=1:=by decide+kernel
 unfold y47;rw [hk,e];rfl
theorem q3h {h:NoteD×Bool×TokD×Nat} (hk:h.2.2.1.text=[115,99,97,108,97,114]):y47 toks L f h=y8s toks L f h:=by
 have e:y46 [115,99,97,108,97,114]=2:=by decide+kernel
 unfold y47;rw [hk,e];rfl
theorem q3i {h:NoteD×Bool×TokD×Nat} (hk:h.2.2.1.text=[116,121,112,101]):y47 toks L f h=y36 3 toks L f h:=by
 have e:y46 [116,121,112,101]=3:=by decide+kernel
 unfold y47;rw [hk,e];rfl
theorem q3j {h:NoteD×Bool×TokD×Nat} (hk:h.2.2.1.text=[105,110,116,101,114,102,97,99,101]):y47 toks L f h=y36 4 toks L f h:=by
 have e:y46 [105,110,116,101,114,102,97,99,101]=4:=by decide+kernel
 unfold y47;rw [hk,e];rfl
theorem q3k {h:NoteD×Bool×TokD×Nat} (hk:h.2.2.1.text=[117,110,105,111,110]):y47 toks L f h=z2j toks L f h:=by
 have e:y46 [117,110,105,111,110]=5:=by decide+kernel
 unfold y47;rw [hk,e];rfl
theorem q3l {h:NoteD×Bool×TokD×Nat} (hk:h.2.2.1.text=[101,110,117,109]):y47 toks L f h=z90 toks L f h:=by
 have e:y46 [101,110,117,109]=6:=by decide+kernel
 unfold y47;rw [hk,e];rfl
theorem q3m {h:NoteD×Bool×TokD×Nat} (hk:h.2.2.1.text=[105,110,112,117,116]):y47 toks L f h=z2k toks L f h:=by
 have e:y46 [105,110,112,117,116]=7:=by decide+kernel
 unfold y47;rw [hk,e];rfl
theorem q6s {h:NoteD×Bool×TokD×Nat} (hk:h.2.2.1.text=[100,105,114,101,99,116,105,118,101]):y47 toks L f h=dirF toks L f h:=by
 have e:y46 [100,105,114,101,99,116,105,118,101]=8:=by decide+kernel
 unfold y47;rw [hk,e];rfl
theorem Got.weak {α:Type} {n n':Nat} {rest:List Txt} {op:Int} {k:Nat} {N:α→Nat} {x:Option (α×Nat)} (h:Got toks n rest op k N x) (hn:n≤n'):Got toks n' rest op k N x:=by
 obtain ⟨a,b,c,h1,h2,h3,h4⟩:=h;exact ⟨a,b,c,h1,h2,by omega,h4⟩
include hE hL h2
theorem x2e {n:Nat} {rest:List Txt} {k k0:Nat} {t:TokD} (ht:toks[k]?=some t) (hk0:k0≤k) (note:NoteD) (ext:Bool) (h:Runs toks n (z97::rest) k 0):
  Got toks n rest 0 k0 defN (y47 toks L f (note,ext,t,k+1))∧isF t [101,120,116,101,110,100]=false∧y0w toks.length k=k+1∧t.kind=3:=by
 obtain ⟨m,t',rfl,ht',hA⟩:=q4k h
 rw [ht] at ht';injection ht' with ht';subst ht'
 have hk3: ∀w,(∀t,y1h (39::w) t=((t.kind==3)&&decide (t.text=w)))→y1h (39::w) t=true→t.kind=3:=fun w hw h=>by
  rw [hw] at h;simp only [Qao,Qa7] at h;exact h.1
 rcases hA with ⟨_,h⟩|⟨_,⟨_,h⟩|⟨_,⟨_,h⟩|⟨_,⟨_,h⟩|⟨_,⟨_,h⟩|⟨_,⟨_,h⟩|⟨_,⟨_,h⟩|⟨_,⟨_,h⟩|⟨_,h⟩⟩⟩⟩⟩⟩⟩⟩
 ·obtain ⟨m1,rfl,hf,hn,hl,h⟩:=h.t0 hE ht;have hx:=kw (fun t=>rfl) hf;rw [q3g L f hx];exact ⟨(z3i hE L hL f h2 (note,ext,t,k+1) (by simp only;omega) (st:=[y09,y5u]) h (.inl rfl)).weak (by omega),y63 hx (by decide),hn,hk3 _ (fun t=>rfl) hf⟩
 ·obtain ⟨m1,rfl,hf,hn,hl,h⟩:=h.t0 hE ht;have hx:=kw (fun t=>rfl) hf;rw [q3h L f hx];exact ⟨(z74 hE L hL f h2 (note,ext,t,k+1) (by simp only;omega) (st:=[y09]) h (.inl rfl)).weak (by omega),y63 hx (by decide),hn,hk3 _ (fun t=>rfl) hf⟩
 ·obtain ⟨m1,rfl,hf,hn,hl,h⟩:=h.t0 hE ht;have hx:=kw (fun t=>rfl) hf;rw [q3i L f hx];exact ⟨(y9w hE L hL f h2 (note,ext,t,k+1) (by simp only;omega) 3 (st:=[y5k,y09,y3d]) h (.inl rfl)).weak (by omega),y63 hx (by decide),hn,hk3 _ (fun t=>rfl) hf⟩
 ·obtain ⟨m1,rfl,hf,hn,hl,h⟩:=h.t0 hE ht;have hx:=kw (fun t=>rfl) hf;rw [q3j L f hx];exact ⟨(y9w hE L hL f h2 (note,ext,t,k+1) (by simp only;omega) 4 (st:=[y5k,y09,y3d]) h (.inl rfl)).weak (by omega),y63 hx (by decide),hn,hk3 _ (fun t=>rfl) hf⟩
 ·obtain ⟨m1,rfl,hf,hn,hl,h⟩:=h.t0 hE ht;have hx:=kw (fun t=>rfl) hf;rw [q3k L f hx];exact ⟨(x2c hE L hL f h2 (note,ext,t,k+1) (by simp only;omega) (st:=[y09,y4f]) h (.inl rfl)).weak (by omega),y63 hx (by decide),hn,hk3 _ (fun t=>rfl) hf⟩
 ·obtain ⟨m1,rfl,hf,hn,hl,h⟩:=h.t0 hE ht;have hx:=kw (fun t=>rfl) hf;rw [q3l L f hx];exact ⟨(x8m hE L hL f h2 (note,ext,t,k+1) (by simp only;omega) (st:=[y09,y9u]) h (.inl rfl)).weak (by omega),y63 hx (by decide),hn,hk3 _ (fun t=>rfl) hf⟩
 ·obtain ⟨m1,rfl,hf,hn,hl,h⟩:=h.t0 hE ht;have hx:=kw (fun t=>rfl) hf;rw [q3m L f hx];exact ⟨(x2d hE L hL f h2 (note,ext,t,k+1) (by simp only;omega) (st:=[y09,y6c]) h (.inl rfl)).weak (by omega),y63 hx (by decide),hn,hk3 _ (fun t=>rfl) hf⟩
 ·obtain ⟨m1,rfl,hf,hn,hl,h⟩:=h.t0 hE ht;have hx:=kw (fun t=>rfl) hf;rw [q6s L f hx];exact ⟨(q6r hE L hL f h2 (note,ext,t,k+1) (by simp only;omega) h).weak (by omega),y63 hx (by decide),hn,hk3 _ (fun t=>rfl) hf⟩
 ·exact h.elim
theorem x8n {n:Nat} {rest:List Txt} {k k0:Nat} {t:TokD} (ht:toks[k]?=some t) (hk0:k0≤k) (note:NoteD) (ext:Bool) (h:Runs toks n (z7u::rest) k 0):
  Got toks n rest 0 k0 defN (y47 toks L f (note,ext,t,k+1))∧y0w toks.length k=k+1:=by
 obtain ⟨m,t',rfl,ht',hA⟩:=q1l h
 rw [ht] at ht';injection ht' with ht';subst ht'
 rcases hA with ⟨_,h⟩|⟨_,⟨_,h⟩|⟨_,⟨_,h⟩|⟨_,⟨_,h⟩|⟨_,⟨_,h⟩|⟨_,⟨_,h⟩|⟨_,⟨_,h⟩|⟨_,h⟩⟩⟩⟩⟩⟩⟩
 ·obtain ⟨m1,rfl,hf,hn,hl,h⟩:=h.t0 hE ht;have hx:=kw (fun t=>rfl) hf;rw [q3g L f hx];obtain ⟨m2,t2,rfl,ht2,hA⟩:=x39 h;rcases hA with ⟨_,h⟩|⟨_,⟨_,h⟩|⟨_,h⟩⟩
  ·exact ⟨(z3i hE L hL f h2 (note,ext,t,k+1) (by simp only;omega) (st:=[nDIR,y09,y8z]) h (.inr (.inl rfl))).weak (by omega),hn⟩
  ·exact ⟨(z3i hE L hL f h2 (note,ext,t,k+1) (by simp only;omega) (st:=[y5u]) h (.inr (.inr rfl))).weak (by omega),hn⟩
  ·exact h.elim
 ·obtain ⟨m1,rfl,hf,hn,hl,h⟩:=h.t0 hE ht;have hx:=kw (fun t=>rfl) hf;rw [q3h L f hx];exact ⟨(z74 hE L hL f h2 (note,ext,t,k+1) (by simp only;omega) (st:=[nDIR,y09]) h (.inr rfl)).weak (by omega),hn⟩
 ·obtain ⟨m1,rfl,hf,hn,hl,h⟩:=h.t0 hE ht;have hx:=kw (fun t=>rfl) hf;rw [q3i L f hx];exact ⟨(y9w hE L hL f h2 (note,ext,t,k+1) (by simp only;omega) 3 (st:=[y4e]) h (.inr rfl)).weak (by omega),hn⟩
 ·obtain ⟨m1,rfl,hf,hn,hl,h⟩:=h.t0 hE ht;have hx:=kw (fun t=>rfl) hf;rw [q3j L f hx];exact ⟨(y9w hE L hL f h2 (note,ext,t,k+1) (by simp only;omega) 4 (st:=[y4e]) h (.inr rfl)).weak (by omega),hn⟩
 ·obtain ⟨m1,rfl,hf,hn,hl,h⟩:=h.t0 hE ht;have hx:=kw (fun t=>rfl) hf;rw [q3k L f hx];exact ⟨(x2c hE L hL f h2 (note,ext,t,k+1) (by simp only;omega) (st:=[z0h]) h (.inr rfl)).weak (by omega),hn⟩
 ·obtain ⟨m1,rfl,hf,hn,hl,h⟩:=h.t0 hE ht;have hx:=kw (fun t=>rfl) hf;rw [q3l L f hx];exact ⟨(x8m hE L hL f h2 (note,ext,t,k+1) (by simp only;omega) (st:=[z4w]) h (.inr rfl)).weak (by omega),hn⟩
 ·obtain ⟨m1,rfl,hf,hn,hl,h⟩:=h.t0 hE ht;have hx:=kw (fun t=>rfl) hf;rw [q3m L f hx];exact ⟨(x2d hE L hL f h2 (note,ext,t,k+1) (by simp only;omega) (st:=[z0i]) h (.inr rfl)).weak (by omega),hn⟩
 ·exact h.elim
theorem q4y {n:Nat} {rest:List Txt} {k:Nat} (h:Runs toks n (nDEF::rest) k 0):Got toks n rest 0 k defN (defF toks L f k)∧ ∃t,toks[k]?=some t∧t.kind≠0:=by
 obtain ⟨m,t,rfl,ht,hA⟩:=q6m h;have hW:=hE.wf _ t ht;unfold defF y6j;rcases hA with ⟨hF,h⟩|⟨hF0,⟨hF,h⟩|⟨_,⟨hF,h⟩|⟨_,h⟩⟩⟩
 ·have hk:=y5c hF (by decide);obtain ⟨p,m1,e,em,h'⟩:=z1s hE ht h;subst em;replace h:=h';obtain ⟨t0,ht0⟩:=h.tok;obtain ⟨hg,hx,hn,_⟩:=x2e hE L hL f h2 ht0 (by omega:k≤k+1) p false h;rw [e,Option.bind_some,ht0,Option.bind_some,hx];simp only [Bool.false_eq_true,if_false];rw [ht0,Option.bind_some,hn,Option.bind_some]
  first|exact ⟨hg.weak (by omega),t,ht,hk⟩|exact ⟨hg.weak (by omega),t,rfl,hk⟩
 ·have hk:=y5c hF (by decide);obtain ⟨hg,hx,hn,_⟩:=x2e hE L hL f h2 ht (Qab k) y5j false h;rw [y5v ht (y2e hF0 (by decide+kernel)),Option.bind_some,ht,Option.bind_some,hx];simp only [Bool.false_eq_true,if_false];rw [ht,Option.bind_some,hn,Option.bind_some]
  first|exact ⟨hg.weak (by omega),t,ht,hk⟩|exact ⟨hg.weak (by omega),t,rfl,hk⟩
 ·have hk:=y5c hF (by decide);obtain ⟨m1,rfl,hf,hn,hl,h⟩:=h.t0 hE ht;obtain ⟨t1,ht1⟩:=h.tok;obtain ⟨hg,hn1⟩:=x8n hE L hL f h2 ht1 (by omega:k≤k+1) y5j true h
  have hx:isF t [101,120,116,101,110,100]=true:=by rw [z0j hW (by decide)];exact hf
  rw [y5v ht (y2e hF0 (by decide+kernel)),Option.bind_some,ht,Option.bind_some,hx];simp only [if_true];rw [ht1,Option.bind_some,hn1,Option.bind_some]
  first|exact ⟨hg.weak (by omega),t,ht,hk⟩|exact ⟨hg.weak (by omega),t,rfl,hk⟩
 ·exact h.elim
theorem q19: ∀n,
  (∀(k fu:Nat),Runs toks n [z7t,endT] k 0→toks.length<fu+k→ ∃defs,y30 toks L f fu k=some defs∧y0f defs+k≤toks.length)∧
  (∀(k fu:Nat),Runs toks n [nDEF,z7t,endT] k 0→toks.length<fu+k→ ∃defs,y30 toks L f fu k=some defs∧y0f defs+k≤toks.length):=by
 intro n
 induction n using Nat.strongRecOn with
 |_ n ih=>
  refine ⟨fun k fu h h3=>?_,fun k fu h h3=>?_⟩
  ·obtain ⟨m,t,rfl,ht,hA⟩:=q4i h;have hlt:k<toks.length:=(Qac.1 ht).1;rcases hA with ⟨hF,h⟩|⟨hF,h⟩
   ·exact (ih m (by omega)).2 k fu h h3
   ·have h:Runs toks m [endT] k 0:=by rcases h with ⟨_,h⟩|⟨_,h⟩<;>exact h
    obtain ⟨fu,rfl⟩: ∃g,fu=g+1:=⟨fu - 1,by omega⟩
    have h0:t.kind=0:=by
     unfold Runs at h
     cases m with
     |zero=>cases h
     |succ m=>
      rw [runF,ht] at h;simp only at h;rw [if_neg (by decide),if_neg (by decide)] at h
      cases hf:y1h endT t with
      |false=>rw [hf,if_pos rfl] at h;simp at h
      |true=>have:(t.kind==0)=true:=hf;simpa using this
    rw [y30,ht,Option.bind_some,if_pos h0];exact ⟨[],rfl,by simp only [y0f,sumN];omega⟩
  ·obtain ⟨⟨a,k',m,e,hr,hm,hN⟩,t,ht,hk⟩:=q4y hE L hL f h2 h;have hlt:k<toks.length:=(Qac.1 ht).1;obtain ⟨fu,rfl⟩: ∃g,fu=g+1:=⟨fu - 1,by omega⟩;have hp:0<defN a:=Nat.succ_pos _;rw [y30,ht,Option.bind_some,if_neg hk,e,Option.bind_some];obtain ⟨b,e2,hN2⟩:=(ih m hm).1 k' fu hr (by omega);rw [e2,Option.bind_some];exact ⟨_,rfl,by simp only [y0f,sumN] at hN2 ⊢;omega⟩
theorem q4z {n:Nat} (h:Runs toks n [nDOC] 0 0) (hL1:toks.length<L): ∃defs,y30 toks L f L 0=some defs∧y0f defs≤toks.length:=by
 obtain ⟨m,t,rfl,ht,hA⟩:=q6l h;rcases hA with ⟨hF,h⟩|⟨_,h⟩
 ·obtain ⟨d,e,hN⟩:=(q19 hE L hL f h2 m).2 0 L h (by omega);exact ⟨d,e,by omega⟩
 ·exact h.elim
end
end Go.Proofs.YtbpgkkoeehopjaaGreat.acr
namespace Go.Proofs.YtbpgkkoeehopjaaGreat.tot
open Go.RowKit words enc utf ln tree gram rd dat lex acr
set_option maxRecDepth 100000
structure Src (s:List Int) (N:Nat):Prop where
 at_: ∀i,i≤N→ ∃z,s[i]?=some z
 pos: ∀i z,s[i]?=some z→0≤z→i<N
theorem q2a (zs:List Int) (b:Bool):Src (y5r zs b) zs.length:=by
 have hl:zs.length+1≤(y5r zs b).length:=by unfold y5r;cases b<;>simp
 refine ⟨fun i hi=>⟨_,Qad (by omega)⟩,fun i z hz h0=>Nat.lt_of_not_le fun hi=>?_⟩;unfold y5r at hz;rw [Qat,Qba (by simpa using hi)] at hz;have hm:=Qaf hz
 cases b<;>simp at hm<;>omega
theorem z1e {c:Int} {t:Txt} (h:inF c t=true):0≤c:=by
 unfold inF at h;obtain ⟨b,_,hb⟩:=Qbh.1 h;have:=Qa6 hb;omega
theorem q40 {c:Int} {t:Txt} (h:inF c t=true) (ht:(t.all fun b=>decide (b.toNat<128))=true):c<128:=by
 unfold inF at h;obtain ⟨b,hm,hb⟩:=Qbh.1 h;have h1:=Qa6 hb;have h2:=Qa6 (Qbi.1 ht b hm);omega
theorem q2b {c:Int} (h:z5s c=true):0≤c:=by
 unfold z5s at h;rcases Bool.or_eq_true_iff.1 h with h|h
 ·exact z1e h
 ·exact z1e h
theorem x8o {c:Int} (h:z4b c=true):0≤c:=by
 unfold z4b at h;rcases Bool.or_eq_true_iff.1 h with h|h
 ·have:c=65279:=by simpa using h
  omega
 ·exact z1e h
theorem y9x {s:List Int} {i:Nat} {c:Int} (h:y3h s i c=true):s[i]?=some c∧s[i+1]?=some c∧s[i+2]?=some c:=Qa6 h
section
variable {s : List Int} {N : Nat} (hS : Src s N)
include hS
theorem z6i: ∀(f i:Nat),i≤N→N<i+f→ ∃j,z33 s f i=some j∧i≤j∧j≤N
 |0,i,h1,h2=>by omega
 |f+1,i,h1,h2=>by
  obtain ⟨z,hz⟩:=hS.at_ i h1;rw [z33,hz];dsimp only;split
  ·rename_i hr;have hi:=hS.pos i z hz (q2b hr);obtain ⟨j,e,h3,h4⟩:=z6i f (i+1) (by omega) (by omega);exact ⟨j,e,by omega,h4⟩
  ·exact ⟨i,rfl,Qab _,h1⟩
theorem x8p: ∀(f i:Nat),i≤N→N<i+f→ ∃j,comF s f i=some j∧i≤j∧j≤N
 |0,i,h1,h2=>by omega
 |f+1,i,h1,h2=>by
  obtain ⟨z,hz⟩:=hS.at_ i h1;rw [comF,hz];dsimp only;split
  ·rename_i hr;have hi:=hS.pos i z hz hr.1;obtain ⟨j,e,h3,h4⟩:=x8p f (i+1) (by omega) (by omega);exact ⟨j,e,by omega,h4⟩
  ·exact ⟨i,rfl,Qab _,h1⟩
theorem x0k: ∀(f i:Nat),i≤N→N+1<i+f→ ∃j,behF s f i=some j∧i≤j∧j≤N
 |0,i,h1,h2=>by omega
 |f+1,i,h1,h2=>by
  obtain ⟨z,hz⟩:=hS.at_ i h1;rw [behF,hz];dsimp only;split
  ·rename_i hr;have hi:=hS.pos i z hz (x8o hr);obtain ⟨j,e,h3,h4⟩:=x0k f (i+1) (by omega) (by omega);exact ⟨j,e,by omega,h4⟩
  ·split
   ·rename_i h35;have hi:=hS.pos i z hz (by omega);obtain ⟨f,rfl⟩: ∃g,f=g+1:=⟨f - 1,by omega⟩
    have e1:comF s (f+1) i=comF s f (i+1):=by rw [comF,hz];dsimp only;rw [if_pos (by omega)]
    obtain ⟨j,e,h3,h4⟩:=x8p hS f (i+1) (by omega) (by omega);rw [e1,e];dsimp only;obtain ⟨q,e2,h5,h6⟩:=x0k (f+1) j (by omega) (by omega);exact ⟨q,e2,by omega,h6⟩
   ·exact ⟨i,rfl,Qab _,h1⟩
theorem x0l (i:Nat): ∀(f j:Nat),j≤N→N<j+f→ ∃r,blkF s i f j=some r∧(r=i∨(j+3≤r∧r≤N))
 |0,j,h1,h2=>by omega
 |f+1,j,h1,h2=>by
  obtain ⟨z,hz⟩:=hS.at_ j h1;rw [blkF,hz];dsimp only;split
  ·exact ⟨i,rfl,.inl rfl⟩
  ·rename_i h0;have hj:=hS.pos j z hz (by omega);split
   ·rename_i h3;have h4:=hS.pos _ _ (y9x h3.2).2.2 (by omega);obtain ⟨r,e,h5⟩:=x0l i f (j+4) (by omega) (by omega);exact ⟨r,e,by omega⟩
   ·split
    ·rename_i h3;have h4:=hS.pos _ _ (y9x h3).2.2 (by omega);exact ⟨j+3,rfl,.inr ⟨Qab _,by omega⟩⟩
    ·obtain ⟨r,e,h5⟩:=x0l i f (j+1) (by omega) (by omega);exact ⟨r,e,by omega⟩
theorem x0m (i:Nat): ∀(f j:Nat),j≤N→N<j+f→ ∃r,quoF s i f j=some r∧(r=i∨(j+1≤r∧r≤N))
 |0,j,h1,h2=>by omega
 |f+1,j,h1,h2=>by
  obtain ⟨z,hz⟩:=hS.at_ j h1;rw [quoF,hz];dsimp only;split
  ·rename_i h0;have hj:=hS.pos j z hz h0.1;split
   ·exact ⟨j+1,rfl,.inr ⟨Qab _,by omega⟩⟩
   ·split
    ·obtain ⟨y,hy⟩:=hS.at_ (j+1) (by omega);rw [hy];dsimp only;split
     ·exact ⟨i,rfl,.inl rfl⟩
     ·rename_i h3;have h4:=hS.pos _ _ hy (by omega);obtain ⟨r,e,h5⟩:=x0m i f (j+2) (by omega) (by omega);exact ⟨r,e,by omega⟩
    ·obtain ⟨r,e,h5⟩:=x0m i f (j+1) (by omega) (by omega);exact ⟨r,e,by omega⟩
  ·exact ⟨i,rfl,.inl rfl⟩
def Good (N i:Nat) (r:Nat×Int×Txt) (P:Int→Prop):Prop:=(r.1=i∧(r.2.1=0∨r.2.1=1))∨(i<r.1∧r.1≤N∧P r.2.1)
theorem q2c (hN:s.length≤N+2) (f i:Nat) (hi:i<N) (hf:N<i+f): ∃r,x6w s f i=some r∧Good N i r fun k=>k=6∨k=7:=by
 have hlen:N<s.length:=by obtain ⟨z,hz⟩:=hS.at_ N (Qab _);exact (Qac.1 hz).1
 unfold x6w;split
 ·rename_i h3;have h4:=hS.pos _ _ (y9x h3).2.2 (by omega);obtain ⟨j,e,hj⟩:=x0l hS i f (i+3) (by omega) (by omega);rw [e];dsimp only;split
  ·exact ⟨_,rfl,.inl ⟨rfl,.inr rfl⟩⟩
  ·rw [if_pos (by omega)];split
   ·exact ⟨_,rfl,.inr ⟨by dsimp only;omega,by dsimp only;omega,.inr rfl⟩⟩
   ·exact ⟨_,rfl,.inl ⟨rfl,.inr rfl⟩⟩
 ·obtain ⟨j,e,hj⟩:=x0m hS i f (i+1) (by omega) (by omega);rw [e];dsimp only;split
  ·exact ⟨_,rfl,.inl ⟨rfl,.inr rfl⟩⟩
  ·rw [if_pos (by omega)];split
   ·exact ⟨_,rfl,.inr ⟨by dsimp only;omega,by dsimp only;omega,.inl rfl⟩⟩
   ·exact ⟨_,rfl,.inl ⟨rfl,.inr rfl⟩⟩
omit hS in
theorem z0n: ∀(l:List Int) (m k:Nat) (st:Int) (e:Nat) (f:Int) (z:Int),e≤k→l[m]?=some z→z<43→(y3x l k st e f).1≤k+m
 |[],m,k,st,e,f,z,h,hz,h2=>by simp at hz
 |c::r,0,k,st,e,f,z,h,hz,h2=>by
  simp only [List.getElem?_cons_zero,Option.some.injEq] at hz;subst hz;rw [y3x,if_pos (Int.lt_of_not_ge fun h0=>by have:=lex.step_end h0;omega)];exact h
 |c::r,m+1,k,st,e,f,z,h,hz,h2=>by
  rw [y3x];split
  ·dsimp only;omega
  ·split
   ·have:=z0n r m (k+1) (y3w st c) (k+1) (z9i (y3w st c)) z (Qab _) (by simpa using hz) h2;omega
   ·have:=z0n r m (k+1) (y3w st c) e f z (by omega) (by simpa using hz) h2;omega
theorem q41 (i:Nat) (hi:i≤N):Good N i ((numF s i).1,(numF s i).2,[]) fun k=>k=4∨k=5:=by
 obtain ⟨zN,hzN⟩:=hS.at_ N (Qab _)
 have hneg:zN<0:=Int.lt_of_not_ge fun h=>by have:=hS.pos N zN hzN h;omega
 have hb:=z0n (s.drop i) (N - i) i 0 i 0 zN (Qab _) (by rw [Qbc,show i+(N - i)=N by omega];exact hzN) (by omega);have hg:=y9e (s.drop i) i 0 i 0 (Qab _);obtain ⟨p,hp⟩: ∃p,z34 s i=p:=⟨_,rfl⟩;have hp2:y3x (s.drop i) i 0 i 0=p:=hp;rw [hp2] at hb hg;unfold numF;rw [hp];split
 ·exact .inl ⟨rfl,.inr rfl⟩
 ·split
  ·exact .inl ⟨rfl,.inr rfl⟩
  ·rename_i h;refine .inr ⟨by dsimp only;omega,by dsimp only;omega,?_⟩;dsimp only;split
   ·exact .inl rfl
   ·exact .inr rfl
def q3n (z:Int) (k:Int):Prop:=(y74 z=true∧k=3)∨((y6n z=true∨z=45)∧(k=4∨k=5))∨(z=34∧(k=6∨k=7))∨(y74 z=false∧0≤z∧z<128∧k=2)
theorem q42 (hN:s.length≤N+2) (f i:Nat) (hi:i≤N) (hf:N<i+f): ∃r z,oneF s f i=some r∧s[i]?=some z∧Good N i r (q3n z):=by
 obtain ⟨z,hz⟩:=hS.at_ i hi;unfold oneF;rw [hz];dsimp only;split
 ·exact ⟨_,z,rfl,rfl,.inl ⟨rfl,.inl rfl⟩⟩
 ·split
  ·rename_i hst;have hlt:=hS.pos i z hz (z1e hst);obtain ⟨j,e,h1,h2⟩:=z6i hS f i hi hf
   have hj:i<j:=by
    obtain ⟨g,rfl⟩: ∃g,f=g+1:=⟨f - 1,by omega⟩;rw [z33,hz] at e;dsimp only at e;rw [if_pos (by unfold z5s;unfold y74 at hst;rw [hst];rfl)] at e;obtain ⟨j',e',h3,h4⟩:=z6i hS g (i+1) (by omega) (by omega);rw [e'] at e;injection e with e;omega
   rw [e];exact ⟨_,z,rfl,rfl,.inr ⟨hj,h2,.inl ⟨hst,rfl⟩⟩⟩
  ·rename_i hst
   have hst:y74 z=false:=by cases h:y74 z with|true=>exact absurd h hst|false=>rfl
   split
   ·rename_i hd;refine ⟨_,z,rfl,rfl,?_⟩;rcases q41 hS i hi with h|⟨h1,h2,h3⟩
    ·exact .inl h
    ·exact .inr ⟨h1,h2,.inr (.inl ⟨hd,h3⟩)⟩
   ·split
    ·rename_i h34;have hlt:=hS.pos i z hz (by omega);obtain ⟨r,e,h⟩:=q2c hS hN f i hlt hf;refine ⟨r,z,e,rfl,?_⟩;rcases h with h|⟨h1,h2,h3⟩
     ·exact .inl h
     ·exact .inr ⟨h1,h2,.inr (.inr (.inl ⟨h34,h3⟩))⟩
    ·have hp: ∃j,z4d s i=some j∧i≤j∧(i<j→j≤N∧0≤z∧z<128):=by
      unfold z4d;rw [hz];dsimp only;split
      ·rename_i hm;have:=hS.pos i z hz (z1e hm);exact ⟨_,rfl,by omega,fun _=>⟨by omega,z1e hm,q40 hm (by decide)⟩⟩
      ·split
       ·rename_i h3;have:=hS.pos _ _ (y9x h3).2.2 (by omega);have h46:=(y9x h3).1;rw [hz] at h46;injection h46 with h46;exact ⟨_,rfl,by omega,fun _=>⟨by omega,by omega,by omega⟩⟩
       ·exact ⟨_,rfl,by omega,fun h=>by omega⟩
     obtain ⟨j,e,h1,h2⟩:=hp;rw [e];dsimp only;split
     ·rename_i hj;exact ⟨_,z,rfl,rfl,.inr ⟨hj,(h2 hj).1,.inr (.inr (.inr ⟨hst,(h2 hj).2.1,(h2 hj).2.2,rfl⟩))⟩⟩
     ·exact ⟨_,z,rfl,rfl,.inl ⟨rfl,.inr rfl⟩⟩
end
theorem x4z {z:Int} (h0:0≤z) (h1:z<128) (r:List Int):(encS (z::r)).data.toList=[]∨ ∃t,(encS (z::r)).data.toList=UInt8.ofNat z.toNat::t:=by
 unfold encS;split
 ·right
  have he:Lib.encodeRuneZ z=[z]:=by unfold Lib.encodeRuneZ;rw [if_pos (by omega)]
  unfold encL;rw [List.flatMap_cons,he];exact ⟨_,rfl⟩
 ·exact .inl rfl
theorem q7p {z:Int} {r:List Int} {t:TokD} (ht:t.text=(encS (z::r)).data.toList) (hk:q3n z t.kind):TokW t:=by
 have key: ∀(b:UInt8) (x:Txt),0≤z→z<128→t.text=b::x→z=(b.toNat:Int):=fun b x h0 h1 h=>by
  rcases x4z h0 h1 r with e|⟨y,e⟩
  ·rw [ht,e] at h;cases h
  ·rw [ht,e] at h;injection h with h _;rw [←h,UInt8.toNat_ofNat'];have:z.toNat % 2 ^ 8=z.toNat:=Nat.mod_eq_of_lt (by omega);omega
 rcases hk with ⟨hs,h3⟩|⟨hd,h4⟩|⟨_,h6⟩|⟨hs,hz0,hz1,h2⟩
 ·refine ⟨fun p hp he=>?_,fun w hw he=>.inl h3⟩;have hz:=key p [] (z1e hs) (q40 hs (by decide)) he
  have: ∀p∈([33,38,40,41,58,61,64,91,93,123,124,125]:Txt),y74 (p.toNat:Int)=false:=by decide+kernel
  rw [hz,this p hp] at hs;cases hs
 ·have hb:0≤z∧z<128:=by
   rcases hd with hd|hd
   ·exact ⟨z1e hd,q40 hd (by decide)⟩
   ·omega
  refine ⟨fun p hp he=>?_,fun w hw he=>?_⟩
  ·have hz:=key p [] hb.1 hb.2 he
   have: ∀p∈([33,38,40,41,58,61,64,91,93,123,124,125]:Txt),y6n (p.toNat:Int)=false∧p≠45:=by decide+kernel
   obtain ⟨q1,q2⟩:=this p hp;rcases hd with hd|hd
   ·rw [hz,q1] at hd;cases hd
   ·exact absurd (Qb2.1 (show p.toNat=(45:UInt8).toNat by have:(45:UInt8).toNat=45:=rfl;omega)) q2
  ·have: ∀w∈([[101,120,116,101,110,100],[105,109,112,108,101,109,101,110,116,115],[114,101,112,101,97,116,97,98,108,101],[111,110]]:List Txt),∃b x,w=b::x∧y6n (b.toNat:Int)=false∧b.toNat≠45:=by
    intro w hw;simp only [Qbd,List.mem_nil_iff,or_false] at hw;rcases hw with rfl|rfl|rfl|rfl
    all_goals exact ⟨_,_,rfl,by decide+kernel,by decide⟩
   obtain ⟨b,x,e,q1,q2⟩:=this w hw;have hz:=key b x hb.1 hb.2 (he.trans e);rcases hd with hd|hd
   ·rw [hz,q1] at hd;cases hd
   ·omega
 ·exact ⟨fun p hp he=>.inr h6,fun w hw he=>.inr h6⟩
 ·refine ⟨fun p hp he=>.inl h2,fun w hw he=>?_⟩
  have: ∀w∈([[101,120,116,101,110,100],[105,109,112,108,101,109,101,110,116,115],[114,101,112,101,97,116,97,98,108,101],[111,110]]:List Txt),∃b x,w=b::x∧y74 (b.toNat:Int)=true:=by
   intro w hw;simp only [Qbd,List.mem_nil_iff,or_false] at hw;rcases hw with rfl|rfl|rfl|rfl
   all_goals exact ⟨_,_,rfl,by decide+kernel⟩
  obtain ⟨b,x,e,q1⟩:=this w hw;have hz:=key b x hz0 hz1 (he.trans e);rw [hz,q1] at hs;cases hs
theorem x8q {zs s:List Int} (hS:Src s zs.length) (hN:s.length≤zs.length+2) (f i:Nat) (hi:i≤zs.length) (hf:zs.length+1<i+f):
  ∃t too,z05 zs s f i=some t∧t.stop=((too:Nat):Int)∧TokW t∧(((t.kind=0∨t.kind=1))∨(i<too∧too≤zs.length∧ ¬(t.kind=0∨t.kind=1))):=by
 obtain ⟨a,e,h1,h2⟩:=x0k hS f i hi hf;obtain ⟨r,z,e2,hz,h3⟩:=q42 hS hN f a h2 (by omega)
 have hlen:zs.length<s.length:=by obtain ⟨z,hz⟩:=hS.at_ zs.length (Qab _);exact (Qac.1 hz).1
 have hr1:a≤r.1∧r.1≤s.length∧a≤zs.length:=by rcases h3 with h|h<;>omega
 unfold z05;rw [e];dsimp only;rw [e2];dsimp only;rw [if_pos hr1];refine ⟨_,r.1,rfl,rfl,?_,?_⟩
 ·rcases h3 with ⟨q1,q2⟩|⟨q1,q2,q3⟩
  ·have hsub:(s.drop a).take (r.1 - a)=[]:=by rw [q1,Nat.sub_self];rfl
   rw [hsub];have hE:(encS []).data.toList=[]:=rfl;refine ⟨fun p hp he=>?_,fun w hw he=>?_⟩
   ·exact absurd (hE.symm.trans he) (by simp)
   ·have e0:=hE.symm.trans he;subst e0;exact absurd hw (by decide)
  ·have hsub: ∃rr,(s.drop a).take (r.1 - a)=z::rr:=by
    obtain ⟨ha,hza⟩:=Qac.1 hz;rw [Qa1 ha,hza,show r.1 - a=(r.1 - a - 1)+1 by omega,List.take_succ_cons];exact ⟨_,rfl⟩
   obtain ⟨rr,hrr⟩:=hsub;rw [hrr];exact q7p (r:=rr) rfl q3
 ·rcases h3 with ⟨q1,q2⟩|⟨q1,q2,q3⟩
  ·exact .inl q2
  ·refine .inr ⟨by omega,q2,?_⟩;dsimp only
   rcases q3 with ⟨_,h⟩|⟨_,h⟩|⟨_,h⟩|⟨_,_,_,h⟩<;>omega
theorem x2f {zs s:List Int} (hS:Src s zs.length) (hN:s.length≤zs.length+2) (hz:zs.length≤3000000) (fB:Nat) (hf:zs.length+1<fB): ∀(fu i:Nat),i≤zs.length→zs.length<i+fu→
  ∃l:List TokD,z56 zs s fB fu i=some l∧l≠[]∧l.length+i≤zs.length+1∧(∀(k:Nat) (t:TokD),l[k]?=some t→((t.kind=0∨t.kind=1)↔k+1=l.length))∧ ∀(k:Nat) (t:TokD),l[k]?=some t→TokW t
 |0,i,h1,h2=>by omega
 |fu+1,i,h1,h2=>by
  obtain ⟨t,too,e,e2,hW,h3⟩:=x8q hS hN fB i h1 (by omega);rw [z56,e];dsimp only;by_cases hk:t.kind=0∨t.kind=1
  ·rw [if_pos hk];refine ⟨[t],rfl,by simp,by simp;omega,fun k t' ht=>?_,fun k t' ht=>?_⟩
   ·cases k with
    |zero=>simp only [List.getElem?_cons_zero,Option.some.injEq] at ht;subst ht;simp [hk]
    |succ k=>simp at ht
   ·cases k with
    |zero=>simp only [List.getElem?_cons_zero,Option.some.injEq] at ht;subst ht;exact hW
    |succ k=>simp at ht
  ·obtain ⟨q1,q2,q3⟩:i<too∧too≤zs.length∧ ¬(t.kind=0∨t.kind=1):=by rcases h3 with h|h;exact absurd h hk;exact h
   rw [if_neg hk,if_neg (by omega),e2,Int.toNat_natCast];obtain ⟨l,e3,g1,g2,g3,g4⟩:=x2f hS hN hz fB hf fu too q2 (by omega);rw [e3];dsimp only;have hl:0<l.length:=Qbt.2 g1;refine ⟨t::l,rfl,by simp,by simp;omega,fun k t' ht=>?_,fun k t' ht=>?_⟩
   ·cases k with
    |zero=>
     simp only [List.getElem?_cons_zero,Option.some.injEq] at ht;subst ht;simp only [List.length_cons];exact ⟨fun h=>absurd h hk,fun h=>by omega⟩
    |succ k=>
     have:=g3 k t' (by simpa using ht);simp only [List.length_cons];rw [this];omega
   ·cases k with
    |zero=>simp only [List.getElem?_cons_zero,Option.some.injEq] at ht;subst ht;exact hW
    |succ k=>exact g4 k t' (by simpa using ht)
theorem x40 (src:Txt) (h:src.length≤2200000): ∃toks,y4r src=some toks∧TokA toks∧1≤toks.length∧toks.length≤src.length+1:=by
 have h1:=x1c src;have h2:=x6f src;unfold y4r;obtain ⟨l,e,g1,g2,g3,g4⟩:=x2f (q2a (decF src).1 (decide ((decF src).2=src.length))) (by unfold y5r;split<;>simp) (by omega) (src.length+3) (by omega) (src.length+3) 0 (by omega) (by omega);exact ⟨l,e,⟨⟨g3⟩,g4⟩,Qbt.2 g1,by omega⟩
end Go.Proofs.YtbpgkkoeehopjaaGreat.tot
namespace Go.Proofs.YtbpgkkoeehopjaaGreat.hp
open Go.RowKit words enc tree gram lex rd dec dat held acr tot
set_option maxRecDepth 100000
set_option maxHeartbeats 40000000
attribute [local go_sem ↓] Go.wp_at_zero Go.wp_at_succ
section
variable {w0 w K : World} {M : List Ent}
theorem q2d {A:Option Addr} {n c:Nat} {src:List UInt8} (H:Hp w0 w K M) (hr:Rd K K.heap.size A (Lib.byteCells src)) (hn:src.length=n) (hnc:n≤c) (hcm:c≤maxLen) (h63:n≤2200000)
  {toks:List TokD} (ht:y4r src=some toks) (hnl:toks.length≤3000000) {nf bf fr:Nat} (hfr:fr≤1000000000) {e p1 p2:Int} (hrun:runF rulesG nf bf toks 200 fr [[68,79,67]] 0 0=some (e,p1,p2)) (he:e≠0):
  Calls Tryz.prog 55 #[.slice A n c,.int .i64 200] w fun en w'=>∃K' g,en= .returned (.tuple #[.slice none 0 0,.agg #[.int .i64 e,.slice (some ⟨g,0,none⟩) 1 1,.slice none 0 0]])∧Sat K' K∧Hp w0 w' K' M:=by
 have HRUN:=hide hrun;have HT:=hide ht;have hgram:=fun w=>z20 w;rw [x1t] at hgram
 have hb0:((e:Int) !=0)=true:=by rw [Qa8];exact he
 clear hrun ht he;go_enter Tryz.func55,Tryz.ntmps55
 go_upto_region 5 with (first|(refine oA 5 H ?_;clear H;intro w gz H)|(refine oL H ?_)|(refine oP H ?_;clear H;intro w _ H))
 go_wp2_with fail
 refine (z4m x1s A n c w.heap.size src w (Rd.sat hr (Qab _) H.sat) (Qab _) hn hnc hcm h63 toks HT.out).mono ?_;rintro en w1 ⟨vt,rfl,hrt,hb1⟩;obtain ⟨At,ct,ust,rfl,hnt,hct,_,_⟩:=y0m hrt;obtain ⟨K1,hle1,H1,hdt⟩:=H.fresh1 hb1 hrt;clear H hrt hb1
 go_wp2_with fail
 refine (hgram w1).mono ?_;rintro en w2 ⟨vg,rfl,hrg,hb2⟩;obtain ⟨Ag,cg,usg,rfl,_,_,_,_⟩:=y0m hrg;have H2:=H1.below hb2;clear H1 hb2
 go_wp2_with fail
 refine (z7m w2.heap.size linesG Ag 52 cg w2 hrg (Qab _) x1v (by decide)).mono ?_;rintro en w3 ⟨vr,rfl,hrr,hb3⟩;rw [x1u,show linesG.length=rulesG.length from rfl] at hrr;obtain ⟨Ar,cr,usr,rfl,_,_,_,_⟩:=y0m hrr;have H3:=H2.below hb3;clear H2 hb3 hrg;have hcall:=x61 w3.heap.size rulesG Ar At rulesG.length cr toks.length ct [68,79,67] toks 200 nf bf fr (e,p1,p2) w3 hrr (RD.lo hdt H3) (Qab _) (by omega) (by omega) hfr HRUN.out;clear hrr
 go_wp2_with fail
 refine hcall.mono ?_;rintro en w4 ⟨rfl,hb4⟩;have H:=H3.below hb4;clear hcall H3 hb4 hgram HRUN HT;obtain ⟨nt,hnt2⟩: ∃x,toks.length=x:=⟨_,rfl⟩;rw [hnt2] at hnl ⊢;clear hdt hnt2 hnt hct
 go_upto_region 8 with (first|(refine oL H ?_)|(refine oP H ?_;clear H;intro w _ H))
 refine rB [5] H ?_;clear H;intro w H;refine rT 0 H ?_;refine rT 1 H ?_;refine rT 4 H ?_;refine rW 2 H ?_;clear H;intro w g2 H;refine rT 3 H ?_;refine rL 5 H ?_;clear H;intro w _ H;refine rE ?_
 go_wp2_with (first|(refine oL H ?_)|(refine oP H ?_;clear H;intro w _ H))
 refine oB3 H ?_;exact ⟨K1,_,rfl,hle1,H.fin⟩
theorem q43 (H:Hp w0 w K M) {src:Txt} (hlen:src.length≤2200000) {toks:List TokD} (ht:y4r src=some toks) (hnl:toks.length≤3000000) {nf bf fr:Nat} (hfr:fr≤1000000000) {e p1 p2:Int} (hrun:runF rulesG nf bf toks 200 fr [[68,79,67]] 0 0=some (e,p1,p2)) (he:e≠0):
  Calls Tryz.prog 13 #[.string (str src)] w fun en w'=>∃K',en= .returned (.slice none 0 0)∧Sat K' K∧Hp w0 w' K' M:=by
 obtain ⟨cb,w1,hrunc,hb1,hc1,hc2,hrd,hs1⟩:=z4t (P:=Tryz.prog) w 9 86 5 src Tryz.underlying9 Tryz.underlying86 Tryz.underlying5 (by simp only [maxLen];omega);obtain ⟨K1,hle1,H1,hk,-⟩:=H.fresh hb1
 have hr1:Rd K1 K1.heap.size (some ⟨w.heap.size,0,none⟩) (Lib.byteCells src):=fun hn=>by
  obtain ⟨ad,e,hb,hc⟩:=hrd hn;injection e with e;subst e;have h0:=hk w.heap.size (Qab _)
  have hlt:w.heap.size<w1.heap.size:=by omega
  refine ⟨_,rfl,?_,fun j u hu=>?_⟩
  ·rw [Qbq hlt] at h0;exact (Qan.1 h0).1
  ·have:=hc j u hu
   have e1:(⟨w.heap.size,0,none⟩:Addr).add j=⟨w.heap.size,j,none⟩:=by unfold Addr.add;by_cases h:j=0<;>simp [h]
   rw [e1] at this ⊢;exact (World.cell?_of_block h0).trans this
 have hcall:=q2d H1 hr1 rfl hc1 hc2 hlen ht hnl hfr hrun he
 have hb0:((e:Int) !=0)=true:=by rw [Qa8];exact he
 clear ht hrun hk hr1 hrd H H1 he;go_enter Tryz.func13,Tryz.ntmps13
 go_wp2_with (first|(refine hcall.mono ?_;rintro en w ⟨K2,g,rfl,hle2,H⟩)|(refine oL H ?_)|(refine oP H ?_;clear H;intro w _ H))
 go_ret;exact ⟨K2,rfl,hle2.trans hle1,H.fin⟩
end
def z1k (src:Txt):List DefD:=match y4r src with
 |none=>[]
 |some toks=>if runF rulesG nfG bfG toks 200 800000000 [nDOC] 0 0=some (0,0,0) then (y30 toks 3000000 300 3000000 0).getD [] else []
theorem z3j (R:List RuleD) (nf bf:Nat) (toks:List TokD) (depth:Int): ∀(f:Nat) (st:List Txt) (k:Nat) (op:Int) (r:Int×Int×Int),runF R nf bf toks depth f st k op=some r→r=(0,0,0)∨r.1≠0
 |0,_,_,_,r,h=>by cases h
 |f+1,[],k,op,r,h=>by injection h with h;exact .inl h.symm
 |f+1,s::st,k,op,r,h=>by
  rw [runF] at h;split at h
  ·cases h
  ·split at h
   ·cases h
   ·split at h
    ·split at h
     ·cases h
     ·split at h
      ·cases h
      ·exact z3j R nf bf toks depth f _ _ _ r h
     ·injection h with h;subst h;exact .inr (by simp)
    ·split at h
     ·injection h with h;subst h;exact .inr (by simp)
     ·split at h
      ·injection h with h;subst h;exact .inr (by simp)
      ·exact z3j R nf bf toks depth f _ _ _ r h
theorem z0o (src:Txt) (hlen:src.length≤2200000): ∃toks,y4r src=some toks∧TokA toks∧toks.length≤src.length+1∧
  ((runF rulesG nfG bfG toks 200 800000000 [nDOC] 0 0=some (0,0,0)∧y30 toks 3000000 300 3000000 0=some (z1k src)∧y0f (z1k src)≤toks.length)∨
   (∃e p1 p2,e≠0∧runF rulesG nfG bfG toks 200 800000000 [nDOC] 0 0=some (e,p1,p2)∧z1k src=[])):=by
 obtain ⟨toks,e,hA,h1,h2⟩:=x40 src hlen;have hphi:phi toks [nDOC] 0≤[nDOC].length+200*(toks.length - 0):=x1z (by intro s hs;obtain rfl:=Qax.1 hs;decide+kernel) (by omega);have hl1:[nDOC].length=1:=rfl;rw [hl1] at hphi;obtain ⟨r,hr⟩:=y9t toks 200 hA.toTokE 800000000 [nDOC] 0 0 (by omega) (by intro s hs;obtain rfl:=Qax.1 hs;decide+kernel) (by omega) (by omega);refine ⟨toks,e,hA,h2,?_⟩
 have hdef:z1k src=if runF rulesG nfG bfG toks 200 800000000 [nDOC] 0 0=some (0,0,0) then (y30 toks 3000000 300 3000000 0).getD [] else []:=by unfold z1k;rw [e]
 rcases z3j _ _ _ _ _ _ _ _ _ r hr with rfl|h0
 ·left;obtain ⟨defs,hd,hN⟩:=q4z hA 3000000 (by omega) 300 (by omega) hr (by omega);rw [if_pos hr,hd,Option.getD_some] at hdef;rw [hdef];exact ⟨hr,hd,hN⟩
 ·right;obtain ⟨e0,p1,p2⟩:=r;refine ⟨e0,p1,p2,h0,hr,?_⟩;rw [hdef,if_neg (fun h=>by rw [hr] at h;injection h with h;injection h with h _;exact h0 h)]
section
variable {w0 w K : World} {M : List Ent}
theorem q2e (H:Hp w0 w K M) (src:Txt) (hlen:src.length≤2200000):
  Calls Tryz.prog 13 #[.string (str src)] w fun e w'=>∃K' A' c',e= .returned (.slice A' (z1k src).length c')∧Sat K' K∧Hp w0 w' K' M∧RD K' (.list (z1k src).length (y0q (z1k src))) (.slice A' (z1k src).length c'):=by
 obtain ⟨toks,e,hA,h2,⟨hr,hd,hN⟩|⟨e0,p1,p2,h0,hr,hd⟩⟩:=z0o src hlen
 ·exact x7l H ⟨hlen,toks,nfG,bfG,800000000,3000000,300,e,by omega,by omega,hr,by omega,hd⟩ rfl
 ·refine (q43 H hlen e (by omega) (by omega) hr h0).mono ?_;rintro en w' ⟨K',rfl,hs,H⟩;rw [hd];exact ⟨K',none,0,rfl,hs,H,.nil (Qab _)⟩
theorem q6t (src:Txt) (hlen:src.length≤2200000):y0f (z1k src)≤src.length+1:=by
 obtain ⟨toks,e,hA,h2,⟨hr,hd,hN⟩|⟨e0,p1,p2,h0,hr,hd⟩⟩:=z0o src hlen
 ·omega
 ·rw [hd];exact Qak _
end
end Go.Proofs.YtbpgkkoeehopjaaGreat.hp
namespace Go.Proofs.YtbpgkkoeehopjaaGreat.hp
open Go.RowKit
theorem z43:((Tryz.prog.info? 43).bind (·.zero)).map (·.cells)=some #[.int .i64 0,.bool false,.bool false,.bool false,.string ⟨#[]⟩,.string ⟨#[]⟩,.slice none 0 0,.slice none 0 0,.slice none 0 0,.slice none 0 0,.slice none 0 0,.slice none 0 0,.slice none 0 0,.bool false,.slice none 0 0,.int .i64 0,.int .i64 0]:=by kernel_rfl
theorem z50:((Tryz.prog.info? 50).bind (·.zero)).map (·.cells)=some #[.string ⟨#[]⟩,.string ⟨#[]⟩]:=by kernel_rfl
theorem z52:((Tryz.prog.info? 52).bind (·.zero)).map (·.cells)=some #[.bool false,.bool false,.string ⟨#[]⟩,.string ⟨#[]⟩,.slice none 0 0,.string ⟨#[]⟩,.string ⟨#[]⟩,.slice none 0 0,.int .i64 0,.int .i64 0]:=by kernel_rfl
theorem z100:((Tryz.prog.info? 100).bind (·.zero)).map (·.cells)=some #[.int .i64 0,.string ⟨#[]⟩,.int .i64 0,.int .i64 0]:=by kernel_rfl
theorem z113:((Tryz.prog.info? 113).bind (·.zero)).map (·.cells)=some #[.string ⟨#[]⟩,.int .i64 0,.int .i64 0]:=by kernel_rfl
theorem z121:((Tryz.prog.info? 121).bind (·.zero)).map (·.cells)=some #[.int .i64 0,.string ⟨#[]⟩,.bool false,.slice none 0 0,.slice none 0 0,.int .i64 0,.int .i64 0]:=by kernel_rfl
theorem z123:((Tryz.prog.info? 123).bind (·.zero)).map (·.cells)=some #[.bool false,.bool false,.string ⟨#[]⟩,.string ⟨#[]⟩,.string ⟨#[]⟩,.string ⟨#[]⟩,.bool false,.int .i64 0,.string ⟨#[]⟩,.bool false,.slice none 0 0,.slice none 0 0,.int .i64 0,.int .i64 0,.slice none 0 0,.int .i64 0,.int .i64 0]:=by kernel_rfl
theorem e22:SlI Tryz.prog 22 43 17 272:=sli Tryz.underlying22 (z:=.agg #[.int .i64 0,.bool false,.bool false,.bool false,.string ⟨#[]⟩,.string ⟨#[]⟩,.slice none 0 0,.slice none 0 0,.slice none 0 0,.slice none 0 0,.slice none 0 0,.slice none 0 0,.slice none 0 0,.bool false,.slice none 0 0,.int .i64 0,.int .i64 0]) (by kernel_rfl)
theorem e34:SlI Tryz.prog 34 113 3 32:=sli Tryz.underlying34 (z:=.agg #[.string ⟨#[]⟩,.int .i64 0,.int .i64 0]) (by kernel_rfl)
theorem e35:SlI Tryz.prog 35 181 4 56:=sli Tryz.underlying35 (z:=.agg #[.string ⟨#[]⟩,.slice none 0 0,.int .i64 0,.int .i64 0]) (by kernel_rfl)
theorem e36:SlI Tryz.prog 36 52 10 136:=sli Tryz.underlying36 (z:=.agg #[.bool false,.bool false,.string ⟨#[]⟩,.string ⟨#[]⟩,.slice none 0 0,.string ⟨#[]⟩,.string ⟨#[]⟩,.slice none 0 0,.int .i64 0,.int .i64 0]) (by kernel_rfl)
theorem e37:SlI Tryz.prog 37 123 17 216:=sli Tryz.underlying37 (z:=.agg #[.bool false,.bool false,.string ⟨#[]⟩,.string ⟨#[]⟩,.string ⟨#[]⟩,.string ⟨#[]⟩,.bool false,.int .i64 0,.string ⟨#[]⟩,.bool false,.slice none 0 0,.slice none 0 0,.int .i64 0,.int .i64 0,.slice none 0 0,.int .i64 0,.int .i64 0]) (by kernel_rfl)
theorem e38:SlI Tryz.prog 38 133 7 80:=sli Tryz.underlying38 (z:=.agg #[.bool false,.bool false,.string ⟨#[]⟩,.string ⟨#[]⟩,.slice none 0 0,.int .i64 0,.int .i64 0]) (by kernel_rfl)
theorem e39:SlI Tryz.prog 39 100 4 40:=sli Tryz.underlying39 (z:=.agg #[.int .i64 0,.string ⟨#[]⟩,.int .i64 0,.int .i64 0]) (by kernel_rfl)
theorem tk {P:Program} {ops:Array Oper} {Q:Exit→Act→World→Prop} {md:Region.Mode} {S:World→Prop} {F:List Nat} (i:Nat) {oi:Oper} {v:Value} {fuel:Nat} {listed:Array Bool} {a a':Act} {w:World} (hS:S w) (h:held.AnyL P md ops Q S F fuel (listed.setIfInBounds i true) a' w) (hi:ops[i]?=some oi:=by (simp only [List.getElem?_toArray,List.getElem?_cons_zero,List.getElem?_cons_succ];try rfl))
  (hd: ∀w,S w→(execOp a.eval oi).run P w= .ok (.value v) w:=by (intro w hSw;(try dsimp only at hSw);go_simp;try with_reducible rfl))
  (ha:a.put oi.dst v=a':=by (simp only [Act.put,List.getElem_toArray,List.getElem_cons_zero,List.getElem_cons_succ,List.setIfInBounds_toArray,List.set_cons_zero,List.set_cons_succ];try rfl))
  (hw:Region.wanted oi (yielded ops a.tmps)=true:=by rfl) (hs:Region.noSelect ops=true:=by kernel_rfl) (hf:Region.free md ops listed i=true:=by kernel_rfl) (hr:(Region.ready md ops listed).contains i=true:=by kernel_rfl) (hF:held.waits md ops F i=true:=by kernel_rfl) (hc:held.closed md ops listed=true:=by kernel_rfl)
  (hQ: ∀c a w,Q (.panic c) (a.put oi.dst v) w→Q (.panic c) a w:=by exact fun _ _ _ h=>h):held.AnyL P md ops Q S F (fuel+1) listed a w:=
 held.take hi hs hf hr hF hc hQ (.inl ⟨hw,hd⟩) hS (ha▸h)
open words enc tree gram lex rd dec dat held
set_option maxRecDepth 100000
attribute [local go_sem ↓] Go.wp_at_zero Go.wp_at_succ
theorem y4y {K:World} {l:List Txt} {x:Txt} {vs:List Value} (h:RL K (y0t l) vs):RL K (y0t (l++[x])) (vs++[.string (str x)]):=by
 unfold y0t at h ⊢;rw [Qas];exact h.app (.lit (.nil (Qab _)))
end Go.Proofs.YtbpgkkoeehopjaaGreat.hp
namespace Go.Proofs.YtbpgkkoeehopjaaGreat.hp
open Go.RowKit words enc tree gram lex rd dec dat held
section
variable {P : Program} {w0 w K K' : World} {M N : List Ent} {ops : Array Oper} {Q : Exit → Act → World → Prop} {F : List Nat} {fuel : Nat} {listed : Array Bool} {a a' : Act} {oi : Oper} {v : Value} {S : World → Prop}
def AtL (P:Program) (ops:Array Oper) (Q:Exit→Act→World→Prop) (S:World→Prop) (F:List Nat) (fuel:Nat) (listed:Array Bool) (i:Nat) (a:Act) (w:World):Prop:=
 wpOp P ops Q i (fun a' w'=>(i∉F→S w')∧AnyL P .any ops Q S F fuel (listed.setIfInBounds i true) a' w') a w
theorem r2 (i j:Nat) (h1:AtL P ops Q S F fuel listed i a w) (h2:AtL P ops Q S F fuel listed j a w) (hr:Region.ready .any ops listed=[i,j]:=by kernel_rfl):AnyL P .any ops Q S F (fuel+1) listed a w:=
 ⟨fun h0=>(by rw [hr] at h0;cases h0),fun k hk=>by
   rw [hr] at hk;simp only [Qbd,List.mem_nil_iff,or_false] at hk;rcases hk with rfl|rfl
   ·exact h1
   ·exact h2⟩
theorem x8r {i:Nat} (ho:ops[i]?=some oi)
  (h: ∀K':Act→World→Prop,Shut (∀a w,(i∉F→S w)→((i∉F→S w)→AnyL P .any ops Q S F fuel (listed.setIfInBounds i true) a w)→K' a w)→if Region.wanted oi (yielded ops a.tmps)=true then Oper.wp P oi a w K' Q else K' (a.put oi.dst undef) w):AtL P ops Q S F fuel listed i a w:=
 wpOp_step ho (fun K' hK=>h K' (fun a w hS hW=>hK a w ⟨hS,hW hS⟩))
theorem aW {i:Nat} (H:Hp w0 w K' N) {v:Nat→Value} {N':Nat→List Ent} {a':Nat→Act} (h: ∀w' g,Hp w0 w' K' (N' g)→AnyL P .any ops Q (Ov w0 K M) F fuel (listed.setIfInBounds i true) (a' g) w') (hi:ops[i]?=some oi:=by (simp only [List.getElem?_toArray,List.getElem?_cons_zero,List.getElem?_cons_succ];try rfl))
  (hd:Does P oi a w0 w K' N v N':=by first|exact ds1|exact dsA|exact da|exact dbA|exact db1|exact dbA1|exact db11|exact dbS|fail)
  (ha: ∀g,a.put oi.dst (v g)=a' g:=by (intro g;simp only [Act.put,List.getElem_toArray,List.getElem_cons_zero,List.getElem_cons_succ,List.setIfInBounds_toArray,List.set_cons_zero,List.set_cons_succ];try rfl))
  (hgd:oi.guard=none:=by rfl) (hle:Sat K' K:=by first|exact Sat.refl _|assumption|fail) (hsf: ∀g,Inc M (N' g):=by (intro g;first|((repeat (first|exact n0|exact nN|apply nD))<;>fail)|((repeat (first|exact n0|exact nN|refine nS (by ((repeat (first|exact u0|apply uS))<;>fail)) ?_|apply nD))<;>fail)|fail)):AtL P ops Q (Ov w0 K M) F fuel listed i a w:=
 x8r hi fun Kq hKq=>by
  rw [if_pos (z2q hgd)];exact hd _ _ H fun w' g H'=>hKq.out _ _ (fun _=>⟨K',_,hle,H',hsf g⟩) (fun _=>by rw [ha g];exact h w' g H')
theorem aC {i:Nat} {f:FuncId} {xs:Array Value} {R:Ending→World→Prop} (hC:Calls P f xs w R) (h: ∀e w',R e w'→ ∃v a',e= .returned v∧a.put oi.dst v=a'∧Ov w0 K M w'∧AnyL P .any ops Q (Ov w0 K M) F fuel (listed.setIfInBounds i true) a' w')
  (hi:ops[i]?=some oi:=by (simp only [List.getElem?_toArray,List.getElem?_cons_zero,List.getElem?_cons_succ];try rfl)) (hrun:(execOp a.eval oi).run P w= .ok (.enter f xs) w:=by (go_simp;try with_reducible rfl)) (hw:Region.wanted oi (yielded ops a.tmps)=true:=by rfl):AtL P ops Q (Ov w0 K M) F fuel listed i a w:=
 x8r hi fun Kq hKq=>by
  rw [if_pos hw];unfold Oper.wp;rw [hrun,Oper.upon_enter];refine hC.mono fun e w' hR=>?_;obtain ⟨v,a',rfl,ha,hS,hW⟩:=h e w' hR;exact hKq.out _ _ (fun _=>hS) (fun _=>by rw [ha];exact hW)
end
set_option maxRecDepth 100000
set_option maxHeartbeats 40000000
attribute [local go_sem ↓] Go.wp_at_zero Go.wp_at_succ
theorem y6i (s t:ByteArray) (w0 w K:World) (M:List Ent) (H:Hp w0 w K M):
  Calls Tryz.prog 104 #[.string s,.string t] w fun e w'=>e= .returned (.agg #[.string s,.string t])∧Hp w0 w' K M:=by
 go_enter Tryz.func104,Tryz.ntmps104
 go_wp2_with (first|(refine oL H ?_)|(refine oP H ?_;clear H;intro w _ H))
 refine oB H ?_;exact ⟨rfl,H.fin⟩
theorem q2f (s t u:ByteArray) (w0 w K:World) (M:List Ent) (H:Hp w0 w K M):
  Calls Tryz.prog 101 #[.string s,.string t,.string u] w fun e w'=>e= .returned (.agg #[.bool false,.bool false,.string ⟨#[]⟩,.string s,.slice none 0 0,.string t,.string u,.slice none 0 0,.int .i64 0,.int .i64 0])∧Hp w0 w' K M:=by
 go_enter Tryz.func101,Tryz.ntmps101
 go_wp2_with (first|(refine oL H ?_)|(refine oP H ?_;clear H;intro w _ H)|((with_reducible refine (y6i t u _ _ _ _ H).mono ?_);clear H;rintro e w ⟨rfl,H⟩))
 refine oB H ?_;exact ⟨rfl,H.fin⟩
theorem x8s (s:ByteArray) (A:Option Addr) (n c:Nat) (w0 w K:World) (M:List Ent) (H:Hp w0 w K M):
  Calls Tryz.prog 100 #[.string s,.slice A n c] w fun e w'=>e= .returned (.agg #[.int .i64 3,.bool false,.bool false,.bool false,.string ⟨#[]⟩,.string s,.slice none 0 0,.slice none 0 0,.slice A n c,.slice none 0 0,.slice none 0 0,.slice none 0 0,.slice none 0 0,.bool false,.slice none 0 0,.int .i64 0,.int .i64 0])∧Hp w0 w' K M:=by
 go_enter Tryz.func100,Tryz.ntmps100
 go_wp2_with (first|(refine oL H ?_)|(refine oP H ?_;clear H;intro w _ H))
 refine oB H ?_;exact ⟨rfl,H.fin⟩
def q3o:Txt:=[102,97,108,115,101]
def y7p:Txt:=[66,111,111,108,101,97,110]
def incT:Txt:=[105,110,99,108,117,100,101,68,101,112,114,101,99,97,116,101,100]
def incD:InputD:=⟨y5j,incT,(y7p,[]),true,.mk 5 q3o false [] [] 0 0,[],0,0⟩
def AllP (s t:ByteArray) (w0 K:World) (M:List Ent) (e:Ending) (w':World):Prop:=
 ∃K' A,e= .returned (.agg #[.bool false,.bool false,.string ⟨#[]⟩,.string s,.slice (some A) 1 1,.string t,.string ⟨#[33,93]⟩,.slice none 0 0,.int .i64 0,.int .i64 0])∧Sat K' K∧Hp w0 w' K' M∧RD K' (.list 1 (y0l [incD])) (.slice (some A) 1 1)
theorem RL.z {K:World}:RL K [] []:=.nil (Qab _)
theorem RD.z {K:World}:RD K (.list 0 []) (.slice Option.none 0 0):=.nil (Qab _)
theorem q3p (s t:ByteArray) (w0 w K:World) (M:List Ent) (H:Hp w0 w K M):
  Calls Tryz.prog 102 #[.string s,.string t] w (AllP s t w0 K M):=by
 go_enter Tryz.func102,Tryz.ntmps102
 go_upto_region 2 with (first|(refine oL H ?_)|(refine oA 4 H ?_;clear H;intro w g4 H)|(refine oA 5 H ?_;clear H;intro w g5 H)|(refine oP H ?_;clear H;intro w _ H))
 refine rB [4] H ?_;clear H;intro w H;refine rT 1 H ?_;refine r2 0 3 ?_ ?_
 ·refine aC (y6i ⟨#[66,111,111,108,101,97,110]⟩ ⟨#[]⟩ _ _ _ _ H) ?_;clear H;rintro e w ⟨rfl,H⟩;refine rX H ?_;refine rT 2 H ?_;refine rW 3 H ?_;clear H;intro w g6 H;refine rL 4 H ?_;clear H;intro w _ H;refine rE ?_
  go_wp2_with fail
  refine rB [6] H ?_;clear H;intro w H;refine rT 0 H ?_;refine rT 1 H ?_;refine rT 3 H ?_;refine r2 2 4 ?_ ?_
  ·refine aW H ?_;clear H;intro w gs H;refine rC 4 (y6i t ⟨#[33,93]⟩ _ _ _ _ H) ?_;clear H;rintro e w ⟨rfl,H⟩;refine rX H ?_;refine rT 5 H ?_;refine rL 6 H ?_;clear H;intro w _ H;refine rE ?_
   go_wp2_with fail
   refine oB H ?_;replace H:Hp _ _ _ (.box gs _ _::M):=H.fin;obtain ⟨K1,h1,H,hd⟩:=H.freezeBox (n:=1) (ls:=y0l [incD]) (by unfold incD;exact .lit (.lit (.lit (.lit (.lit (.lit (.lit (.lit (.lit (.lit (.cons RD.z (.cons RD.z (.lit (.lit (.cons RD.z (.lit (.lit RL.z))))))))))))))))) (by simp [maxLen]);exact ⟨K1,_,rfl,h1,H,hd⟩
  ·refine aC (y6i t ⟨#[33,93]⟩ _ _ _ _ H) ?_;clear H;rintro e w ⟨rfl,H⟩;refine rX H ?_;refine rW 2 H ?_;clear H;intro w gs H;refine rT 5 H ?_;refine rL 6 H ?_;clear H;intro w _ H;refine rE ?_
   go_wp2_with fail
   refine oB H ?_;replace H:Hp _ _ _ (.box gs _ _::M):=H.fin;obtain ⟨K1,h1,H,hd⟩:=H.freezeBox (n:=1) (ls:=y0l [incD]) (by unfold incD;exact .lit (.lit (.lit (.lit (.lit (.lit (.lit (.lit (.lit (.lit (.cons RD.z (.cons RD.z (.lit (.lit (.cons RD.z (.lit (.lit RL.z))))))))))))))))) (by simp [maxLen]);exact ⟨K1,_,rfl,h1,H,hd⟩
 ·refine aW H ?_;clear H;intro w g6 H;refine rC 0 (y6i ⟨#[66,111,111,108,101,97,110]⟩ ⟨#[]⟩ _ _ _ _ H) ?_;clear H;rintro e w ⟨rfl,H⟩;refine rX H ?_;refine rT 2 H ?_;refine rL 4 H ?_;clear H;intro w _ H;refine rE ?_
  go_wp2_with fail
  refine rB [6] H ?_;clear H;intro w H;refine rT 0 H ?_;refine rT 1 H ?_;refine rT 3 H ?_;refine r2 2 4 ?_ ?_
  ·refine aW H ?_;clear H;intro w gs H;refine rC 4 (y6i t ⟨#[33,93]⟩ _ _ _ _ H) ?_;clear H;rintro e w ⟨rfl,H⟩;refine rX H ?_;refine rT 5 H ?_;refine rL 6 H ?_;clear H;intro w _ H;refine rE ?_
   go_wp2_with fail
   refine oB H ?_;replace H:Hp _ _ _ (.box gs _ _::M):=H.fin;obtain ⟨K1,h1,H,hd⟩:=H.freezeBox (n:=1) (ls:=y0l [incD]) (by unfold incD;exact .lit (.lit (.lit (.lit (.lit (.lit (.lit (.lit (.lit (.lit (.cons RD.z (.cons RD.z (.lit (.lit (.cons RD.z (.lit (.lit RL.z))))))))))))))))) (by simp [maxLen]);exact ⟨K1,_,rfl,h1,H,hd⟩
  ·refine aC (y6i t ⟨#[33,93]⟩ _ _ _ _ H) ?_;clear H;rintro e w ⟨rfl,H⟩;refine rX H ?_;refine rW 2 H ?_;clear H;intro w gs H;refine rT 5 H ?_;refine rL 6 H ?_;clear H;intro w _ H;refine rE ?_
   go_wp2_with fail
   refine oB H ?_;replace H:Hp _ _ _ (.box gs _ _::M):=H.fin;obtain ⟨K1,h1,H,hd⟩:=H.freezeBox (n:=1) (ls:=y0l [incD]) (by unfold incD;exact .lit (.lit (.lit (.lit (.lit (.lit (.lit (.lit (.lit (.lit (.cons RD.z (.cons RD.z (.lit (.lit (.cons RD.z (.lit (.lit RL.z))))))))))))))))) (by simp [maxLen]);exact ⟨K1,_,rfl,h1,H,hd⟩
end Go.Proofs.YtbpgkkoeehopjaaGreat.hp
namespace Go.Proofs.YtbpgkkoeehopjaaGreat.hp
open Go.RowKit words enc tree gram lex rd dec dat held
set_option maxRecDepth 100000
attribute [local go_sem ↓] Go.wp_at_zero Go.wp_at_succ
theorem y1s (l:List Txt):y0t l=l.flatMap fun x=>[str' x]:=by
 induction l with
 |nil=>rfl
 |cons x r ih=>rw [List.flatMap_cons,←ih];rfl
theorem z3k {w0 w K:World} {M:List Ent} {l:List Txt} {n c k:Nat} {A:Option Addr} {x:Txt} (H:Hp w0 w K M) (hd:RD K (.list n (y0t l)) (.slice A n c)) (hk:l[k]?=some x): ∃ad,A=some ad∧w.cell? (ad.add k)=some (.string (str x)):=by
 rw [y1s] at hd;obtain ⟨ad,vs,h1,h2,_,h4⟩:=y6z (m:=1) (f:=fun x=>[str' x]) (fun _=>rfl) H hd hk (by omega);obtain ⟨r,rfl,_⟩:=h2.lit_inv;exact ⟨ad,h1,by simpa using h4.1 _ rfl⟩
def valD (x:Txt):ValueD:=⟨y5j,x,[],0,0⟩
def plD (x:Txt):NamedD:=⟨x,0,0⟩
theorem x8t {K:World} {l:List Txt} {x:Txt} {vs:List Value} (h:RL K (y08 (l.map valD)) vs):RL K (y08 ((l++[x]).map valD)) (vs++[.bool false,.bool false,.string ⟨#[]⟩,.string (str x),.slice none 0 0,.int .i64 0,.int .i64 0]):=by
 rw [Qas,y2y];exact h.app (by simp only [List.map_cons,List.map_nil,y08,List.flatMap_cons,List.flatMap_nil,List.append_nil];exact .lit (.lit (.lit (.lit (.cons RD.z (.lit (.lit RL.z)))))))
theorem q2g {K:World} {l:List Txt} {x:Txt} {vs:List Value} (h:RL K (y0o (l.map plD)) vs):RL K (y0o ((l++[x]).map plD)) (vs++[.string (str x),.int .i64 0,.int .i64 0]):=by
 rw [Qas,y2z];exact h.app (by simp only [List.map_cons,List.map_nil,y0o,List.flatMap_cons,List.flatMap_nil,List.append_nil];exact .lit (.lit (.lit RL.z)))
def q7q (s:ByteArray) (l:List Txt) (w0 K:World) (M:List Ent) (e:Ending) (w':World):Prop:=
 ∃K' A c,e= .returned (.agg #[.int .i64 6,.bool false,.bool false,.bool false,.string ⟨#[]⟩,.string s,.slice none 0 0,.slice none 0 0,.slice none 0 0,.slice none 0 0,.slice none 0 0,.slice A l.length c,.slice none 0 0,.bool false,.slice none 0 0,.int .i64 0,.int .i64 0])∧Sat K' K∧Hp w0 w' K' M∧RD K' (.list l.length (y08 (l.map valD))) (.slice A l.length c)
set_option maxHeartbeats 4000000 in
theorem x8u (s:ByteArray) (l:List Txt) (n c:Nat) (A:Option Addr) (w0 w K:World) (M:List Ent) (H:Hp w0 w K M) (hl:l.length=n) (hn:n≤1000000) (hd:RD K (.list n (y0t l)) (.slice A n c)):
  Calls Tryz.prog 103 #[.string s,.slice A n c] w (q7q s l w0 K M):=by
 obtain ⟨k0,hk0,k0z,k0s,k0b⟩:=info_parts z4r;have HL:=hide hl;clear hl;go_enter Tryz.func103,Tryz.ntmps103
 go_upto_region 3 with (first
  |((with_reducible refine isL ?_);first
   |(refine al z43 4 H ?_;clear H;intro w1 g4 H)
   |(refine al z43 5 H ?_;clear H;intro w3 g5 H)
   |(refine sA 5 0 H ?_;clear H;intro w5 H)))
 go_wp2_with fail
 go_loopw [12] (fun i wr=>∃(k:Nat) (V:Value) (vs:List Value),k≤n∧i= .int .i64 k∧Hp w0 wr K (.row 133 7 V k vs:: .box g5 [.int .i64 6,.bool false,.bool false,.bool false,.string ⟨#[]⟩,.string s,.slice none 0 0,.slice none 0 0,.slice none 0 0,.slice none 0 0,.slice none 0 0,V,.slice none 0 0,.bool false,.slice none 0 0,.int .i64 0,.int .i64 0] 43:: .box g4 [.int .i64 0,.bool false,.bool false,.bool false,.string ⟨#[]⟩,.string ⟨#[]⟩,.slice none 0 0,.slice none 0 0,.slice none 0 0,.slice none 0 0,.slice none 0 0,.slice none 0 0,.slice none 0 0,.bool false,.slice none 0 0,.int .i64 0,.int .i64 0] 43::M)∧RL K (y08 ((l.take k).map valD)) vs) (fun i _=>n - (intOf i).toNat)
 case atStart=>exact ⟨0,_,[],Qak _,rfl,H.nilRow 133 7,RL.z⟩
 case round=>
  clear H;obtain ⟨k,V,vs,hk,rfl,H,hvs⟩:=hrel;obtain ⟨Av,cv,rfl,_,_⟩:=H.slice (i:=0) rfl;by_cases hlt:k<n
  ·have hkI:(k:Int)<(n:Int):=by omega
   obtain ⟨x,hx⟩: ∃x,l[k]?=some x:=⟨_,Qad (by rw [HL.out];exact hlt)⟩;have HE:=hide (y0k hx);obtain ⟨ad,rfl,hc⟩:=z3k H hd hx;clear hx
   go_upto_region 5 with (fail)
   have:=H.c 1 11
   go_upto_region 6 with (first
    |(refine y2k (by rfl) 38 133 1 _ (by rfl) (some 20) (by rfl) Tryz.underlying38 [.bool false,.bool false,.string ⟨#[]⟩,.string (str x),.slice none 0 0,.int .i64 0,.int .i64 0] (by kernel_rfl) H ?_;clear H;intro w6 g20 H;have:=H.c 2 11)
    |(at_builtin;refine y4v (by rfl) _ _ 38 (by rfl) 133 k0 _ 7 80 Tryz.underlying38 hk0 k0z k0s k0b (by rfl) (by decide) H 1 (.slice Av k cv) (k) (vs) (by rfl) (by first|rfl|simp [Act.eval,Act.put]) (some ⟨g20,0,none⟩) 1 1 [.bool false,.bool false,.string ⟨#[]⟩,.string (str x),.slice none 0 0,.int .i64 0,.int .i64 0] (by first|rfl|simp [Act.eval,Act.put]) (by rfl) (H.rd (i:=0) rfl) (by simp [Value.oneCell']) (by simp only [maxLen];omega) (by omega) ?_;clear H;intro V2 w2 H;replace H:Hp w0 w2 K (.box g20 [.bool false,.bool false,.string ⟨#[]⟩,.string (str x),.slice none 0 0,.int .i64 0,.int .i64 0] 133:: .row 133 7 (V2) (k+1) (vs++[.bool false,.bool false,.string ⟨#[]⟩,.string (str x),.slice none 0 0,.int .i64 0,.int .i64 0]):: .box g5 [.int .i64 6,.bool false,.bool false,.bool false,.string ⟨#[]⟩,.string s,.slice none 0 0,.slice none 0 0,.slice none 0 0,.slice none 0 0,.slice none 0 0,.slice Av k cv,.slice none 0 0,.bool false,.slice none 0 0,.int .i64 0,.int .i64 0] 43:: .box g4 [.int .i64 0,.bool false,.bool false,.bool false,.string ⟨#[]⟩,.string ⟨#[]⟩,.slice none 0 0,.slice none 0 0,.slice none 0 0,.slice none 0 0,.slice none 0 0,.slice none 0 0,.slice none 0 0,.bool false,.slice none 0 0,.int .i64 0,.int .i64 0] 43::M):=H;obtain ⟨V2A,V2c,rfl,V2l,V2m⟩:=H.slice (i:=1) rfl;have:=H.c 2 11)
    |((with_reducible refine isL ?_);first
     |(refine s1 22 2 (.slice V2A (k+1) V2c) H ?_;clear H;intro w7 H;have:=H.c 2 11)))
   replace H:=H.sub (Qai _ (Qaa _ (Qaa _ (Qaa _ (Qam _)))))
   go_wp2_with fail
   go_roundw
   case rel=>exact ⟨k+1,_,_,by omega,by go_num,H,by rw [HE.out];exact x8t hvs⟩
   case measure=>simp [intOf];omega
  ·obtain rfl:n=k:=by omega
   have htk:l.take n=l:=by rw [←HL.out];exact List.take_length
   rw [htk] at hvs;clear htk
   go_upto_region 7 with (fail)
   go_wp2_with (first
    |((with_reducible refine isL ?_);first
     |(refine ld 5 1 17 Tryz.underlying43 H ?_)
     |(refine sA 4 2 H ?_;clear H;intro w8 H)))
   refine bodyPost_ret (v:=.agg #[.int .i64 6,.bool false,.bool false,.bool false,.string ⟨#[]⟩,.string s,.slice none 0 0,.slice none 0 0,.slice none 0 0,.slice none 0 0,.slice none 0 0,.slice Av n cv,.slice none 0 0,.bool false,.slice none 0 0,.int .i64 0,.int .i64 0]) (results_cell_row rfl _ _ g4 43 _ (0,0) _ (by rfl) (H.blkAt (i:=2) rfl) Tryz.underlying43 rfl (by kernel_rfl)) rfl ?_;replace H:=H.sub (Qaa _ (Qai _ (Qai _ (Qam _))));obtain ⟨K',hle,H,hv⟩:=H.freezeRow hvs;have hl':=HL.out;exact ⟨K',Av,cv,by rw [hl'],hle,H,by rw [hl'];exact hv⟩
def DirP (s:ByteArray) (arg:InputD) (l:List Txt) (w0 K:World) (M:List Ent) (e:Ending) (w':World):Prop:=
 ∃K' g A c,e= .returned (.agg #[.int .i64 8,.bool false,.bool false,.bool false,.string ⟨#[]⟩,.string s,.slice none 0 0,.slice none 0 0,.slice none 0 0,.slice (some ⟨g,0,none⟩) 1 1,.slice none 0 0,.slice none 0 0,.slice none 0 0,.bool false,.slice A l.length c,.int .i64 0,.int .i64 0])∧Sat K' K∧Hp w0 w' K' M∧RD K' (.list l.length (y0o (l.map plD))) (.slice A l.length c)∧RD K' (.list 1 (y0l [arg])) (.slice (some ⟨g,0,none⟩) 1 1)
set_option maxHeartbeats 4000000 in
theorem y16 (s:ByteArray) (arg:InputD) (a0 a1 a2 a3 a4 a5 a6 a7 a8 a9 a10 a11 a12 a13 a14 a15 a16:Value) (l:List Txt) (n c:Nat) (A:Option Addr) (w0 w K:World) (M:List Ent) (H:Hp w0 w K M) (hl:l.length=n) (hn:n≤1000000) (hd:RD K (.list n (y0t l)) (.slice A n c)) (ha:RL K (y49 arg) [a0,a1,a2,a3,a4,a5,a6,a7,a8,a9,a10,a11,a12,a13,a14,a15,a16]):
  Calls Tryz.prog 105 #[.string s,.agg #[a0,a1,a2,a3,a4,a5,a6,a7,a8,a9,a10,a11,a12,a13,a14,a15,a16],.slice A n c] w (DirP s arg l w0 K M):=by
 obtain ⟨k0,hk0,k0z,k0s,k0b⟩:=info_parts Go.Proofs.YtbpgkkoeehopjaaGreat.dat.named_info;have HL:=hide hl;clear hl;have hone:=ha.one;go_enter Tryz.func105,Tryz.ntmps105;have hK:=Sat.refl K
 go_upto_region 3 with (first
  |(refine z08 (by rfl) 123 (.tmp 1) (by rfl) [a0,a1,a2,a3,a4,a5,a6,a7,a8,a9,a10,a11,a12,a13,a14,a15,a16] _ (by rfl) (by rfl) (some 4) (by rfl) H ?_;clear H;intro w9 g4 H hg10;clear hg10)
  |(refine y2k (by rfl) 37 123 1 _ (by rfl) (some 12) (by rfl) Tryz.underlying37 [a0,a1,a2,a3,a4,a5,a6,a7,a8,a9,a10,a11,a12,a13,a14,a15,a16] (by kernel_rfl) H ?_;clear H;intro w13 g12 H;obtain ⟨K2,hle14,H,hin⟩:=H.freezeBox (n:=1) (ls:=y0l [arg]) ((by simpa [y0l] using ha)) (by simp only [maxLen];omega);replace hd:=hd.sat hle14;replace ha:=ha.sat hle14;replace hK:=hle14.trans hK)
  |((with_reducible refine isL ?_);first
   |(refine al z43 6 H ?_;clear H;intro w11 g6 H)
   |(refine ld 4 1 17 Tryz.underlying123 H ?_)
   |(refine al z43 7 H ?_;clear H;intro w15 g7 H)
   |(refine sA 7 0 H ?_;clear H;intro w17 H)))
 go_wp2_with fail
 go_loopw [16] (fun i wr=>∃(k:Nat) (V:Value) (vs:List Value),k≤n∧i= .int .i64 k∧Hp w0 wr K2 (.row 113 3 V k vs:: .box g7 [.int .i64 8,.bool false,.bool false,.bool false,.string ⟨#[]⟩,.string s,.slice none 0 0,.slice none 0 0,.slice none 0 0,.slice (some ⟨g12,0,none⟩) 1 1,.slice none 0 0,.slice none 0 0,.slice none 0 0,.bool false,V,.int .i64 0,.int .i64 0] 43:: .box g6 [.int .i64 0,.bool false,.bool false,.bool false,.string ⟨#[]⟩,.string ⟨#[]⟩,.slice none 0 0,.slice none 0 0,.slice none 0 0,.slice none 0 0,.slice none 0 0,.slice none 0 0,.slice none 0 0,.bool false,.slice none 0 0,.int .i64 0,.int .i64 0] 43::M)∧RL K2 (y0o ((l.take k).map plD)) vs) (fun i _=>n - (intOf i).toNat)
 case atStart=>exact ⟨0,_,[],Qak _,rfl,(H.sub (Qaa _ (Qaa _ (Qai _ (Qam _))))).nilRow 113 3,RL.z⟩
 case round=>
  clear H;obtain ⟨k,V,vs,hk,rfl,H,hvs⟩:=hrel;obtain ⟨Av,cv,rfl,_,_⟩:=H.slice (i:=0) rfl;by_cases hlt:k<n
  ·have hkI:(k:Int)<(n:Int):=by omega
   obtain ⟨x,hx⟩: ∃x,l[k]?=some x:=⟨_,Qad (by rw [HL.out];exact hlt)⟩;have HE:=hide (y0k hx);obtain ⟨ad,rfl,hc⟩:=z3k H hd hx;clear hx
   go_upto_region 5 with (fail)
   have:=H.c 1 14
   go_upto_region 6 with (first
    |(refine y2k (by rfl) 34 113 1 _ (by rfl) (some 24) (by rfl) Tryz.underlying34 [.string (str x),.int .i64 0,.int .i64 0] (by kernel_rfl) H ?_;clear H;intro w18 g24 H;have:=H.c 2 14)
    |(at_builtin;refine y4v (by rfl) _ _ 34 (by rfl) 113 k0 _ 3 32 Tryz.underlying34 hk0 k0z k0s k0b (by rfl) (by decide) H 1 (.slice Av k cv) (k) (vs) (by rfl) (by first|rfl|simp [Act.eval,Act.put]) (some ⟨g24,0,none⟩) 1 1 [.string (str x),.int .i64 0,.int .i64 0] (by first|rfl|simp [Act.eval,Act.put]) (by rfl) (H.rd (i:=0) rfl) (by simp [Value.oneCell']) (by simp only [maxLen];omega) (by omega) ?_;clear H;intro V2 w2 H;replace H:Hp w0 w2 K2 (.box g24 [.string (str x),.int .i64 0,.int .i64 0] 113:: .row 113 3 (V2) (k+1) (vs++[.string (str x),.int .i64 0,.int .i64 0]):: .box g7 [.int .i64 8,.bool false,.bool false,.bool false,.string ⟨#[]⟩,.string s,.slice none 0 0,.slice none 0 0,.slice none 0 0,.slice (some ⟨g12,0,none⟩) 1 1,.slice none 0 0,.slice none 0 0,.slice none 0 0,.bool false,.slice Av k cv,.int .i64 0,.int .i64 0] 43:: .box g6 [.int .i64 0,.bool false,.bool false,.bool false,.string ⟨#[]⟩,.string ⟨#[]⟩,.slice none 0 0,.slice none 0 0,.slice none 0 0,.slice none 0 0,.slice none 0 0,.slice none 0 0,.slice none 0 0,.bool false,.slice none 0 0,.int .i64 0,.int .i64 0] 43::M):=H;obtain ⟨V2A,V2c,rfl,V2l,V2m⟩:=H.slice (i:=1) rfl;have:=H.c 2 14)
    |((with_reducible refine isL ?_);first
     |(refine s1 26 2 (.slice V2A (k+1) V2c) H ?_;clear H;intro w19 H;have:=H.c 2 14)))
   replace H:=H.sub (Qai _ (Qaa _ (Qaa _ (Qaa _ (Qam _)))))
   go_wp2_with fail
   go_roundw
   case rel=>exact ⟨k+1,_,_,by omega,by go_num,H,by rw [HE.out];exact q2g hvs⟩
   case measure=>simp [intOf];omega
  ·obtain rfl:n=k:=by omega
   have htk:l.take n=l:=by rw [←HL.out];exact List.take_length
   rw [htk] at hvs;clear htk
   go_upto_region 7 with (fail)
   go_wp2_with (first
    |((with_reducible refine isL ?_);first
     |(refine ld 7 1 17 Tryz.underlying43 H ?_)
     |(refine sA 6 2 H ?_;clear H;intro w20 H)))
   refine bodyPost_ret (v:=.agg #[.int .i64 8,.bool false,.bool false,.bool false,.string ⟨#[]⟩,.string s,.slice none 0 0,.slice none 0 0,.slice none 0 0,.slice (some ⟨g12,0,none⟩) 1 1,.slice none 0 0,.slice none 0 0,.slice none 0 0,.bool false,.slice Av n cv,.int .i64 0,.int .i64 0]) (results_cell_row rfl _ _ g6 43 _ (0,0) _ (by rfl) (H.blkAt (i:=2) rfl) Tryz.underlying43 rfl (by kernel_rfl)) rfl ?_;replace H:=H.sub (Qaa _ (Qai _ (Qai _ (Qam _))));obtain ⟨K',hle,H,hv⟩:=H.freezeRow hvs;have hl':=HL.out;exact ⟨K',g12,Av,cv,by rw [hl'],hle.trans hK,H,by rw [hl'];exact hv,hin.sat hle⟩
end Go.Proofs.YtbpgkkoeehopjaaGreat.hp
