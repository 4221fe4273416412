/- Part 16 of a proof: see the text that holds the statement. -/
import Derived.Test.YtbpgkkoeehopjaaGreatP4
import Derived.Test.YtbpgkkoeehopjaaGreatP8
import Derived.Test.YtbpgkkoeehopjaaGreatP9
import Derived.Test.YtbpgkkoeehopjaaGreatP14
import Derived.Test.YtbpgkkoeehopjaaGreatP15
set_option linter.unusedVariables false
set_option linter.unusedSimpArgs false
namespace Go.Proofs.YtbpgkkoeehopjaaGreat.acr
open tree gram rd dat lex
set_option maxRecDepth 100000
section
variable {toks : List TokD}
theorem q7l (hE:TokA toks) (L:Nat) (hL:toks.length≤L) {n:Nat} {rest:List Txt} {k k0:Nat} {op:Int} {f:Nat} {p:NoteD} (hn0:y6b toks k0=some (p,k)) (hk0:k0≤k) (h:Runs toks n (y9u::rest) k op) (h0:0≤op) (h1:op≤200) (h2:200<op+f):
  Got toks n rest op k0 y31 (y2y toks L f k0):=by
 obtain ⟨m,t,rfl,ht,hA⟩:=q1r h;rcases hA with ⟨hF,h⟩|⟨_,h⟩
 ·obtain ⟨m1,rfl,hf,hn,hl,h⟩:=h.t0 hE ht;obtain ⟨a,k1,m2,e1,hr,hm1,hN1⟩:=z4s hE L hL h h0 h1 h2;obtain ⟨t2,ht2⟩:=hr.tok;have hW2:=hE.wf _ t2 ht2;obtain ⟨m3,rfl,hf2,hn2,hl2,h⟩:=hr.t0 hE ht2;obtain ⟨r,k',m4,e,hr,hm,hN,hlen⟩:=q2x hE _ _ (k1+1) op f h h0 h1 h2;obtain ⟨b,k3,m7,e3,hr3,hm3,hN3⟩:=y2t hE L hL hr h1 h2 (by omega);unfold y2y;rw [hn0,Option.bind_some,ht,Option.bind_some,hn,e1,Option.bind_some,ht2,Option.bind_some,if_pos (by rw [y0z hW2 (by decide)];exact hf2),e,Option.bind_some,e3,Option.bind_some];exact ⟨_,_,m7,rfl,hr3,by omega,by simp only [y31];omega⟩
 ·exact h.elim
theorem q20 (hE:TokA toks) (L:Nat) (hL:toks.length≤L) {n:Nat} {rest:List Txt} {k:Nat} {op:Int} {f:Nat} (h:Runs toks n (z2d::rest) k op) (h0:0≤op) (h1:op≤200) (h2:200<op+f):
  Got toks n rest op k y31 (y2y toks L f k):=by
 obtain ⟨m,t,rfl,ht,hA⟩:=x4w h;rcases hA with ⟨hF,h⟩|⟨hF,⟨hF2,h⟩|⟨_,h⟩⟩
 ·obtain ⟨p,m1,e,em,h'⟩:=z00 hE ht h;subst em;obtain ⟨a,k2,m6,e2,hr2,hm2,hN2⟩:=q7l hE L hL e (by omega) h' h0 h1 h2;exact ⟨a,k2,m6,e2,hr2,by omega,hN2⟩
 ·obtain ⟨a,k2,m6,e2,hr2,hm2,hN2⟩:=q7l hE L hL (y4t ht (y2l hF (by decide+kernel))) (Qab _) h h0 h1 h2;exact ⟨a,k2,m6,e2,hr2,by omega,hN2⟩
 ·exact h.elim
theorem q7m (hE:TokA toks) (L:Nat) (hL:toks.length≤L) {n:Nat} {rest:List Txt} {k k0:Nat} {op:Int} {f:Nat} {p:NoteD} (hn0:y6b toks k0=some (p,k)) (hk0:k0≤k) (h:Runs toks n (z4o::rest) k op) (h1:op≤200) (h2:200<op+f):
  Got toks n rest op k0 y4o (y3q toks L f k0):=by
 obtain ⟨m,t,rfl,ht,hA⟩:=q5s h;rcases hA with ⟨hF,h⟩|⟨_,h⟩
 ·obtain ⟨m1,rfl,hf,hn,hl,h⟩:=h.t0 hE ht;obtain ⟨b,k3,m7,e3,hr3,hm3,hN3⟩:=y2t hE L hL h h1 h2 (by omega);unfold y3q;rw [hn0,Option.bind_some,ht,Option.bind_some,hn,e3,Option.bind_some];exact ⟨_,_,m7,rfl,hr3,by omega,by simp only [y4o];omega⟩
 ·exact h.elim
theorem q21 (hE:TokA toks) (L:Nat) (hL:toks.length≤L) {n:Nat} {rest:List Txt} {k:Nat} {op:Int} {f:Nat} (h:Runs toks n (x0k::rest) k op) (h1:op≤200) (h2:200<op+f):
  Got toks n rest op k y4o (y3q toks L f k):=by
 obtain ⟨m,t,rfl,ht,hA⟩:=q11 h;rcases hA with ⟨hF,h⟩|⟨hF,⟨hF2,h⟩|⟨_,h⟩⟩
 ·obtain ⟨p,m1,e,em,h'⟩:=z00 hE ht h;subst em;obtain ⟨a,k2,m6,e2,hr2,hm2,hN2⟩:=q7m hE L hL e (by omega) h' h1 h2;exact ⟨a,k2,m6,e2,hr2,by omega,hN2⟩
 ·obtain ⟨a,k2,m6,e2,hr2,hm2,hN2⟩:=q7m hE L hL (y4t ht (y2l hF (by decide+kernel))) (Qab _) h h1 h2;exact ⟨a,k2,m6,e2,hr2,by omega,hN2⟩
 ·exact h.elim
theorem q6j (hE:TokA toks) {n:Nat} {rest:List Txt} {k:Nat} {op:Int} (h:Runs toks n (x0j::rest) k op):Got toks n rest op k (fun _=>1) (y6y toks k):=by
 obtain ⟨m,t,rfl,ht,hA⟩:=q1l h;rcases hA with ⟨hF,h⟩|⟨_,h⟩
 ·obtain ⟨m1,rfl,hf,hn,hl,h⟩:=h.t0 hE ht;obtain ⟨t1,ht1⟩:=h.tok;have hW1:=hE.wf _ t1 ht1;obtain ⟨m2,rfl,hf1,hn1,hl1,h⟩:=h.t0 hE ht1;obtain ⟨t2,ht2⟩:=h.tok;obtain ⟨m3,rfl,hf2,hn2,hl2,h⟩:=h.t0 hE ht2
  have hs:y0n tSTR t=false:=by
   have:((t.kind==3)&&y21 t.text y4j)=true:=hf;simp only [Qao,Qa7] at this
   show ((t.kind==6)||(t.kind==7))=false
   rw [this.1];rfl
  unfold y6y;rw [y4t ht hs,Option.bind_some,ht,Option.bind_some];simp only;rw [hn,ht1,Option.bind_some,if_pos (by rw [y0z hW1 (by decide)];exact hf1),ht2,Option.bind_some,hn2];exact ⟨_,_,m3,rfl,h,by omega,by show 1+k≤_;omega⟩
 ·exact h.elim
theorem q22 {α:Type} (hE:TokA toks) (L:Nat) (hL:toks.length≤L) (item list:Txt) (e:Nat→Option (α×Nat)) (N:α→Nat) (hN: ∀a,0<N a) (op:Int) (hop:op≤199)
  (hitem: ∀(n:Nat) (rest:List Txt) (k:Nat),Runs toks n (item::rest) k (op+1)→Got toks n rest (op+1) k N (e k))
  (hno: ∀(n:Nat) (rest:List Txt) (k:Nat) (op:Int) (t:TokD),Runs toks n (item::rest) k op→toks[k]?=some t→isF t [125]=false)
  (hin: ∀(n:Nat) (rest:List Txt) (k:Nat) (op:Int),Runs toks n (list::rest) k op→ ∃m t,n=m+1∧toks[k]?=some t∧(Runs toks m (item::list::rest) k op∨Runs toks m rest k op)): ∀n,
  (∀(rest:List Txt) (k fu:Nat),Runs toks n (list::[125]::rest) k (op+1)→toks.length<fu+k→Got toks n rest op k (fun l=>sumN N l+1) (y2p toks e fu k))∧
  (∀(rest:List Txt) (k fu:Nat),Runs toks n (item::list::[125]::rest) k (op+1)→toks.length<fu+k→Got toks n rest op k (fun l=>sumN N l+1) (y2p toks e fu k)):=by
 intro n
 induction n using Nat.strongRecOn with
 |_ n ih=>
  refine ⟨fun rest k fu h h3=>?_,fun rest k fu h h3=>?_⟩
  ·obtain ⟨m,t,rfl,ht,hA⟩:=hin _ _ _ _ h;have hlt:k<toks.length:=(Qac.1 ht).1;have hW:=hE.wf k t ht;rcases hA with h|h
   ·obtain ⟨a,k',m1,e',hr,hm,hN⟩:=(ih m (by omega)).2 rest k fu h h3;exact ⟨a,k',m1,e',hr,by omega,hN⟩
   ·obtain ⟨fu,rfl⟩: ∃g,fu=g+1:=⟨fu - 1,by omega⟩;rw [y2p,ht,Option.bind_some];obtain ⟨m',rfl,hf,hn,hl,h⟩:=h.tclose hE ht;rw [if_pos (by rw [y0z hW (by decide)];exact hf)];rw [Int.add_sub_cancel] at h;exact ⟨_,_,m',rfl,h,by omega,by simp [sumN];omega⟩
  ·obtain ⟨t,ht⟩:=h.tok;have hlt:k<toks.length:=(Qac.1 ht).1;obtain ⟨fu,rfl⟩: ∃g,fu=g+1:=⟨fu - 1,by omega⟩;rw [y2p,ht,Option.bind_some,if_neg (by rw [hno _ _ _ _ _ h ht];decide)];obtain ⟨a,k',m3,e1,hr,hm,hN1⟩:=hitem _ _ _ h;rw [e1,Option.bind_some];have hp:=hN a;obtain ⟨b,k2,m4,e2,hr2,hm2,hN2⟩:=(ih m3 (by omega)).1 rest k' fu hr (by omega);rw [e2,Option.bind_some];exact ⟨_,_,m4,rfl,hr2,by omega,by simp only [sumN] at hN2 ⊢;omega⟩
theorem z1y {α:Type} (hE:TokA toks) (L:Nat) (hL:toks.length≤L) (item list:Txt) (e:Nat→Option (α×Nat)) (N:α→Nat) (hN: ∀a,0<N a) (op:Int)
  (hitem:op≤199→ ∀(n:Nat) (rest:List Txt) (k:Nat),Runs toks n (item::rest) k (op+1)→Got toks n rest (op+1) k N (e k))
  (hno: ∀(n:Nat) (rest:List Txt) (k:Nat) (op:Int) (t:TokD),Runs toks n (item::rest) k op→toks[k]?=some t→isF t [125]=false)
  (hin: ∀(n:Nat) (rest:List Txt) (k:Nat) (op:Int),Runs toks n (list::rest) k op→ ∃m t,n=m+1∧toks[k]?=some t∧(Runs toks m (item::list::rest) k op∨Runs toks m rest k op))
  {n:Nat} {rest:List Txt} {k:Nat} (h:Runs toks n ([123]::item::list::[125]::rest) k op):Got toks n rest op k (fun l=>sumN N l) (y15 toks e L k):=by
 obtain ⟨t,ht⟩:=h.tok;have hlt:k<toks.length:=(Qac.1 ht).1;have hW:=hE.wf k t ht;obtain ⟨m1,rfl,hf,hn,hl,hop,h⟩:=h.topen hE ht;unfold y15;rw [ht,Option.bind_some,if_pos (by rw [y0z hW (by decide)];exact hf)];obtain ⟨a,k',m2,e1,hr,hm,hN1⟩:=(q22 hE L hL item list e N hN op (by omega) (hitem (by omega)) hno hin m1).2 rest (k+1) L h (by omega);exact ⟨a,k',m2,e1,hr,by omega,by simp only at hN1 ⊢;omega⟩
theorem z79 {α:Type} (hE:TokA toks) (e:Nat→Option (α×Nat)) (L:Nat) {k:Nat} {t:TokD} (ht:toks[k]?=some t) (hf:y0n [123] t=false):y15 toks e L k=some ([],k):=by
 unfold y15;rw [ht,Option.bind_some,if_neg (by rw [y0z (hE.wf k t ht) (by decide),hf];decide)]
theorem z01 (hE:TokA toks) {k:Nat} {t:TokD} {F:List Txt} (ht:toks[k]?=some t) (hF:fits F t=true) (hn:F.contains [125]=false):isF t [125]=false:=y8b (hE.wf k t ht) (by decide) hF hn
theorem z4u (hE:TokA toks) (L:Nat) (hL:toks.length≤L) {n:Nat} {rest:List Txt} {k:Nat} {op:Int} {f:Nat} (h:Runs toks n (y7c::rest) k op) (h0:0≤op) (h2:200<op+f):Got toks n rest op k (sumN y31) (y15 toks (y2y toks L f) L k):=by
 obtain ⟨m,t,rfl,ht,hA⟩:=x7p h;rcases hA with ⟨hF,h⟩|⟨_,h⟩
 ·obtain ⟨a,k',m1,e,hr,hm,hN⟩:=z1y hE L hL z2d y9t (y2y toks L f) y31 y5b op (fun ho n rest k h=>q20 hE L hL h (by omega) (by omega) (by omega))
   (fun n rest k op t h ht=>by
     obtain ⟨m,t',_,ht',hA⟩:=x4w h
     rw [ht] at ht';injection ht' with ht';subst ht'
     rcases hA with ⟨hF,_⟩|⟨_,⟨hF,_⟩|⟨_,h⟩⟩
     ·exact z01 hE ht hF (by decide+kernel)
     ·exact z01 hE ht hF (by decide+kernel)
     ·exact h.elim)
   (fun n rest k op h=>by
     obtain ⟨m,t,rfl,ht,hA⟩:=q1p h;rcases hA with ⟨_,h⟩|⟨_,⟨_,h⟩|⟨_,h⟩⟩
     ·exact ⟨m,t,rfl,ht,.inl h⟩
     ·exact ⟨m,t,rfl,ht,.inr h⟩
     ·exact ⟨m,t,rfl,ht,.inr h⟩) h
  exact ⟨a,k',m1,e,hr,by omega,hN⟩
 ·exact h.elim
theorem z1z (hE:TokA toks) (L:Nat) (hL:toks.length≤L) {n:Nat} {rest:List Txt} {k:Nat} {op:Int} {f:Nat} (h:Runs toks n (y3t::rest) k op) (h0:0≤op) (h2:200<op+f):Got toks n rest op k (sumN y31) (y15 toks (y2y toks L f) L k):=by
 obtain ⟨m,t,rfl,ht,hA⟩:=q1o h;rcases hA with ⟨hF,h⟩|⟨hF,h⟩
 ·obtain ⟨a,k',m1,e,hr,hm,hN⟩:=z4u hE L hL h h0 h2;exact ⟨a,k',m1,e,hr,by omega,hN⟩
 ·have h:Runs toks m rest k op:=by rcases h with ⟨_,h⟩|⟨_,h⟩<;>exact h
  rw [z79 hE _ L ht (y2l hF (by decide+kernel))];exact ⟨_,_,m,rfl,h,by omega,by simp [sumN]⟩
theorem z6k (hE:TokA toks) (L:Nat) (hL:toks.length≤L) {n:Nat} {rest:List Txt} {k:Nat} {op:Int} {f:Nat} (h:Runs toks n (y9w::rest) k op) (h0:0≤op) (h2:200<op+f):Got toks n rest op k (sumN y4o) (y15 toks (y3q toks L f) L k):=by
 obtain ⟨m,t,rfl,ht,hA⟩:=q1y h;rcases hA with ⟨hF,h⟩|⟨_,h⟩
 ·obtain ⟨a,k',m1,e,hr,hm,hN⟩:=z1y hE L hL x0k z4n (y3q toks L f) y4o (fun d=>Nat.succ_pos _) op (fun ho n rest k h=>q21 hE L hL h (by omega) (by omega))
   (fun n rest k op t h ht=>by
     obtain ⟨m,t',_,ht',hA⟩:=q11 h
     rw [ht] at ht';injection ht' with ht';subst ht'
     rcases hA with ⟨hF,_⟩|⟨_,⟨hF,_⟩|⟨_,h⟩⟩
     ·exact z01 hE ht hF (by decide+kernel)
     ·exact z01 hE ht hF (by decide+kernel)
     ·exact h.elim)
   (fun n rest k op h=>by
     obtain ⟨m,t,rfl,ht,hA⟩:=q5q h;rcases hA with ⟨_,h⟩|⟨_,⟨_,h⟩|⟨_,h⟩⟩
     ·exact ⟨m,t,rfl,ht,.inl h⟩
     ·exact ⟨m,t,rfl,ht,.inr h⟩
     ·exact ⟨m,t,rfl,ht,.inr h⟩) h
  exact ⟨a,k',m1,e,hr,by omega,hN⟩
 ·exact h.elim
theorem x0z (hE:TokA toks) (L:Nat) (hL:toks.length≤L) {n:Nat} {rest:List Txt} {k:Nat} {op:Int} {f:Nat} (h:Runs toks n (z0w::rest) k op) (h0:0≤op) (h2:200<op+f):Got toks n rest op k (sumN y4o) (y15 toks (y3q toks L f) L k):=by
 obtain ⟨m,t,rfl,ht,hA⟩:=q5p h;rcases hA with ⟨hF,h⟩|⟨hF,h⟩
 ·obtain ⟨a,k',m1,e,hr,hm,hN⟩:=z6k hE L hL h h0 h2;exact ⟨a,k',m1,e,hr,by omega,hN⟩
 ·have h:Runs toks m rest k op:=by rcases h with ⟨_,h⟩|⟨_,h⟩<;>exact h
  rw [z79 hE _ L ht (y2l hF (by decide+kernel))];exact ⟨_,_,m,rfl,h,by omega,by simp [sumN]⟩
theorem x24 {α:Type}: ∀l:List α,sumN (fun _=>1) l=l.length
 |[]=>rfl
 |_::r=>by simp only [sumN,x24 r,List.length_cons];omega
theorem z4v (hE:TokA toks) (L:Nat) (hL:toks.length≤L) {n:Nat} {rest:List Txt} {k:Nat} {op:Int} (h:Runs toks n (y6k::rest) k op) (h0:0≤op):Got toks n rest op k (fun l=>l.length) (y15 toks (y6y toks) L k):=by
 obtain ⟨m,t,rfl,ht,hA⟩:=x4v h;rcases hA with ⟨hF,h⟩|⟨_,h⟩
 ·obtain ⟨a,k',m1,e,hr,hm,hN⟩:=z1y hE L hL x0j z4m (y6y toks) (fun _=>1) (fun _=>Nat.one_pos) op (fun ho n rest k h=>q6j hE h)
   (fun n rest k op t h ht=>by
     obtain ⟨m,t',_,ht',hA⟩:=q1l h
     rw [ht] at ht';injection ht' with ht';subst ht'
     rcases hA with ⟨hF,_⟩|⟨_,h⟩
     ·exact z01 hE ht hF (by decide+kernel)
     ·exact h.elim)
   (fun n rest k op h=>by
     obtain ⟨m,t,rfl,ht,hA⟩:=q5n h;rcases hA with ⟨_,h⟩|⟨_,⟨_,h⟩|⟨_,h⟩⟩
     ·exact ⟨m,t,rfl,ht,.inl h⟩
     ·exact ⟨m,t,rfl,ht,.inr h⟩
     ·exact ⟨m,t,rfl,ht,.inr h⟩) h
  exact ⟨a,k',m1,e,hr,by omega,by simp only at hN;rw [x24] at hN;exact hN⟩
 ·exact h.elim
theorem x76 (hE:TokA toks) (L:Nat) (hL:toks.length≤L) {n:Nat} {rest:List Txt} {k:Nat} {op:Int} (h:Runs toks n (y9r::rest) k op) (h0:0≤op):Got toks n rest op k (fun l=>l.length) (y15 toks (y6y toks) L k):=by
 obtain ⟨m,t,rfl,ht,hA⟩:=q1i h;rcases hA with ⟨hF,h⟩|⟨hF,h⟩
 ·obtain ⟨a,k',m1,e,hr,hm,hN⟩:=z4v hE L hL h h0;exact ⟨a,k',m1,e,hr,by omega,hN⟩
 ·have h:Runs toks m rest k op:=by rcases h with ⟨_,h⟩|⟨_,h⟩<;>exact h
  rw [z79 hE _ L ht (y2l hF (by decide+kernel))];exact ⟨_,_,m,rfl,h,by omega,by simp⟩
theorem z4w (hE:TokA toks) (L f:Nat) (hL:0<L) {k:Nat} {t:TokD} (ht:toks[k]?=some t) {F:List Txt} (hF:fits F t=true) (hn:F.contains [64]=false):y2c toks L f k=some ([],k):=by
 obtain ⟨fu,rfl⟩: ∃g,L=g+1:=⟨L - 1,by omega⟩;unfold y2c;rw [y3p,ht,Option.bind_some,if_neg (by rw [y8b (hE.wf k t ht) (by decide) hF hn];decide)]
theorem x77 {t:TokD} (h:y0n [46,112,108,97,99,101] t=true):t.kind=3:=by
 have:((t.kind==3)&&y21 t.text y3g)=true:=h;simp only [Qao,Qa7] at this;exact this.1
theorem z4x (hE:TokA toks) (L:Nat) (hL:toks.length≤L) {n:Nat} {rest:List Txt} {k:Nat} {op:Int} (h:Runs toks n (y7b::rest) k op):Got toks n rest op k (fun l=>l.length) (optF toks [105,109,112,108,101,109,101,110,116,115] [38] L k):=by
 obtain ⟨m,t,rfl,ht,hA⟩:=x7m h;have hW:=hE.wf _ t ht;rcases hA with ⟨hF,h⟩|⟨_,h⟩
 ·obtain ⟨m1,rfl,hf,hn,hl,h⟩:=h.t0 hE ht;unfold optF;rw [ht,Option.bind_some,if_pos (by rw [y9x hW (by decide)];exact hf)];obtain ⟨a,k',m2,e,hr,hm,hN⟩:=z1x hE 38 (by decide) (by decide+kernel) z7u y9s nAMP (by decide+kernel) (by decide+kernel) (fun t h=>z4q h) q1n in_AMP L hL (by omega) h;exact ⟨a,k',m2,e,hr,by omega,by simp only at hN ⊢;omega⟩
 ·exact h.elim
theorem z4y (hE:TokA toks) (L:Nat) {k:Nat} {t:TokD} (ht:toks[k]?=some t) (hf:y0n [39,105,109,112,108,101,109,101,110,116,115] t=false):optF toks [105,109,112,108,101,109,101,110,116,115] [38] L k=some ([],k):=by
 unfold optF;rw [ht,Option.bind_some,if_neg (by rw [y9x (hE.wf k t ht) (by decide),hf];decide)]
theorem x78 (hE:TokA toks) (L:Nat) (hL:toks.length≤L) {n:Nat} {rest:List Txt} {k:Nat} {op:Int} (h:Runs toks n (y5z::rest) k op):Got toks n rest op k (fun l=>l.length) (optF toks [105,109,112,108,101,109,101,110,116,115] [38] L k):=by
 obtain ⟨m,t,rfl,ht,hA⟩:=q1m h;rcases hA with ⟨hF,h⟩|⟨hF,h⟩
 ·obtain ⟨a,k',m2,e,hr,hm,hN⟩:=z4x hE L hL h;exact ⟨a,k',m2,e,hr,by omega,hN⟩
 ·have h:Runs toks m rest k op:=by rcases h with ⟨_,h⟩|⟨_,h⟩<;>exact h
  rw [z4y hE L ht (y2l hF (by decide+kernel))];exact ⟨_,_,m,rfl,h,by omega,by simp⟩
theorem z2e (hE:TokA toks) (L:Nat) (hL:toks.length≤L) {n:Nat} {rest:List Txt} {k:Nat} {op:Int} (h:Runs toks n (y5o::rest) k op):Got toks n rest op k (fun l=>l.length) (optF toks [61] [124] L k):=by
 obtain ⟨m,t,rfl,ht,hA⟩:=x2o h;have hW:=hE.wf _ t ht;rcases hA with ⟨hF,h⟩|⟨_,h⟩
 ·obtain ⟨m1,rfl,hf,hn,hl,h⟩:=h.t0 hE ht;unfold optF;rw [ht,Option.bind_some,if_pos (by rw [y0z hW (by decide)];exact hf)];obtain ⟨a,k',m2,e,hr,hm,hN⟩:=z1x hE 124 (by decide) (by decide+kernel) z7u y7d nBAR (by decide+kernel) (by decide+kernel) (fun t h=>z4q h) x7x q7g L hL (by omega) h;exact ⟨a,k',m2,e,hr,by omega,by simp only at hN ⊢;omega⟩
 ·exact h.elim
theorem z4z (hE:TokA toks) (L:Nat) (hL:toks.length≤L) {n:Nat} {rest:List Txt} {k:Nat} {op:Int} (h:Runs toks n (y45::rest) k op):Got toks n rest op k (fun l=>l.length) (optF toks [61] [124] L k):=by
 obtain ⟨m,t,rfl,ht,hA⟩:=x7w h;rcases hA with ⟨hF,h⟩|⟨hF,h⟩
 ·obtain ⟨a,k',m2,e,hr,hm,hN⟩:=z2e hE L hL h;exact ⟨a,k',m2,e,hr,by omega,hN⟩
 ·have h:Runs toks m rest k op:=by rcases h with ⟨_,h⟩|⟨_,h⟩<;>exact h
  unfold optF;rw [ht,Option.bind_some,if_neg (by rw [y0z (hE.wf k t ht) (by decide),y2l hF (by decide+kernel)];decide)];exact ⟨_,_,m,rfl,h,by omega,by simp⟩
section body
variable (hE : TokA toks) (L : Nat) (hL : toks.length ≤ L) (f : Nat) (h2 : 200 < f) (hd : NoteD × Bool × TokD × Nat) {k0 : Nat} (hk0 : k0 + 1 ≤ hd.2.2.2)
include hE hL h2 hk0
theorem z40 {n:Nat} {st:List Txt} {rest:List Txt} (h:Runs toks n (st++rest) hd.2.2.2 0) (hst:st=[y08,y6k]∨st=[nDIR,y08,y9r]∨st=[y6k]):Got toks n rest 0 k0 defN (y3c toks L f hd):=by
 unfold y3c
 have fin: ∀n k1 ds,Got toks n rest 0 k1 (fun l=>l.length) (y15 toks (y6y toks) L k1)→y2c toks L f hd.2.2.2=some (ds,k1)→sumN dirN ds+hd.2.2.2≤k1→Got toks n rest 0 k0 defN ((y2c toks L f hd.2.2.2).bind fun d=>(y15 toks (y6y toks) L d.2).bind fun r=>some ((⟨1,hd.2.1,hd.1,[],[],d.1,[],[],[],[],r.1,false,[],hd.2.2.1.line,hd.2.2.1.col⟩:DefD),r.2)):=by
  rintro n k1 ds ⟨a,k',m1,e,hr,hm,hN⟩ hds hsz;rw [hds,Option.bind_some,e,Option.bind_some];exact ⟨_,_,m1,rfl,hr,hm,by simp only [defN,sumN,List.length_nil] at hN ⊢;omega⟩
 rcases hst with rfl|rfl|rfl
 ·obtain ⟨a,k',m1,e,hr,hm,hN⟩:=y2t hE L hL h (by omega) (by omega:200<(0:Int)+(f:Nat)) (by omega:0<hd.2.2.2);have hg:=z4v hE L hL hr (Int.le_refl _);obtain ⟨x,y,z,g1,g2,g3,g4⟩:=fin _ _ _ hg e hN;exact ⟨x,y,z,g1,g2,by omega,g4⟩
 ·obtain ⟨a,k',m1,e,hr,hm,hN⟩:=y8y hE L hL h (by omega) (by omega:200<(0:Int)+(f:Nat)) (by omega:0<hd.2.2.2);have hg:=x76 hE L hL hr (Int.le_refl _);obtain ⟨x,y,z,g1,g2,g3,g4⟩:=fin _ _ _ hg e hN;exact ⟨x,y,z,g1,g2,by omega,g4⟩
 ·have hg:=z4v hE L hL h (Int.le_refl _);obtain ⟨m,t,_,ht,hA⟩:=x4v h;rcases hA with ⟨hF,_⟩|⟨_,hA⟩
  ·have hlt:=(Qac.1 ht).1;exact fin _ _ _ hg (z4w hE L f (by omega) ht hF (by decide+kernel)) (by simp [sumN])
  ·exact hA.elim
theorem x00 {n:Nat} {st:List Txt} {rest:List Txt} (h:Runs toks n (z7u::(st++rest)) hd.2.2.2 0) (hst:st=[y08]∨st=[nDIR,y08]):Got toks n rest 0 k0 defN (y3d toks L f hd):=by
 obtain ⟨t,ht⟩:=h.tok;obtain ⟨m1,rfl,hf,hn,hl,h⟩:=h.t0 hE ht;unfold y3d;rw [ht,Option.bind_some,hn]
 have hg:Got toks m1 rest 0 (hd.2.2.2+1) (sumN dirN) (y2c toks L f (hd.2.2.2+1)):=by
  rcases hst with rfl|rfl
  ·exact y2t hE L hL h (by omega) (by omega) (by omega)
  ·exact y8y hE L hL h (by omega) (by omega) (by omega)
 obtain ⟨a,k',m2,e,hr,hm,hN⟩:=hg;rw [e,Option.bind_some];exact ⟨_,_,m2,rfl,hr,by omega,by simp only [defN,sumN,List.length_nil] at hN ⊢;omega⟩
theorem z02 (kind:Int) {n:Nat} {st:List Txt} {rest:List Txt} (h:Runs toks n (z7u::(st++rest)) hd.2.2.2 0) (hst:st=[y5z,y08,y3t]∨st=[y44]):Got toks n rest 0 k0 defN (y2d kind toks L f hd):=by
 obtain ⟨t,ht⟩:=h.tok;obtain ⟨m1,rfl,hf,hn,hl,h⟩:=h.t0 hE ht
 have hg: ∃is k1 ds k2,optF toks [105,109,112,108,101,109,101,110,116,115] [38] L (hd.2.2.2+1)=some (is,k1)∧y2c toks L f k1=some (ds,k2)∧is.length+(hd.2.2.2+1)≤k1∧sumN dirN ds+k1≤k2∧Got toks m1 rest 0 k2 (sumN y31) (y15 toks (y2y toks L f) L k2):=by
  rcases hst with rfl|rfl
  ·obtain ⟨a,k1,m2,e,hr,hm,hN⟩:=x78 hE L hL h;obtain ⟨b,k2,m3,e2,hr2,hm2,hN2⟩:=y2t hE L hL hr (by omega) (by omega:200<(0:Int)+(f:Nat)) (by omega);obtain ⟨x,y,z,g1,g2,g3,g4⟩:=z1z hE L hL hr2 (Int.le_refl _) (by omega:200<(0:Int)+(f:Nat));exact ⟨a,k1,b,k2,e,e2,hN,hN2,x,y,z,g1,g2,by omega,g4⟩
  ·obtain ⟨m2,t2,rfl,ht2,hA⟩:=x7k h;rcases hA with ⟨hF,h⟩|⟨hF0,⟨hF,h⟩|⟨_,⟨hF,h⟩|⟨_,hA⟩⟩⟩
   ·obtain ⟨a,k1,m2,e,hr,hm,hN⟩:=z4x hE L hL h;obtain ⟨b,k2,m3,e2,hr2,hm2,hN2⟩:=y2t hE L hL hr (by omega) (by omega:200<(0:Int)+(f:Nat)) (by omega);obtain ⟨x,y,z,g1,g2,g3,g4⟩:=z1z hE L hL hr2 (Int.le_refl _) (by omega:200<(0:Int)+(f:Nat));exact ⟨a,k1,b,k2,e,e2,hN,hN2,x,y,z,g1,g2,by omega,g4⟩
   ·obtain ⟨b,k2,m3,e2,hr2,hm2,hN2⟩:=y8y hE L hL h (by omega) (by omega:200<(0:Int)+(f:Nat)) (by omega);obtain ⟨x,y,z,g1,g2,g3,g4⟩:=z1z hE L hL hr2 (Int.le_refl _) (by omega:200<(0:Int)+(f:Nat));exact ⟨[],_,b,k2,z4y hE L ht2 (y2l hF0 (by decide+kernel)),e2,by simp,hN2,x,y,z,g1,g2,by omega,g4⟩
   ·obtain ⟨x,y,z,g1,g2,g3,g4⟩:=z4u hE L hL h (Int.le_refl _) (by omega:200<(0:Int)+(f:Nat));exact ⟨[],_,[],_,z4y hE L ht2 (y2l hF0 (by decide+kernel)),z4w hE L f (by omega) ht2 hF (by decide+kernel),by simp,by simp [sumN],x,y,z,g1,g2,by omega,g4⟩
   ·exact hA.elim
 obtain ⟨is,k1,ds,k2,e1,e2,hN1,hN2,a,k',m2,e,hr,hm,hN⟩:=hg;unfold y2d;rw [ht,Option.bind_some,hn,e1,Option.bind_some,e2,Option.bind_some,e,Option.bind_some];exact ⟨_,_,m2,rfl,hr,by omega,by simp only [defN,sumN,List.length_nil] at hN ⊢;omega⟩
theorem x5c {n:Nat} {st:List Txt} {rest:List Txt} (h:Runs toks n (z7u::(st++rest)) hd.2.2.2 0) (hst:st=[y08,y45]∨st=[z1u]):Got toks n rest 0 k0 defN (y5h toks L f hd):=by
 obtain ⟨t,ht⟩:=h.tok;obtain ⟨m1,rfl,hf,hn,hl,h⟩:=h.t0 hE ht
 have hg: ∃ds k2,y2c toks L f (hd.2.2.2+1)=some (ds,k2)∧sumN dirN ds+(hd.2.2.2+1)≤k2∧Got toks m1 rest 0 k2 (fun l=>l.length) (optF toks [61] [124] L k2):=by
  rcases hst with rfl|rfl
  ·obtain ⟨b,k2,m3,e2,hr2,hm2,hN2⟩:=y2t hE L hL h (by omega) (by omega:200<(0:Int)+(f:Nat)) (by omega);obtain ⟨x,y,z,g1,g2,g3,g4⟩:=z4z hE L hL hr2;exact ⟨b,k2,e2,hN2,x,y,z,g1,g2,by omega,g4⟩
  ·obtain ⟨m2,t2,rfl,ht2,hA⟩:=q1w h;rcases hA with ⟨hF,h⟩|⟨_,⟨hF,h⟩|⟨_,hA⟩⟩
   ·obtain ⟨b,k2,m3,e2,hr2,hm2,hN2⟩:=y8y hE L hL h (by omega) (by omega:200<(0:Int)+(f:Nat)) (by omega);obtain ⟨x,y,z,g1,g2,g3,g4⟩:=z4z hE L hL hr2;exact ⟨b,k2,e2,hN2,x,y,z,g1,g2,by omega,g4⟩
   ·obtain ⟨x,y,z,g1,g2,g3,g4⟩:=z2e hE L hL h;exact ⟨[],_,z4w hE L f (by omega) ht2 hF (by decide+kernel),by simp [sumN],x,y,z,g1,g2,by omega,g4⟩
   ·exact hA.elim
 obtain ⟨ds,k2,e2,hN2,a,k',m2,e,hr,hm,hN⟩:=hg;unfold y5h;rw [ht,Option.bind_some,hn,e2,Option.bind_some,e,Option.bind_some];exact ⟨_,_,m2,rfl,hr,by omega,by simp only [defN,sumN,List.length_nil] at hN ⊢;omega⟩
theorem q23 {n:Nat} {st:List Txt} {rest:List Txt} (h:Runs toks n (z7u::(st++rest)) hd.2.2.2 0) (hst:st=[y08,z0w]∨st=[z6g]):Got toks n rest 0 k0 defN (y9k toks L f hd):=by
 obtain ⟨t,ht⟩:=h.tok;obtain ⟨m1,rfl,hf,hn,hl,h⟩:=h.t0 hE ht
 have hg: ∃ds k2,y2c toks L f (hd.2.2.2+1)=some (ds,k2)∧sumN dirN ds+(hd.2.2.2+1)≤k2∧Got toks m1 rest 0 k2 (sumN y4o) (y15 toks (y3q toks L f) L k2):=by
  rcases hst with rfl|rfl
  ·obtain ⟨b,k2,m3,e2,hr2,hm2,hN2⟩:=y2t hE L hL h (by omega) (by omega:200<(0:Int)+(f:Nat)) (by omega);obtain ⟨x,y,z,g1,g2,g3,g4⟩:=x0z hE L hL hr2 (Int.le_refl _) (by omega:200<(0:Int)+(f:Nat));exact ⟨b,k2,e2,hN2,x,y,z,g1,g2,by omega,g4⟩
  ·obtain ⟨m2,t2,rfl,ht2,hA⟩:=q5t h;rcases hA with ⟨hF,h⟩|⟨_,⟨hF,h⟩|⟨_,hA⟩⟩
   ·obtain ⟨b,k2,m3,e2,hr2,hm2,hN2⟩:=y8y hE L hL h (by omega) (by omega:200<(0:Int)+(f:Nat)) (by omega);obtain ⟨x,y,z,g1,g2,g3,g4⟩:=x0z hE L hL hr2 (Int.le_refl _) (by omega:200<(0:Int)+(f:Nat));exact ⟨b,k2,e2,hN2,x,y,z,g1,g2,by omega,g4⟩
   ·obtain ⟨x,y,z,g1,g2,g3,g4⟩:=z6k hE L hL h (Int.le_refl _) (by omega:200<(0:Int)+(f:Nat));exact ⟨[],_,z4w hE L f (by omega) ht2 hF (by decide+kernel),by simp [sumN],x,y,z,g1,g2,by omega,g4⟩
   ·exact hA.elim
 obtain ⟨ds,k2,e2,hN2,a,k',m2,e,hr,hm,hN⟩:=hg;unfold y9k;rw [ht,Option.bind_some,hn,e2,Option.bind_some,e,Option.bind_some];exact ⟨_,_,m2,rfl,hr,by omega,by simp only [defN,sumN,List.length_nil] at hN ⊢;omega⟩
theorem x5d {n:Nat} {st:List Txt} {rest:List Txt} (h:Runs toks n (z7u::(st++rest)) hd.2.2.2 0) (hst:st=[y08,y7e]∨st=[z1v]):Got toks n rest 0 k0 defN (y5i toks L f hd):=by
 obtain ⟨t,ht⟩:=h.tok;obtain ⟨m1,rfl,hf,hn,hl,h⟩:=h.t0 hE ht
 have hg: ∃ds k2,y2c toks L f (hd.2.2.2+1)=some (ds,k2)∧sumN dirN ds+(hd.2.2.2+1)≤k2∧Got toks m1 rest 0 k2 (sumN y2q) (y1x toks [123] [125] L f k2):=by
  rcases hst with rfl|rfl
  ·obtain ⟨b,k2,m3,e2,hr2,hm2,hN2⟩:=y2t hE L hL h (by omega) (by omega:200<(0:Int)+(f:Nat)) (by omega);obtain ⟨x,y,z,g1,g2,g3,g4⟩:=z6j hE L hL hr2 (Int.le_refl _) (by omega) (by omega:200<(0:Int)+(f:Nat));exact ⟨b,k2,e2,hN2,x,y,z,g1,g2,by omega,g4⟩
  ·obtain ⟨m2,t2,rfl,ht2,hA⟩:=q17 h;rcases hA with ⟨hF,h⟩|⟨_,⟨hF,h⟩|⟨_,hA⟩⟩
   ·obtain ⟨b,k2,m3,e2,hr2,hm2,hN2⟩:=y8y hE L hL h (by omega) (by omega:200<(0:Int)+(f:Nat)) (by omega);obtain ⟨x,y,z,g1,g2,g3,g4⟩:=z6j hE L hL hr2 (Int.le_refl _) (by omega) (by omega:200<(0:Int)+(f:Nat));exact ⟨b,k2,e2,hN2,x,y,z,g1,g2,by omega,g4⟩
   ·obtain ⟨x,y,z,g1,g2,g3,g4⟩:=z4t hE L hL h (Int.le_refl _) (by omega) (by omega:200<(0:Int)+(f:Nat));exact ⟨[],_,z4w hE L f (by omega) ht2 hF (by decide+kernel),by simp [sumN],x,y,z,g1,g2,by omega,g4⟩
   ·exact hA.elim
 obtain ⟨ds,k2,e2,hN2,a,k',m2,e,hr,hm,hN⟩:=hg;unfold y5i;rw [ht,Option.bind_some,hn,e2,Option.bind_some,e,Option.bind_some];exact ⟨_,_,m2,rfl,hr,by omega,by simp only [defN,sumN,List.length_nil] at hN ⊢;omega⟩
theorem dir_of {n:Nat} {rest:List Txt} (h:Runs toks n ([64]::z7u::y8a::z4p::[39,111,110]::nBAR::[46,112,108,97,99,101]::y51::rest) hd.2.2.2 0):Got toks n rest 0 k0 defN (dirF toks L f hd):=by
 obtain ⟨t,ht⟩:=h.tok;have hW:=hE.wf _ t ht;obtain ⟨m1,rfl,hf,hn,hl,h⟩:=h.t0 hE ht;obtain ⟨t3,ht3⟩:=h.tok;obtain ⟨m2,rfl,hf3,hn3,hl3,h⟩:=h.t0 hE ht3;obtain ⟨a,k1,m3,e1,hr,hm1,hN1⟩:=z4s hE L hL h (Int.le_refl _) (by omega) (by omega:200<(0:Int)+(f:Nat))
 have hrep: ∃k2 m4 t5,toks[k1]?=some t5∧(if isF t5 [114,101,112,101,97,116,97,98,108,101]=true then k1+1 else k1)=k2∧k1≤k2∧m4<m3∧Runs toks m4 ([39,111,110]::nBAR::[46,112,108,97,99,101]::y51::rest) k2 0:=by
  obtain ⟨m4,t5,rfl,ht5,hA⟩:=q18 hr;have hW5:=hE.wf _ t5 ht5;rcases hA with ⟨hF,h⟩|⟨hF,h⟩
  ·obtain ⟨m5,rfl,hf5,hn5,hl5,h⟩:=h.t0 hE ht5;exact ⟨k1+1,m5,t5,ht5,if_pos (by rw [y9x hW5 (by decide)];exact hf5),by omega,by omega,h⟩
  ·have h:Runs toks m4 ([39,111,110]::nBAR::[46,112,108,97,99,101]::y51::rest) k1 0:=by rcases h with ⟨_,h⟩|⟨_,h⟩<;>exact h
   exact ⟨k1,m4,t5,ht5,if_neg (by rw [y9x hW5 (by decide),y2l hF (by decide+kernel)];decide),by omega,by omega,h⟩
 obtain ⟨k2,m4,t5,ht5,hk2,hle,hm4,h⟩:=hrep;obtain ⟨t6,ht6⟩:=h.tok;have hW6:=hE.wf _ t6 ht6;obtain ⟨m5,rfl,hf6,hn6,hl6,h⟩:=h.t0 hE ht6;obtain ⟨b,k3,m6,e2,hr2,hm2,hN2⟩:=z1x hE 124 (by decide) (by decide+kernel) [46,112,108,97,99,101] y51 nBAR (by decide+kernel) (by decide+kernel) (fun t h=>x77 h) q19 q7g L hL (by omega) h;unfold dirF;rw [ht,Option.bind_some,if_pos (by rw [y0z hW (by decide)];exact hf),ht3,Option.bind_some,hn3,e1,Option.bind_some,ht5,Option.bind_some,hk2,ht6,Option.bind_some,if_pos (by rw [y9x hW6 (by decide)];exact hf6),e2,Option.bind_some];exact ⟨_,_,m6,rfl,hr2,by omega,by simp only [defN,sumN,List.length_nil] at hN1 hN2 ⊢;omega⟩
end body
end
section
variable {toks : List TokD} (hE : TokA toks) (L : Nat) (hL : toks.length ≤ L) (f : Nat) (h2 : 200 < f)
theorem kw {t:TokD} {w:Txt} (hw: ∀t,y0n (39::w) t=((t.kind==3)&&decide (t.text=w))) (h:y0n (39::w) t=true):t.text=w:=by
 rw [hw] at h;simp only [Qao,decide_eq_true_eq] at h;exact h.2
theorem y8c {t:TokD} {w:Txt} (h:t.text=w) (hw:w≠[101,120,116,101,110,100]):isF t [101,120,116,101,110,100]=false:=by
 unfold isF;rw [h,Qa4 hw];rfl
theorem q7n {h:NoteD×Bool×TokD×Nat} (hk:h.2.2.1.text=[115,99,104,101,109,97]):y3v toks L f h=y3c toks L f h:=by
 have e:y43 [115,99,104,101,109,97]=1:=by decide+kernel
 unfold y3v;rw [hk,e];rfl
theorem q7o {h:NoteD×Bool×TokD×Nat} (hk:h.2.2.1.text=[115,99,97,108,97,114]):y3v toks L f h=y3d toks L f h:=by
 have e:y43 [115,99,97,108,97,114]=2:=by decide+kernel
 unfold y3v;rw [hk,e];rfl
theorem q7p {h:NoteD×Bool×TokD×Nat} (hk:h.2.2.1.text=[116,121,112,101]):y3v toks L f h=y2d 3 toks L f h:=by
 have e:y43 [116,121,112,101]=3:=by decide+kernel
 unfold y3v;rw [hk,e];rfl
theorem q7q {h:NoteD×Bool×TokD×Nat} (hk:h.2.2.1.text=[105,110,116,101,114,102,97,99,101]):y3v toks L f h=y2d 4 toks L f h:=by
 have e:y43 [105,110,116,101,114,102,97,99,101]=4:=by decide+kernel
 unfold y3v;rw [hk,e];rfl
theorem q7r {h:NoteD×Bool×TokD×Nat} (hk:h.2.2.1.text=[117,110,105,111,110]):y3v toks L f h=y5h toks L f h:=by
 have e:y43 [117,110,105,111,110]=5:=by decide+kernel
 unfold y3v;rw [hk,e];rfl
theorem q7s {h:NoteD×Bool×TokD×Nat} (hk:h.2.2.1.text=[101,110,117,109]):y3v toks L f h=y9k toks L f h:=by
 have e:y43 [101,110,117,109]=6:=by decide+kernel
 unfold y3v;rw [hk,e];rfl
theorem q7t {h:NoteD×Bool×TokD×Nat} (hk:h.2.2.1.text=[105,110,112,117,116]):y3v toks L f h=y5i toks L f h:=by
 have e:y43 [105,110,112,117,116]=7:=by decide+kernel
 unfold y3v;rw [hk,e];rfl
theorem body_8 {h:NoteD×Bool×TokD×Nat} (hk:h.2.2.1.text=[100,105,114,101,99,116,105,118,101]):y3v toks L f h=dirF toks L f h:=by
 have e:y43 [100,105,114,101,99,116,105,118,101]=8:=by decide+kernel
 unfold y3v;rw [hk,e];rfl
theorem Got.weak {α:Type} {n n':Nat} {rest:List Txt} {op:Int} {k:Nat} {N:α→Nat} {x:Option (α×Nat)} (h:Got toks n rest op k N x) (hn:n≤n'):Got toks n' rest op k N x:=by
 obtain ⟨a,b,c,h1,h2,h3,h4⟩:=h;exact ⟨a,b,c,h1,h2,by omega,h4⟩
include hE hL h2
theorem z23 {n:Nat} {rest:List Txt} {k k0:Nat} {t:TokD} (ht:toks[k]?=some t) (hk0:k0≤k) (note:NoteD) (ext:Bool) (h:Runs toks n (x2e::rest) k 0):
  Got toks n rest 0 k0 defN (y3v toks L f (note,ext,t,k+1))∧isF t [101,120,116,101,110,100]=false∧y0g toks.length k=k+1∧t.kind=3:=by
 obtain ⟨m,t',rfl,ht',hA⟩:=q86 h
 rw [ht] at ht';injection ht' with ht';subst ht'
 have hk3: ∀w,(∀t,y0n (39::w) t=((t.kind==3)&&decide (t.text=w)))→y0n (39::w) t=true→t.kind=3:=fun w hw h=>by
  rw [hw] at h;simp only [Qao,Qa7] at h;exact h.1
 rcases hA with ⟨_,h⟩|⟨_,⟨_,h⟩|⟨_,⟨_,h⟩|⟨_,⟨_,h⟩|⟨_,⟨_,h⟩|⟨_,⟨_,h⟩|⟨_,⟨_,h⟩|⟨_,⟨_,h⟩|⟨_,h⟩⟩⟩⟩⟩⟩⟩⟩
 ·obtain ⟨m1,rfl,hf,hn,hl,h⟩:=h.t0 hE ht;have hx:=kw (fun t=>rfl) hf;rw [q7n L f hx];exact ⟨(z40 hE L hL f h2 (note,ext,t,k+1) (by simp only;omega) (st:=[y08,y6k]) h (.inl rfl)).weak (by omega),y8c hx (by decide),hn,hk3 _ (fun t=>rfl) hf⟩
 ·obtain ⟨m1,rfl,hf,hn,hl,h⟩:=h.t0 hE ht;have hx:=kw (fun t=>rfl) hf;rw [q7o L f hx];exact ⟨(x00 hE L hL f h2 (note,ext,t,k+1) (by simp only;omega) (st:=[y08]) h (.inl rfl)).weak (by omega),y8c hx (by decide),hn,hk3 _ (fun t=>rfl) hf⟩
 ·obtain ⟨m1,rfl,hf,hn,hl,h⟩:=h.t0 hE ht;have hx:=kw (fun t=>rfl) hf;rw [q7p L f hx];exact ⟨(z02 hE L hL f h2 (note,ext,t,k+1) (by simp only;omega) 3 (st:=[y5z,y08,y3t]) h (.inl rfl)).weak (by omega),y8c hx (by decide),hn,hk3 _ (fun t=>rfl) hf⟩
 ·obtain ⟨m1,rfl,hf,hn,hl,h⟩:=h.t0 hE ht;have hx:=kw (fun t=>rfl) hf;rw [q7q L f hx];exact ⟨(z02 hE L hL f h2 (note,ext,t,k+1) (by simp only;omega) 4 (st:=[y5z,y08,y3t]) h (.inl rfl)).weak (by omega),y8c hx (by decide),hn,hk3 _ (fun t=>rfl) hf⟩
 ·obtain ⟨m1,rfl,hf,hn,hl,h⟩:=h.t0 hE ht;have hx:=kw (fun t=>rfl) hf;rw [q7r L f hx];exact ⟨(x5c hE L hL f h2 (note,ext,t,k+1) (by simp only;omega) (st:=[y08,y45]) h (.inl rfl)).weak (by omega),y8c hx (by decide),hn,hk3 _ (fun t=>rfl) hf⟩
 ·obtain ⟨m1,rfl,hf,hn,hl,h⟩:=h.t0 hE ht;have hx:=kw (fun t=>rfl) hf;rw [q7s L f hx];exact ⟨(q23 hE L hL f h2 (note,ext,t,k+1) (by simp only;omega) (st:=[y08,z0w]) h (.inl rfl)).weak (by omega),y8c hx (by decide),hn,hk3 _ (fun t=>rfl) hf⟩
 ·obtain ⟨m1,rfl,hf,hn,hl,h⟩:=h.t0 hE ht;have hx:=kw (fun t=>rfl) hf;rw [q7t L f hx];exact ⟨(x5d hE L hL f h2 (note,ext,t,k+1) (by simp only;omega) (st:=[y08,y7e]) h (.inl rfl)).weak (by omega),y8c hx (by decide),hn,hk3 _ (fun t=>rfl) hf⟩
 ·obtain ⟨m1,rfl,hf,hn,hl,h⟩:=h.t0 hE ht;have hx:=kw (fun t=>rfl) hf;rw [body_8 L f hx];exact ⟨(dir_of hE L hL f h2 (note,ext,t,k+1) (by simp only;omega) h).weak (by omega),y8c hx (by decide),hn,hk3 _ (fun t=>rfl) hf⟩
 ·exact h.elim
theorem q24 {n:Nat} {rest:List Txt} {k k0:Nat} {t:TokD} (ht:toks[k]?=some t) (hk0:k0≤k) (note:NoteD) (ext:Bool) (h:Runs toks n (x0i::rest) k 0):
  Got toks n rest 0 k0 defN (y3v toks L f (note,ext,t,k+1))∧y0g toks.length k=k+1:=by
 obtain ⟨m,t',rfl,ht',hA⟩:=x4u h
 rw [ht] at ht';injection ht' with ht';subst ht'
 rcases hA with ⟨_,h⟩|⟨_,⟨_,h⟩|⟨_,⟨_,h⟩|⟨_,⟨_,h⟩|⟨_,⟨_,h⟩|⟨_,⟨_,h⟩|⟨_,⟨_,h⟩|⟨_,h⟩⟩⟩⟩⟩⟩⟩
 ·obtain ⟨m1,rfl,hf,hn,hl,h⟩:=h.t0 hE ht;have hx:=kw (fun t=>rfl) hf;rw [q7n L f hx];obtain ⟨m2,t2,rfl,ht2,hA⟩:=x7i h;rcases hA with ⟨_,h⟩|⟨_,⟨_,h⟩|⟨_,h⟩⟩
  ·exact ⟨(z40 hE L hL f h2 (note,ext,t,k+1) (by simp only;omega) (st:=[nDIR,y08,y9r]) h (.inr (.inl rfl))).weak (by omega),hn⟩
  ·exact ⟨(z40 hE L hL f h2 (note,ext,t,k+1) (by simp only;omega) (st:=[y6k]) h (.inr (.inr rfl))).weak (by omega),hn⟩
  ·exact h.elim
 ·obtain ⟨m1,rfl,hf,hn,hl,h⟩:=h.t0 hE ht;have hx:=kw (fun t=>rfl) hf;rw [q7o L f hx];exact ⟨(x00 hE L hL f h2 (note,ext,t,k+1) (by simp only;omega) (st:=[nDIR,y08]) h (.inr rfl)).weak (by omega),hn⟩
 ·obtain ⟨m1,rfl,hf,hn,hl,h⟩:=h.t0 hE ht;have hx:=kw (fun t=>rfl) hf;rw [q7p L f hx];exact ⟨(z02 hE L hL f h2 (note,ext,t,k+1) (by simp only;omega) 3 (st:=[y44]) h (.inr rfl)).weak (by omega),hn⟩
 ·obtain ⟨m1,rfl,hf,hn,hl,h⟩:=h.t0 hE ht;have hx:=kw (fun t=>rfl) hf;rw [q7q L f hx];exact ⟨(z02 hE L hL f h2 (note,ext,t,k+1) (by simp only;omega) 4 (st:=[y44]) h (.inr rfl)).weak (by omega),hn⟩
 ·obtain ⟨m1,rfl,hf,hn,hl,h⟩:=h.t0 hE ht;have hx:=kw (fun t=>rfl) hf;rw [q7r L f hx];exact ⟨(x5c hE L hL f h2 (note,ext,t,k+1) (by simp only;omega) (st:=[z1u]) h (.inr rfl)).weak (by omega),hn⟩
 ·obtain ⟨m1,rfl,hf,hn,hl,h⟩:=h.t0 hE ht;have hx:=kw (fun t=>rfl) hf;rw [q7s L f hx];exact ⟨(q23 hE L hL f h2 (note,ext,t,k+1) (by simp only;omega) (st:=[z6g]) h (.inr rfl)).weak (by omega),hn⟩
 ·obtain ⟨m1,rfl,hf,hn,hl,h⟩:=h.t0 hE ht;have hx:=kw (fun t=>rfl) hf;rw [q7t L f hx];exact ⟨(x5d hE L hL f h2 (note,ext,t,k+1) (by simp only;omega) (st:=[z1v]) h (.inr rfl)).weak (by omega),hn⟩
 ·exact h.elim
theorem q25 {n:Nat} {rest:List Txt} {k:Nat} (h:Runs toks n (nDEF::rest) k 0):Got toks n rest 0 k defN (defF toks L f k)∧ ∃t,toks[k]?=some t∧t.kind≠0:=by
 obtain ⟨m,t,rfl,ht,hA⟩:=q7f h;have hW:=hE.wf _ t ht;unfold defF y36;rcases hA with ⟨hF,h⟩|⟨hF0,⟨hF,h⟩|⟨_,⟨hF,h⟩|⟨_,h⟩⟩⟩
 ·have hk:=y3j hF (by decide);obtain ⟨p,m1,e,em,h'⟩:=z00 hE ht h;subst em;replace h:=h';obtain ⟨t0,ht0⟩:=h.tok;obtain ⟨hg,hx,hn,_⟩:=z23 hE L hL f h2 ht0 (by omega:k≤k+1) p false h;rw [e,Option.bind_some,ht0,Option.bind_some,hx];simp only [Bool.false_eq_true,if_false];rw [ht0,Option.bind_some,hn,Option.bind_some]
  first|exact ⟨hg.weak (by omega),t,ht,hk⟩|exact ⟨hg.weak (by omega),t,rfl,hk⟩
 ·have hk:=y3j hF (by decide);obtain ⟨hg,hx,hn,_⟩:=z23 hE L hL f h2 ht (Qab k) y7n false h;rw [y4t ht (y2l hF0 (by decide+kernel)),Option.bind_some,ht,Option.bind_some,hx];simp only [Bool.false_eq_true,if_false];rw [ht,Option.bind_some,hn,Option.bind_some]
  first|exact ⟨hg.weak (by omega),t,ht,hk⟩|exact ⟨hg.weak (by omega),t,rfl,hk⟩
 ·have hk:=y3j hF (by decide);obtain ⟨m1,rfl,hf,hn,hl,h⟩:=h.t0 hE ht;obtain ⟨t1,ht1⟩:=h.tok;obtain ⟨hg,hn1⟩:=q24 hE L hL f h2 ht1 (by omega:k≤k+1) y7n true h
  have hx:isF t [101,120,116,101,110,100]=true:=by rw [y9x hW (by decide)];exact hf
  rw [y4t ht (y2l hF0 (by decide+kernel)),Option.bind_some,ht,Option.bind_some,hx];simp only [if_true];rw [ht1,Option.bind_some,hn1,Option.bind_some]
  first|exact ⟨hg.weak (by omega),t,ht,hk⟩|exact ⟨hg.weak (by omega),t,rfl,hk⟩
 ·exact h.elim
theorem x5e: ∀n,
  (∀(k fu:Nat),Runs toks n [y26,endT] k 0→toks.length<fu+k→ ∃defs,y1f toks L f fu k=some defs∧y0i defs+k≤toks.length)∧
  (∀(k fu:Nat),Runs toks n [nDEF,y26,endT] k 0→toks.length<fu+k→ ∃defs,y1f toks L f fu k=some defs∧y0i defs+k≤toks.length):=by
 intro n
 induction n using Nat.strongRecOn with
 |_ n ih=>
  refine ⟨fun k fu h h3=>?_,fun k fu h h3=>?_⟩
  ·obtain ⟨m,t,rfl,ht,hA⟩:=x2h h;have hlt:k<toks.length:=(Qac.1 ht).1;rcases hA with ⟨hF,h⟩|⟨hF,h⟩
   ·exact (ih m (by omega)).2 k fu h h3
   ·have h:Runs toks m [endT] k 0:=by rcases h with ⟨_,h⟩|⟨_,h⟩<;>exact h
    obtain ⟨fu,rfl⟩: ∃g,fu=g+1:=⟨fu - 1,by omega⟩
    have h0:t.kind=0:=by
     unfold Runs at h
     cases m with
     |zero=>cases h
     |succ m=>
      rw [runF,ht] at h;simp only at h;rw [if_neg (by decide),if_neg (by decide)] at h
      cases hf:y0n endT t with
      |false=>rw [hf,if_pos rfl] at h;simp at h
      |true=>have:(t.kind==0)=true:=hf;simpa using this
    rw [y1f,ht,Option.bind_some,if_pos h0];exact ⟨[],rfl,by simp only [y0i,sumN];omega⟩
  ·obtain ⟨⟨a,k',m,e,hr,hm,hN⟩,t,ht,hk⟩:=q25 hE L hL f h2 h;have hlt:k<toks.length:=(Qac.1 ht).1;obtain ⟨fu,rfl⟩: ∃g,fu=g+1:=⟨fu - 1,by omega⟩;have hp:0<defN a:=Nat.succ_pos _;rw [y1f,ht,Option.bind_some,if_neg hk,e,Option.bind_some];obtain ⟨b,e2,hN2⟩:=(ih m hm).1 k' fu hr (by omega);rw [e2,Option.bind_some];exact ⟨_,rfl,by simp only [y0i,sumN] at hN2 ⊢;omega⟩
theorem q9u {n:Nat} (h:Runs toks n [nDOC] 0 0) (hL1:toks.length<L): ∃defs,y1f toks L f L 0=some defs∧y0i defs≤toks.length:=by
 obtain ⟨m,t,rfl,ht,hA⟩:=q7e h;rcases hA with ⟨hF,h⟩|⟨_,h⟩
 ·obtain ⟨d,e,hN⟩:=(x5e hE L hL f h2 m).2 0 L h (by omega);exact ⟨d,e,by omega⟩
 ·exact h.elim
end
end Go.Proofs.YtbpgkkoeehopjaaGreat.acr
namespace Go.Proofs.YtbpgkkoeehopjaaGreat.tot
open Go.RowKit words enc utf ln tree gram rd dat lex acr
set_option maxRecDepth 100000
structure Src (s:List Int) (N:Nat):Prop where
 at_: ∀i,i≤N→ ∃z,s[i]?=some z
 pos: ∀i z,s[i]?=some z→0≤z→i<N
theorem q6k (zs:List Int) (b:Bool):Src (y3k zs b) zs.length:=by
 have hl:zs.length+1≤(y3k zs b).length:=by unfold y3k;cases b<;>simp
 refine ⟨fun i hi=>⟨_,Qad (by omega)⟩,fun i z hz h0=>Nat.lt_of_not_le fun hi=>?_⟩;unfold y3k at hz;rw [Qat,Qba (by simpa using hi)] at hz;have hm:=Qaf hz
 cases b<;>simp at hm<;>omega
theorem z2f {c:Int} {t:Txt} (h:inF c t=true):0≤c:=by
 unfold inF at h;obtain ⟨b,_,hb⟩:=Qbh.1 h;have:=Qa6 hb;omega
theorem q9v {c:Int} {t:Txt} (h:inF c t=true) (ht:(t.all fun b=>decide (b.toNat<128))=true):c<128:=by
 unfold inF at h;obtain ⟨b,hm,hb⟩:=Qbh.1 h;have h1:=Qa6 hb;have h2:=Qa6 (Qbi.1 ht b hm);omega
theorem q6l {c:Int} (h:z3b c=true):0≤c:=by
 unfold z3b at h;rcases Bool.or_eq_true_iff.1 h with h|h
 ·exact z2f h
 ·exact z2f h
theorem q26 {c:Int} (h:z12 c=true):0≤c:=by
 unfold z12 at h;rcases Bool.or_eq_true_iff.1 h with h|h
 ·have:c=65279:=by simpa using h
  omega
 ·exact z2f h
theorem z03 {s:List Int} {i:Nat} {c:Int} (h:y1k s i c=true):s[i]?=some c∧s[i+1]?=some c∧s[i+2]?=some c:=Qa6 h
section
variable {s : List Int} {N : Nat} (hS : Src s N)
include hS
theorem z8a: ∀(f i:Nat),i≤N→N<i+f→ ∃j,y4g s f i=some j∧i≤j∧j≤N
 |0,i,h1,h2=>by omega
 |f+1,i,h1,h2=>by
  obtain ⟨z,hz⟩:=hS.at_ i h1;rw [y4g,hz];dsimp only;split
  ·rename_i hr;have hi:=hS.pos i z hz (q6l hr);obtain ⟨j,e,h3,h4⟩:=z8a f (i+1) (by omega) (by omega);exact ⟨j,e,by omega,h4⟩
  ·exact ⟨i,rfl,Qab _,h1⟩
theorem q27: ∀(f i:Nat),i≤N→N<i+f→ ∃j,comF s f i=some j∧i≤j∧j≤N
 |0,i,h1,h2=>by omega
 |f+1,i,h1,h2=>by
  obtain ⟨z,hz⟩:=hS.at_ i h1;rw [comF,hz];dsimp only;split
  ·rename_i hr;have hi:=hS.pos i z hz hr.1;obtain ⟨j,e,h3,h4⟩:=q27 f (i+1) (by omega) (by omega);exact ⟨j,e,by omega,h4⟩
  ·exact ⟨i,rfl,Qab _,h1⟩
theorem x25: ∀(f i:Nat),i≤N→N+1<i+f→ ∃j,behF s f i=some j∧i≤j∧j≤N
 |0,i,h1,h2=>by omega
 |f+1,i,h1,h2=>by
  obtain ⟨z,hz⟩:=hS.at_ i h1;rw [behF,hz];dsimp only;split
  ·rename_i hr;have hi:=hS.pos i z hz (q26 hr);obtain ⟨j,e,h3,h4⟩:=x25 f (i+1) (by omega) (by omega);exact ⟨j,e,by omega,h4⟩
  ·split
   ·rename_i h35;have hi:=hS.pos i z hz (by omega);obtain ⟨f,rfl⟩: ∃g,f=g+1:=⟨f - 1,by omega⟩
    have e1:comF s (f+1) i=comF s f (i+1):=by rw [comF,hz];dsimp only;rw [if_pos (by omega)]
    obtain ⟨j,e,h3,h4⟩:=q27 hS f (i+1) (by omega) (by omega);rw [e1,e];dsimp only;obtain ⟨q,e2,h5,h6⟩:=x25 (f+1) j (by omega) (by omega);exact ⟨q,e2,by omega,h6⟩
   ·exact ⟨i,rfl,Qab _,h1⟩
theorem x26 (i:Nat): ∀(f j:Nat),j≤N→N<j+f→ ∃r,blkF s i f j=some r∧(r=i∨(j+3≤r∧r≤N))
 |0,j,h1,h2=>by omega
 |f+1,j,h1,h2=>by
  obtain ⟨z,hz⟩:=hS.at_ j h1;rw [blkF,hz];dsimp only;split
  ·exact ⟨i,rfl,.inl rfl⟩
  ·rename_i h0;have hj:=hS.pos j z hz (by omega);split
   ·rename_i h3;have h4:=hS.pos _ _ (z03 h3.2).2.2 (by omega);obtain ⟨r,e,h5⟩:=x26 i f (j+4) (by omega) (by omega);exact ⟨r,e,by omega⟩
   ·split
    ·rename_i h3;have h4:=hS.pos _ _ (z03 h3).2.2 (by omega);exact ⟨j+3,rfl,.inr ⟨Qab _,by omega⟩⟩
    ·obtain ⟨r,e,h5⟩:=x26 i f (j+1) (by omega) (by omega);exact ⟨r,e,by omega⟩
theorem x27 (i:Nat): ∀(f j:Nat),j≤N→N<j+f→ ∃r,quoF s i f j=some r∧(r=i∨(j+1≤r∧r≤N))
 |0,j,h1,h2=>by omega
 |f+1,j,h1,h2=>by
  obtain ⟨z,hz⟩:=hS.at_ j h1;rw [quoF,hz];dsimp only;split
  ·rename_i h0;have hj:=hS.pos j z hz h0.1;split
   ·exact ⟨j+1,rfl,.inr ⟨Qab _,by omega⟩⟩
   ·split
    ·obtain ⟨y,hy⟩:=hS.at_ (j+1) (by omega);rw [hy];dsimp only;split
     ·exact ⟨i,rfl,.inl rfl⟩
     ·rename_i h3;have h4:=hS.pos _ _ hy (by omega);obtain ⟨r,e,h5⟩:=x27 i f (j+2) (by omega) (by omega);exact ⟨r,e,by omega⟩
    ·obtain ⟨r,e,h5⟩:=x27 i f (j+1) (by omega) (by omega);exact ⟨r,e,by omega⟩
  ·exact ⟨i,rfl,.inl rfl⟩
def Good (N i:Nat) (r:Nat×Int×Txt) (P:Int→Prop):Prop:=(r.1=i∧(r.2.1=0∨r.2.1=1))∨(i<r.1∧r.1≤N∧P r.2.1)
theorem q6m (hN:s.length≤N+2) (f i:Nat) (hi:i<N) (hf:N<i+f): ∃r,y7m s f i=some r∧Good N i r fun k=>k=6∨k=7:=by
 have hlen:N<s.length:=by obtain ⟨z,hz⟩:=hS.at_ N (Qab _);exact (Qac.1 hz).1
 unfold y7m;split
 ·rename_i h3;have h4:=hS.pos _ _ (z03 h3).2.2 (by omega);obtain ⟨j,e,hj⟩:=x26 hS i f (i+3) (by omega) (by omega);rw [e];dsimp only;split
  ·exact ⟨_,rfl,.inl ⟨rfl,.inr rfl⟩⟩
  ·rw [if_pos (by omega)];split
   ·exact ⟨_,rfl,.inr ⟨by dsimp only;omega,by dsimp only;omega,.inr rfl⟩⟩
   ·exact ⟨_,rfl,.inl ⟨rfl,.inr rfl⟩⟩
 ·obtain ⟨j,e,hj⟩:=x27 hS i f (i+1) (by omega) (by omega);rw [e];dsimp only;split
  ·exact ⟨_,rfl,.inl ⟨rfl,.inr rfl⟩⟩
  ·rw [if_pos (by omega)];split
   ·exact ⟨_,rfl,.inr ⟨by dsimp only;omega,by dsimp only;omega,.inl rfl⟩⟩
   ·exact ⟨_,rfl,.inl ⟨rfl,.inr rfl⟩⟩
omit hS in
theorem z10: ∀(l:List Int) (m k:Nat) (st:Int) (e:Nat) (f:Int) (z:Int),e≤k→l[m]?=some z→z<43→(y1g l k st e f).1≤k+m
 |[],m,k,st,e,f,z,h,hz,h2=>by simp at hz
 |c::r,0,k,st,e,f,z,h,hz,h2=>by
  simp only [List.getElem?_cons_zero,Option.some.injEq] at hz;subst hz;rw [y1g,if_pos (Int.lt_of_not_ge fun h0=>by have:=lex.step_end h0;omega)];exact h
 |c::r,m+1,k,st,e,f,z,h,hz,h2=>by
  rw [y1g];split
  ·dsimp only;omega
  ·split
   ·have:=z10 r m (k+1) (y2j st c) (k+1) (z6y (y2j st c)) z (Qab _) (by simpa using hz) h2;omega
   ·have:=z10 r m (k+1) (y2j st c) e f z (by omega) (by simpa using hz) h2;omega
theorem q9w (i:Nat) (hi:i≤N):Good N i ((numF s i).1,(numF s i).2,[]) fun k=>k=4∨k=5:=by
 obtain ⟨zN,hzN⟩:=hS.at_ N (Qab _)
 have hneg:zN<0:=Int.lt_of_not_ge fun h=>by have:=hS.pos N zN hzN h;omega
 have hb:=z10 (s.drop i) (N - i) i 0 i 0 zN (Qab _) (by rw [Qbc,show i+(N - i)=N by omega];exact hzN) (by omega);have hg:=y99 (s.drop i) i 0 i 0 (Qab _);obtain ⟨p,hp⟩: ∃p,y6p s i=p:=⟨_,rfl⟩;have hp2:y1g (s.drop i) i 0 i 0=p:=hp;rw [hp2] at hb hg;unfold numF;rw [hp];split
 ·exact .inl ⟨rfl,.inr rfl⟩
 ·split
  ·exact .inl ⟨rfl,.inr rfl⟩
  ·rename_i h;refine .inr ⟨by dsimp only;omega,by dsimp only;omega,?_⟩;dsimp only;split
   ·exact .inl rfl
   ·exact .inr rfl
def q7u (z:Int) (k:Int):Prop:=(y7q z=true∧k=3)∨((y7h z=true∨z=45)∧(k=4∨k=5))∨(z=34∧(k=6∨k=7))∨(y7q z=false∧0≤z∧z<128∧k=2)
theorem q9x (hN:s.length≤N+2) (f i:Nat) (hi:i≤N) (hf:N<i+f): ∃r z,oneF s f i=some r∧s[i]?=some z∧Good N i r (q7u z):=by
 obtain ⟨z,hz⟩:=hS.at_ i hi;unfold oneF;rw [hz];dsimp only;split
 ·exact ⟨_,z,rfl,rfl,.inl ⟨rfl,.inl rfl⟩⟩
 ·split
  ·rename_i hst;have hlt:=hS.pos i z hz (z2f hst);obtain ⟨j,e,h1,h2⟩:=z8a hS f i hi hf
   have hj:i<j:=by
    obtain ⟨g,rfl⟩: ∃g,f=g+1:=⟨f - 1,by omega⟩;rw [y4g,hz] at e;dsimp only at e;rw [if_pos (by unfold z3b;unfold y7q at hst;rw [hst];rfl)] at e;obtain ⟨j',e',h3,h4⟩:=z8a hS g (i+1) (by omega) (by omega);rw [e'] at e;injection e with e;omega
   rw [e];exact ⟨_,z,rfl,rfl,.inr ⟨hj,h2,.inl ⟨hst,rfl⟩⟩⟩
  ·rename_i hst
   have hst:y7q z=false:=by cases h:y7q z with|true=>exact absurd h hst|false=>rfl
   split
   ·rename_i hd;refine ⟨_,z,rfl,rfl,?_⟩;rcases q9w hS i hi with h|⟨h1,h2,h3⟩
    ·exact .inl h
    ·exact .inr ⟨h1,h2,.inr (.inl ⟨hd,h3⟩)⟩
   ·split
    ·rename_i h34;have hlt:=hS.pos i z hz (by omega);obtain ⟨r,e,h⟩:=q6m hS hN f i hlt hf;refine ⟨r,z,e,rfl,?_⟩;rcases h with h|⟨h1,h2,h3⟩
     ·exact .inl h
     ·exact .inr ⟨h1,h2,.inr (.inr (.inl ⟨h34,h3⟩))⟩
    ·have hp: ∃j,y4h s i=some j∧i≤j∧(i<j→j≤N∧0≤z∧z<128):=by
      unfold y4h;rw [hz];dsimp only;split
      ·rename_i hm;have:=hS.pos i z hz (z2f hm);exact ⟨_,rfl,by omega,fun _=>⟨by omega,z2f hm,q9v hm (by decide)⟩⟩
      ·split
       ·rename_i h3;have:=hS.pos _ _ (z03 h3).2.2 (by omega);have h46:=(z03 h3).1;rw [hz] at h46;injection h46 with h46;exact ⟨_,rfl,by omega,fun _=>⟨by omega,by omega,by omega⟩⟩
       ·exact ⟨_,rfl,by omega,fun h=>by omega⟩
     obtain ⟨j,e,h1,h2⟩:=hp;rw [e];dsimp only;split
     ·rename_i hj;exact ⟨_,z,rfl,rfl,.inr ⟨hj,(h2 hj).1,.inr (.inr (.inr ⟨hst,(h2 hj).2.1,(h2 hj).2.2,rfl⟩))⟩⟩
     ·exact ⟨_,z,rfl,rfl,.inl ⟨rfl,.inr rfl⟩⟩
end
theorem x79 {z:Int} (h0:0≤z) (h1:z<128) (r:List Int):(encS (z::r)).data.toList=[]∨ ∃t,(encS (z::r)).data.toList=UInt8.ofNat z.toNat::t:=by
 unfold encS;split
 ·right
  have he:Lib.encodeRuneZ z=[z]:=by unfold Lib.encodeRuneZ;rw [if_pos (by omega)]
  unfold encL;rw [List.flatMap_cons,he];exact ⟨_,rfl⟩
 ·exact .inl rfl
theorem tok_w {z:Int} {r:List Int} {t:TokD} (ht:t.text=(encS (z::r)).data.toList) (hk:q7u z t.kind):TokW t:=by
 have key: ∀(b:UInt8) (x:Txt),0≤z→z<128→t.text=b::x→z=(b.toNat:Int):=fun b x h0 h1 h=>by
  rcases x79 h0 h1 r with e|⟨y,e⟩
  ·rw [ht,e] at h;cases h
  ·rw [ht,e] at h;injection h with h _;rw [←h,UInt8.toNat_ofNat'];have:z.toNat % 2 ^ 8=z.toNat:=Nat.mod_eq_of_lt (by omega);omega
 rcases hk with ⟨hs,h3⟩|⟨hd,h4⟩|⟨_,h6⟩|⟨hs,hz0,hz1,h2⟩
 ·refine ⟨fun p hp he=>?_,fun w hw he=>.inl h3⟩;have hz:=key p [] (z2f hs) (q9v hs (by decide)) he
  have: ∀p∈([33,38,40,41,58,61,64,91,93,123,124,125]:Txt),y7q (p.toNat:Int)=false:=by decide+kernel
  rw [hz,this p hp] at hs;cases hs
 ·have hb:0≤z∧z<128:=by
   rcases hd with hd|hd
   ·exact ⟨z2f hd,q9v hd (by decide)⟩
   ·omega
  refine ⟨fun p hp he=>?_,fun w hw he=>?_⟩
  ·have hz:=key p [] hb.1 hb.2 he
   have: ∀p∈([33,38,40,41,58,61,64,91,93,123,124,125]:Txt),y7h (p.toNat:Int)=false∧p≠45:=by decide+kernel
   obtain ⟨q1,q2⟩:=this p hp;rcases hd with hd|hd
   ·rw [hz,q1] at hd;cases hd
   ·exact absurd (Qb1.1 (show p.toNat=(45:UInt8).toNat by have:(45:UInt8).toNat=45:=rfl;omega)) q2
  ·have: ∀w∈([[101,120,116,101,110,100],[105,109,112,108,101,109,101,110,116,115],[114,101,112,101,97,116,97,98,108,101],[111,110]]:List Txt),∃b x,w=b::x∧y7h (b.toNat:Int)=false∧b.toNat≠45:=by
    intro w hw;simp only [Qbd,List.mem_nil_iff,or_false] at hw;rcases hw with rfl|rfl|rfl|rfl
    all_goals exact ⟨_,_,rfl,by decide+kernel,by decide⟩
   obtain ⟨b,x,e,q1,q2⟩:=this w hw;have hz:=key b x hb.1 hb.2 (he.trans e);rcases hd with hd|hd
   ·rw [hz,q1] at hd;cases hd
   ·omega
 ·exact ⟨fun p hp he=>.inr h6,fun w hw he=>.inr h6⟩
 ·refine ⟨fun p hp he=>.inl h2,fun w hw he=>?_⟩
  have: ∀w∈([[101,120,116,101,110,100],[105,109,112,108,101,109,101,110,116,115],[114,101,112,101,97,116,97,98,108,101],[111,110]]:List Txt),∃b x,w=b::x∧y7q (b.toNat:Int)=true:=by
   intro w hw;simp only [Qbd,List.mem_nil_iff,or_false] at hw;rcases hw with rfl|rfl|rfl|rfl
   all_goals exact ⟨_,_,rfl,by decide+kernel⟩
  obtain ⟨b,x,e,q1⟩:=this w hw;have hz:=key b x hz0 hz1 (he.trans e);rw [hz,q1] at hs;cases hs
theorem q28 {zs s:List Int} (hS:Src s zs.length) (hN:s.length≤zs.length+2) (f i:Nat) (hi:i≤zs.length) (hf:zs.length+1<i+f):
  ∃t too,y59 zs s f i=some t∧t.stop=((too:Nat):Int)∧TokW t∧(((t.kind=0∨t.kind=1))∨(i<too∧too≤zs.length∧ ¬(t.kind=0∨t.kind=1))):=by
 obtain ⟨a,e,h1,h2⟩:=x25 hS f i hi hf;obtain ⟨r,z,e2,hz,h3⟩:=q9x hS hN f a h2 (by omega)
 have hlen:zs.length<s.length:=by obtain ⟨z,hz⟩:=hS.at_ zs.length (Qab _);exact (Qac.1 hz).1
 have hr1:a≤r.1∧r.1≤s.length∧a≤zs.length:=by rcases h3 with h|h<;>omega
 unfold y59;rw [e];dsimp only;rw [e2];dsimp only;rw [if_pos hr1];refine ⟨_,r.1,rfl,rfl,?_,?_⟩
 ·rcases h3 with ⟨q1,q2⟩|⟨q1,q2,q3⟩
  ·have hsub:(s.drop a).take (r.1 - a)=[]:=by rw [q1,Nat.sub_self];rfl
   rw [hsub];have hE:(encS []).data.toList=[]:=rfl;refine ⟨fun p hp he=>?_,fun w hw he=>?_⟩
   ·exact absurd (hE.symm.trans he) (by simp)
   ·have e0:=hE.symm.trans he;subst e0;exact absurd hw (by decide)
  ·have hsub: ∃rr,(s.drop a).take (r.1 - a)=z::rr:=by
    obtain ⟨ha,hza⟩:=Qac.1 hz;rw [Qa1 ha,hza,show r.1 - a=(r.1 - a - 1)+1 by omega,List.take_succ_cons];exact ⟨_,rfl⟩
   obtain ⟨rr,hrr⟩:=hsub;rw [hrr];exact tok_w (r:=rr) rfl q3
 ·rcases h3 with ⟨q1,q2⟩|⟨q1,q2,q3⟩
  ·exact .inl q2
  ·refine .inr ⟨by omega,q2,?_⟩;dsimp only
   rcases q3 with ⟨_,h⟩|⟨_,h⟩|⟨_,h⟩|⟨_,_,_,h⟩<;>omega
theorem x5f {zs s:List Int} (hS:Src s zs.length) (hN:s.length≤zs.length+2) (hz:zs.length≤3000000) (fB:Nat) (hf:zs.length+1<fB): ∀(fu i:Nat),i≤zs.length→zs.length<i+fu→
  ∃l:List TokD,y6a zs s fB fu i=some l∧l≠[]∧l.length+i≤zs.length+1∧(∀(k:Nat) (t:TokD),l[k]?=some t→((t.kind=0∨t.kind=1)↔k+1=l.length))∧ ∀(k:Nat) (t:TokD),l[k]?=some t→TokW t
 |0,i,h1,h2=>by omega
 |fu+1,i,h1,h2=>by
  obtain ⟨t,too,e,e2,hW,h3⟩:=q28 hS hN fB i h1 (by omega);rw [y6a,e];dsimp only;by_cases hk:t.kind=0∨t.kind=1
  ·rw [if_pos hk];refine ⟨[t],rfl,by simp,by simp;omega,fun k t' ht=>?_,fun k t' ht=>?_⟩
   ·cases k with
    |zero=>simp only [List.getElem?_cons_zero,Option.some.injEq] at ht;subst ht;simp [hk]
    |succ k=>simp at ht
   ·cases k with
    |zero=>simp only [List.getElem?_cons_zero,Option.some.injEq] at ht;subst ht;exact hW
    |succ k=>simp at ht
  ·obtain ⟨q1,q2,q3⟩:i<too∧too≤zs.length∧ ¬(t.kind=0∨t.kind=1):=by rcases h3 with h|h;exact absurd h hk;exact h
   rw [if_neg hk,if_neg (by omega),e2,Int.toNat_natCast];obtain ⟨l,e3,g1,g2,g3,g4⟩:=x5f hS hN hz fB hf fu too q2 (by omega);rw [e3];dsimp only;have hl:0<l.length:=Qbt.2 g1;refine ⟨t::l,rfl,by simp,by simp;omega,fun k t' ht=>?_,fun k t' ht=>?_⟩
   ·cases k with
    |zero=>
     simp only [List.getElem?_cons_zero,Option.some.injEq] at ht;subst ht;simp only [List.length_cons];exact ⟨fun h=>absurd h hk,fun h=>by omega⟩
    |succ k=>
     have:=g3 k t' (by simpa using ht);simp only [List.length_cons];rw [this];omega
   ·cases k with
    |zero=>simp only [List.getElem?_cons_zero,Option.some.injEq] at ht;subst ht;exact hW
    |succ k=>exact g4 k t' (by simpa using ht)
theorem y5d (src:Txt) (h:src.length≤2200000): ∃toks,y1n src=some toks∧TokA toks∧1≤toks.length∧toks.length≤src.length+1:=by
 have h1:=z2o src;have h2:=x8x src;unfold y1n;obtain ⟨l,e,g1,g2,g3,g4⟩:=x5f (q6k (decF src).1 (decide ((decF src).2=src.length))) (by unfold y3k;split<;>simp) (by omega) (src.length+3) (by omega) (src.length+3) 0 (by omega) (by omega);exact ⟨l,e,⟨⟨g3⟩,g4⟩,Qbt.2 g1,by omega⟩
end Go.Proofs.YtbpgkkoeehopjaaGreat.tot
namespace Go.Proofs.YtbpgkkoeehopjaaGreat.hp
open Go.RowKit words enc tree gram lex rd dec dat held acr tot
set_option maxRecDepth 100000
set_option maxHeartbeats 40000000
attribute [local go_sem ↓] Go.wp_at_zero Go.wp_at_succ
section
variable {w0 w K : World} {M : List Ent}
theorem q6n {A:Option Addr} {n c:Nat} {src:List UInt8} (H:Hp w0 w K M) (hr:Rd K K.heap.size A (Lib.byteCells src)) (hn:src.length=n) (hnc:n≤c) (hcm:c≤maxLen) (h63:n≤2200000)
  {toks:List TokD} (ht:y1n src=some toks) (hnl:toks.length≤3000000) {nf bf fr:Nat} (hfr:fr≤1000000000) {e p1 p2:Int} (hrun:runF rulesG nf bf toks 200 fr [[68,79,67]] 0 0=some (e,p1,p2)) (he:e≠0):
  Calls Tryz.prog 55 #[.slice A n c,.int .i64 200] w fun en w'=>∃K' g,en= .returned (.tuple #[.slice none 0 0,.agg #[.int .i64 e,.slice (some ⟨g,0,none⟩) 1 1,.slice none 0 0]])∧Sat K' K∧Hp w0 w' K' M:=by
 have HRUN:=hide hrun;have HT:=hide ht;have hgram:=fun w=>z35 w;rw [x31] at hgram
 have hb0:((e:Int) !=0)=true:=by rw [Qa8];exact he
 clear hrun ht he;go_enter Tryz.func55,Tryz.ntmps55
 go_upto_region 5 with (first|(refine oA 5 H ?_;clear H;intro w gz H)|(refine oL H ?_)|(refine oP H ?_;clear H;intro w _ H))
 go_wp2_with fail
 refine (z5o x30 A n c w.heap.size src w (Rd.sat hr (Qab _) H.sat) (Qab _) hn hnc hcm h63 toks HT.out).mono ?_;rintro en w1 ⟨vt,rfl,hrt,hb1⟩;obtain ⟨At,ct,ust,rfl,hnt,hct,_,_⟩:=y0k hrt;obtain ⟨K1,hle1,H1,hdt⟩:=H.fresh1 hb1 hrt;clear H hrt hb1
 go_wp2_with fail
 refine (hgram w1).mono ?_;rintro en w2 ⟨vg,rfl,hrg,hb2⟩;obtain ⟨Ag,cg,usg,rfl,_,_,_,_⟩:=y0k hrg;have H2:=H1.below hb2;clear H1 hb2
 go_wp2_with fail
 refine (z89 w2.heap.size linesG Ag 52 cg w2 hrg (Qab _) x33 (by decide)).mono ?_;rintro en w3 ⟨vr,rfl,hrr,hb3⟩;rw [x32,show linesG.length=rulesG.length from rfl] at hrr;obtain ⟨Ar,cr,usr,rfl,_,_,_,_⟩:=y0k hrr;have H3:=H2.below hb3;clear H2 hb3 hrg;have hcall:=x9k w3.heap.size rulesG Ar At rulesG.length cr toks.length ct [68,79,67] toks 200 nf bf fr (e,p1,p2) w3 hrr (RD.lo hdt H3) (Qab _) (by omega) (by omega) hfr HRUN.out;clear hrr
 go_wp2_with fail
 refine hcall.mono ?_;rintro en w4 ⟨rfl,hb4⟩;have H:=H3.below hb4;clear hcall H3 hb4 hgram HRUN HT;obtain ⟨nt,hnt2⟩: ∃x,toks.length=x:=⟨_,rfl⟩;rw [hnt2] at hnl ⊢;clear hdt hnt2 hnt hct
 go_upto_region 8 with (first|(refine oL H ?_)|(refine oP H ?_;clear H;intro w _ H))
 refine rB [5] H ?_;clear H;intro w H;refine rT 0 H ?_;refine rT 1 H ?_;refine rT 4 H ?_;refine rW 2 H ?_;clear H;intro w g2 H;refine rT 3 H ?_;refine rL 5 H ?_;clear H;intro w _ H;refine rE ?_
 go_wp2_with (first|(refine oL H ?_)|(refine oP H ?_;clear H;intro w _ H))
 refine oB3 H ?_;exact ⟨K1,_,rfl,hle1,H.fin⟩
theorem q9y (H:Hp w0 w K M) {src:Txt} (hlen:src.length≤2200000) {toks:List TokD} (ht:y1n src=some toks) (hnl:toks.length≤3000000) {nf bf fr:Nat} (hfr:fr≤1000000000) {e p1 p2:Int} (hrun:runF rulesG nf bf toks 200 fr [[68,79,67]] 0 0=some (e,p1,p2)) (he:e≠0):
  Calls Tryz.prog 13 #[.string (str src)] w fun en w'=>∃K',en= .returned (.slice none 0 0)∧Sat K' K∧Hp w0 w' K' M:=by
 obtain ⟨cb,w1,hrunc,hb1,hc1,hc2,hrd,hs1⟩:=z5w (P:=Tryz.prog) w 9 86 5 src Tryz.underlying9 Tryz.underlying86 Tryz.underlying5 (by simp only [maxLen];omega);obtain ⟨K1,hle1,H1,hk,-⟩:=H.fresh hb1
 have hr1:Rd K1 K1.heap.size (some ⟨w.heap.size,0,none⟩) (Lib.byteCells src):=fun hn=>by
  obtain ⟨ad,e,hb,hc⟩:=hrd hn;injection e with e;subst e;have h0:=hk w.heap.size (Qab _)
  have hlt:w.heap.size<w1.heap.size:=by omega
  refine ⟨_,rfl,?_,fun j u hu=>?_⟩
  ·rw [Qbq hlt] at h0;exact (Qan.1 h0).1
  ·have:=hc j u hu
   have e1:(⟨w.heap.size,0,none⟩:Addr).add j=⟨w.heap.size,j,none⟩:=by unfold Addr.add;by_cases h:j=0<;>simp [h]
   rw [e1] at this ⊢;exact (World.cell?_of_block h0).trans this
 have hcall:=q6n H1 hr1 rfl hc1 hc2 hlen ht hnl hfr hrun he
 have hb0:((e:Int) !=0)=true:=by rw [Qa8];exact he
 clear ht hrun hk hr1 hrd H H1 he;go_enter Tryz.func13,Tryz.ntmps13
 go_wp2_with (first|(refine hcall.mono ?_;rintro en w ⟨K2,g,rfl,hle2,H⟩)|(refine oL H ?_)|(refine oP H ?_;clear H;intro w _ H))
 go_ret;exact ⟨K2,rfl,hle2.trans hle1,H.fin⟩
end
def y4u (src:Txt):List DefD:=match y1n src with
 |none=>[]
 |some toks=>if runF rulesG nfG bfG toks 200 800000000 [nDOC] 0 0=some (0,0,0) then (y1f toks 3000000 300 3000000 0).getD [] else []
theorem z41 (R:List RuleD) (nf bf:Nat) (toks:List TokD) (depth:Int): ∀(f:Nat) (st:List Txt) (k:Nat) (op:Int) (r:Int×Int×Int),runF R nf bf toks depth f st k op=some r→r=(0,0,0)∨r.1≠0
 |0,_,_,_,r,h=>by cases h
 |f+1,[],k,op,r,h=>by injection h with h;exact .inl h.symm
 |f+1,s::st,k,op,r,h=>by
  rw [runF] at h;split at h
  ·cases h
  ·split at h
   ·cases h
   ·split at h
    ·split at h
     ·cases h
     ·split at h
      ·cases h
      ·exact z41 R nf bf toks depth f _ _ _ r h
     ·injection h with h;subst h;exact .inr (by simp)
    ·split at h
     ·injection h with h;subst h;exact .inr (by simp)
     ·split at h
      ·injection h with h;subst h;exact .inr (by simp)
      ·exact z41 R nf bf toks depth f _ _ _ r h
theorem read_cases (src:Txt) (hlen:src.length≤2200000): ∃toks,y1n src=some toks∧TokA toks∧toks.length≤src.length+1∧
  ((runF rulesG nfG bfG toks 200 800000000 [nDOC] 0 0=some (0,0,0)∧y1f toks 3000000 300 3000000 0=some (y4u src)∧y0i (y4u src)≤toks.length)∨
   (∃e p1 p2,e≠0∧runF rulesG nfG bfG toks 200 800000000 [nDOC] 0 0=some (e,p1,p2)∧y4u src=[])):=by
 obtain ⟨toks,e,hA,h1,h2⟩:=y5d src hlen;have hphi:phi toks [nDOC] 0≤[nDOC].length+200*(toks.length - 0):=x4s (by intro s hs;obtain rfl:=Qax.1 hs;decide+kernel) (by omega);have hl1:[nDOC].length=1:=rfl;rw [hl1] at hphi;obtain ⟨r,hr⟩:=z0v toks 200 hA.toTokE 800000000 [nDOC] 0 0 (by omega) (by intro s hs;obtain rfl:=Qax.1 hs;decide+kernel) (by omega) (by omega);refine ⟨toks,e,hA,h2,?_⟩
 have hdef:y4u src=if runF rulesG nfG bfG toks 200 800000000 [nDOC] 0 0=some (0,0,0) then (y1f toks 3000000 300 3000000 0).getD [] else []:=by unfold y4u;rw [e]
 rcases z41 _ _ _ _ _ _ _ _ _ r hr with rfl|h0
 ·left;obtain ⟨defs,hd,hN⟩:=q9u hA 3000000 (by omega) 300 (by omega) hr (by omega);rw [if_pos hr,hd,Option.getD_some] at hdef;rw [hdef];exact ⟨hr,hd,hN⟩
 ·right;obtain ⟨e0,p1,p2⟩:=r;refine ⟨e0,p1,p2,h0,hr,?_⟩;rw [hdef,if_neg (fun h=>by rw [hr] at h;injection h with h;injection h with h _;exact h0 h)]
section
variable {w0 w K : World} {M : List Ent}
theorem z26 (H:Hp w0 w K M) (src:Txt) (hlen:src.length≤2200000):
  Calls Tryz.prog 13 #[.string (str src)] w fun e w'=>∃K' A' c',e= .returned (.slice A' (y4u src).length c')∧Sat K' K∧Hp w0 w' K' M∧RD K' (.list (y4u src).length (y0r (y4u src))) (.slice A' (y4u src).length c'):=by
 obtain ⟨toks,e,hA,h2,⟨hr,hd,hN⟩|⟨e0,p1,p2,h0,hr,hd⟩⟩:=read_cases src hlen
 ·exact x96 H ⟨hlen,toks,nfG,bfG,800000000,3000000,300,e,by omega,by omega,hr,by omega,hd⟩ rfl
 ·refine (q9y H hlen e (by omega) (by omega) hr h0).mono ?_;rintro en w' ⟨K',rfl,hs,H⟩;rw [hd];exact ⟨K',none,0,rfl,hs,H,.nil (Qab _)⟩
theorem q29 (src:Txt) (hlen:src.length≤2200000):y0i (y4u src)≤src.length+1:=by
 obtain ⟨toks,e,hA,h2,⟨hr,hd,hN⟩|⟨e0,p1,p2,h0,hr,hd⟩⟩:=read_cases src hlen
 ·omega
 ·rw [hd];exact Qak _
end
end Go.Proofs.YtbpgkkoeehopjaaGreat.hp
namespace Go.Proofs.YtbpgkkoeehopjaaGreat.lex
open Go.RowKit words enc utf dec ln lines tree gram rd dat acr tot
theorem z8b {toks:List TokD} {L f:Nat}: ∀(fu k:Nat) (ds:List DefD),y1f toks L f fu k=some ds→ ∃t∈toks,t.kind=0
 |0,k,ds,h=>by cases h
 |fu+1,k,ds,h=>by
  rw [y1f] at h;obtain ⟨t,ht,h2⟩:=Qag.1 h;split at h2
  ·exact ⟨t,Qaf ht,by assumption⟩
  ·obtain ⟨q,_,h3⟩:=Qag.1 h2;obtain ⟨r,h4,_⟩:=Qag.1 h3;exact z8b fu q.2 r h4
theorem z8c {src:Txt} (hlen:src.length≤2200000) (hc:(decF src).2=src.length) {toks:List TokD} (h:y1n src=some toks):
  lexT (src.length+3) (src.length+3) (y3k (decF src).1 true)=some (toks.map keyT):=by
 unfold y1n at h;rw [Qa5 hc] at h;have hl:=z2o src
 have hl2:(y3k (decF src).1 true).length=(decF src).1.length+1:=by rw [z75];simp
 have e:=q2p (src.length+3) hl2.symm (by omega) (src.length+3) 0 (Qak _);rw [h,List.drop_zero] at e;exact e.symm
theorem q6o {p q:Txt} (hlen:(p++10::q).length≤2200000) (hp:(decF p).2=p.length) (hq:(decF q).2=q.length) {tp tq:List TokD} {e:TokD} (ep:y1n p=some (tp++[e])) (he:e.kind=0) (eq:y1n q=some tq):
  ∃t,y1n (p++10::q)=some t∧TokA t∧t.map keyT=tp.map keyT++tq.map keyT:=by
 have hl:(p++10::q).length=p.length+(q.length+1):=by simp
 obtain ⟨t,h1,hA,_⟩:=y5d (p++10::q) hlen;refine ⟨t,h1,hA,?_⟩;have k1:=z8c (by omega) hp ep;have k2:=z8c (by omega) hq eq;have k3:=z8c hlen (y54 hp hq) h1;rw [z74 hp] at k3;dsimp only at k3;rw [x47] at k3;rw [z75,Qas] at k1;have hd:=z2o p
 have c:=q2v k2 _ ((decF p).1.map seen) (p.length+3) 9000000 9000000 (tp.map keyT) (keyT e) (fun c hc=>by
  obtain ⟨x,_,rfl⟩:=Qbe.1 hc;exact x20 x) k1 he (by omega) (by rw [Qay];omega) (by omega)
 have c2:=z73 (B2:=9000000) (by omega) _ 9000000 _ _ (by omega) k3;rw [c] at c2;injection c2 with c2;exact c2.symm
end Go.Proofs.YtbpgkkoeehopjaaGreat.lex
namespace Go.Proofs.YtbpgkkoeehopjaaGreat.mac
open Go.RowKit lex gram rd tree dat acr tot loc hp
def muT:TokD:=⟨2,0,0,0,0,[36],[]⟩
def epT:TokD:=⟨0,0,0,0,0,[],[]⟩
def cutT (T:List TokD) (k:Nat):List TokD:=T.take k++[muT,epT]
theorem z8d {T:List TokD} {k i:Nat} (hk:k<T.length) (hi:i<k):(cutT T k)[i]?=T[i]?:=by
 unfold cutT;rw [Qa9 (by rw [Qau];omega),List.getElem?_take_of_lt hi]
theorem q7v {T:List TokD} {k:Nat} (hk:k<T.length):(cutT T k)[k]?=some muT:=by
 unfold cutT;rw [Qba (by rw [Qau];omega),Qau,Nat.min_eq_left (by omega),Nat.sub_self];rfl
theorem y34 {T:List TokD} {k:Nat} (hk:k<T.length):(cutT T k).length=k+2:=by
 unfold cutT;rw [Qae,Qau,Nat.min_eq_left (by omega)];rfl
theorem q7w {T:List TokD} {k:Nat} (hk:k<T.length):(cutT T k)[k+1]?=some epT:=by
 unfold cutT;rw [Qba (by rw [Qau];omega),Qau,Nat.min_eq_left (by omega),Nat.add_sub_cancel_left];rfl
theorem mu_w:TokW muT where
 mark:=fun p hp h=>.inl rfl
 word:=fun w hw h=>by
  subst h;exact absurd hw (by decide)
theorem ep_w:TokW epT where
 mark:=fun p hp h=>by cases h
 word:=fun w hw h=>by
  subst h;exact absurd hw (by decide)
theorem cut_A {T:List TokD} (hE:TokA T) {k:Nat} (hk:k<T.length):TokA (cutT T k):=by
 have hcase: ∀i t,(cutT T k)[i]?=some t→(i<k∧T[i]?=some t)∨(i=k∧t=muT)∨(i=k+1∧t=epT):=fun i t h=>by
  have hl:=(Qac.1 h).1;rw [y34 hk] at hl;by_cases h1:i<k
  ·rw [z8d hk h1] at h;exact .inl ⟨h1,h⟩
  ·by_cases h2:i=k
   ·subst h2;rw [q7v hk] at h;injection h with h;exact .inr (.inl ⟨rfl,h.symm⟩)
   ·have h3:i=k+1:=by omega
    subst h3;rw [q7w hk] at h;injection h with h;exact .inr (.inr ⟨rfl,h.symm⟩)
 refine TokA.mk (TokE.mk (fun i t h=>?_)) (fun i t h=>?_)
 ·rw [y34 hk];rcases hcase i t h with ⟨h1,h2⟩|⟨rfl,rfl⟩|⟨rfl,rfl⟩
  ·have:=hE.ends i t h2;refine ⟨fun h3=>?_,fun h3=>?_⟩
   ·have:=this.1 h3;omega
   ·omega
  ·refine ⟨fun h3=>?_,fun h3=>by omega⟩
   rcases h3 with h3|h3<;>exact absurd h3 (by decide)
  ·exact ⟨fun _=>rfl,fun _=>.inl rfl⟩
 ·rcases hcase i t h with ⟨h1,h2⟩|⟨rfl,rfl⟩|⟨rfl,rfl⟩
  ·exact hE.wf i t h2
  ·exact mu_w
  ·exact ep_w
theorem q9z:Go.Proofs.YtbpgkkoeehopjaaGreat.loc.Calm muT:=by
 have: ∀x∈y9y,isF muT x=false:=by decide+kernel
 exact this
theorem q3a {t:TokD} (hW:TokW t) (h:x0p t):Go.Proofs.YtbpgkkoeehopjaaGreat.loc.Calm t:=by
 intro x hx
 cases hf:isF t x with
 |false=>rfl
 |true=>
  unfold isF at hf;simp only [Qao,decide_eq_true_eq,Qa8] at hf;obtain ⟨⟨e,h6⟩,h7⟩:=hf
  have hm:x∈([[33],[38],[40],[41],[58],[61],[64],[91],[93],[123],[124],[125]]:List Txt)∨x∈([[105,109,112,108,101,109,101,110,116,115],[114,101,112,101,97,116,97,98,108,101],[111,110]]:List Txt):=by
   have:y9y=([[33],[38],[40],[41],[58],[61],[64],[91],[93],[123],[124],[125]]:List Txt)++([[105,109,112,108,101,109,101,110,116,115],[114,101,112,101,97,116,97,98,108,101],[111,110]]:List Txt):=rfl;rw [this] at hx;exact Qbf.1 hx
  have hk:t.kind=2∨t.kind=3:=by
   rcases hm with hm|hm
   ·have hm2: ∃p,p∈([33,38,40,41,58,61,64,91,93,123,124,125]:Txt)∧x=[p]:=by
     have: ∀x∈([[33],[38],[40],[41],[58],[61],[64],[91],[93],[123],[124],[125]]:List Txt),∃p,p∈([33,38,40,41,58,61,64,91,93,123,124,125]:Txt)∧x=[p]:=by
      intro x hx;simp only [Qbd,List.mem_nil_iff,or_false] at hx
      rcases hx with rfl|rfl|rfl|rfl|rfl|rfl|rfl|rfl|rfl|rfl|rfl|rfl<;>exact ⟨_,by decide,rfl⟩
     exact this x hm
    obtain ⟨p,hp,rfl⟩:=hm2;rcases hW.mark p hp e with h|h|h
    ·exact .inl h
    ·exact absurd h h6
    ·exact absurd h h7
   ·rcases hW.word x (by
     have: ∀x∈([[105,109,112,108,101,109,101,110,116,115],[114,101,112,101,97,116,97,98,108,101],[111,110]]:List Txt),x∈([[101,120,116,101,110,100],[105,109,112,108,101,109,101,110,116,115],[114,101,112,101,97,116,97,98,108,101],[111,110]]:List Txt):=by decide
     exact this x hm) e with h|h|h
    ·exact .inr h
    ·exact absurd h h6
    ·exact absurd h h7
  rcases h with h|⟨h,h1⟩|⟨h,h1⟩|h|h
  ·omega
  ·exfalso
   have: ∀x∈y9y,x≠[36]:=by decide
   exact this x hx (e.symm.trans h1)
  ·exfalso
   have: ∀x∈y9y,x∉kws:=by decide
   exact this x hx (e▸h1)
  ·exact absurd h h6
  ·exact absurd h h7
theorem q6p {t:TokD} (h:fits [[46,115,116,114],[39,115,99,104,101,109,97],[39,115,99,97,108,97,114],[39,116,121,112,101],[39,105,110,116,101,114,102,97,99,101],[39,117,110,105,111,110],[39,101,110,117,109],[39,105,110,112,117,116],[39,100,105,114,101,99,116,105,118,101],[39,101,120,116,101,110,100]] t=true):x0p t:=by
 unfold fits at h;obtain ⟨s,hs,hf⟩:=Qbh.1 h
 have key: ∀w:Txt,w∈kws→y0n (39::w) t=true→x0p t:=fun w hw hf=>by
  have e:y0n (39::w) t=((t.kind==3)&&decide (t.text=w)):=by
   have: ∀w∈kws,(39::w:Txt)≠[46,110,97,109,101]:=by decide
   simp [y0n]
  rw [e] at hf;simp only [Qao,decide_eq_true_eq,Qa7] at hf;exact .inr (.inr (.inl ⟨hf.1,hf.2▸hw⟩))
 simp only [Qbd,List.mem_nil_iff,or_false] at hs;rcases hs with rfl|rfl|rfl|rfl|rfl|rfl|rfl|rfl|rfl|rfl
 ·have e:((t.kind==6)||(t.kind==7))=true:=hf;simp only [Bool.or_eq_true,Qa7] at e;exact .inr (.inr (.inr e))
 all_goals exact key _ (by decide) hf
theorem q3b {T:List TokD} {m κ:Nat} (h:Runs T m [y26,endT] κ 0): ∃t,T[κ]?=some t∧x0p t:=by
 obtain ⟨m1,t,rfl,ht,hA⟩:=x2h h;refine ⟨t,ht,?_⟩;rcases hA with ⟨hF,_⟩|⟨_,hr⟩
 ·exact q6p hF
 ·replace hr:Runs T m1 [endT] κ 0:=by
   rcases hr with h|⟨_,h⟩
   ·first|exact h.elim|exact absurd h.1 (by simp [fits])
   ·exact h
  unfold Runs at hr
  cases m1 with
  |zero=>cases hr
  |succ m1=>
   rw [runF,ht] at hr;dsimp only at hr;rw [if_neg (by decide),show y2a endT=false by decide+kernel,if_neg (by decide)] at hr
   cases hff:y0n endT t with
   |true=>
    have e:(t.kind==0)=true:=hff;exact .inl (by simpa using e)
   |false=>
    rw [hff,if_pos rfl] at hr;cases hr
theorem go_nil {T:List TokD} {L f:Nat}: ∀{fu k:Nat},y1f T L f fu k=some []→ ∃e,T[k]?=some e∧e.kind=0
 |0,k,h=>by cases h
 |fu+1,k,h=>by
  rw [y1f] at h;obtain ⟨t,ht,h2⟩:=Qag.1 h;split at h2
  ·exact ⟨t,ht,by assumption⟩
  ·obtain ⟨q,_,h3⟩:=Qag.1 h2;obtain ⟨r,_,h4⟩:=Qag.1 h3;cases h4
end Go.Proofs.YtbpgkkoeehopjaaGreat.mac
namespace Go.Proofs.YtbpgkkoeehopjaaGreat.mac
open Go.RowKit lex gram rd tree dat acr
theorem x5g {t t':TokD} (h1:t'.kind=t.kind) (h2:t'.text=t.text) (g:List Txt→Option Bool) (nu:Txt→Option Bool) (R:List RuleD): ∀l,y3b g nu R t' l=y3b g nu R t l
 |[]=>by rw [y3b,y3b]
 |s::r=>by rw [y3b,y3b,z0x h1 h2,x5g h1 h2 g nu R r]
theorem q3c {t t':TokD} (h1:t'.kind=t.kind) (h2:t'.text=t.text) (R:List RuleD) (nf:Nat): ∀f,begF R nf t' f=begF R nf t f
 |0=>rfl
 |f+1=>by funext l;rw [begF,begF,q3c h1 h2 R nf f,x5g h1 h2]
theorem x8a {t t':TokD} (h1:t'.kind=t.kind) (h2:t'.text=t.text) (R:List RuleD) (nf bf:Nat) (s:Txt):y5g R nf bf t' s=y5g R nf bf t s:=by
 unfold y5g;rw [q3c h1 h2]
theorem z8e {T T1:List TokD} {o:Nat} (hl:T.length=o+T1.length) (hg: ∀i t,T1[i]?=some t→ ∃t',T[o+i]?=some t'∧t'.kind=t.kind∧t'.text=t.text): ∀(n:Nat) (st:List Txt) (k:Nat) (op:Int),Runs T1 n st k op→Runs T n st (o+k) op
 |0,st,k,op,h=>by cases h
 |n+1,[],k,op,h=>rfl
 |n+1,s::r,k,op,h=>by
  unfold Runs at h ⊢;rw [runF] at h ⊢
  cases ht:T1[k]? with
  |none=>rw [ht] at h;cases h
  |some t=>
   obtain ⟨t',ht',e1,e2⟩:=hg k t ht;rw [ht] at h;rw [ht'];dsimp only at h ⊢;rw [x8a e1 e2,z0x e1 e2];split
   ·rename_i h0;rw [if_pos h0] at h;cases h
   ·rename_i h0;rw [if_neg h0] at h;split
    ·rename_i hr;rw [if_pos hr] at h
     cases hc:y5g rulesG nfG bfG t s with
     |none=>rw [hc] at h;cases h
     |some p=>
      obtain ⟨c,b⟩:=p;rw [hc] at h
      cases b with
      |false=>cases h
      |true=>
       dsimp only at h ⊢;split
       ·rename_i h3;rw [if_pos h3] at h;cases h
       ·rename_i h3;rw [if_neg h3] at h;exact z8e hl hg n _ k op h
    ·rename_i hr;rw [if_neg hr] at h;split
     ·rename_i h3;rw [if_pos h3] at h;cases h
     ·rename_i h3;rw [if_neg h3] at h;split
      ·rename_i h4;rw [if_pos h4] at h;cases h
      ·rename_i h4;rw [if_neg h4] at h;have ih:=z8e hl hg n r _ _ h
       have e:(if o+k+1<T.length then o+k+1 else o+k)=o+(if k+1<T1.length then k+1 else k):=by split<;>split<;>omega
       rw [e];exact ih
end Go.Proofs.YtbpgkkoeehopjaaGreat.mac
namespace Go.Proofs.YtbpgkkoeehopjaaGreat.hp
open Go.RowKit lex gram rd tree dat
structure Kin (toks T:List TokD) (o:Nat):Prop where
 len:T.length=o+toks.length
 get: ∀k t,toks[k]?=some t→ ∃t',T[o+k]?=some t'∧t'.kind=t.kind∧t'.text=t.text∧t'.value=t.value
def Go2 {α:Type} (o:Nat) (eq:α→α→Bool) (x y:Option (α×Nat)):Prop:=∀a k,x=some (a,k)→ ∃b,y=some (b,o+k)∧eq a b=true
section
variable {toks T : List TokD} {o : Nat}
theorem y1r {t t':TokD} (h1:t'.kind=t.kind) (h2:t'.text=t.text) (x:Txt):isF t' x=isF t x:=by unfold isF;rw [h1,h2]
theorem Kin.next (R:Kin toks T o) (k:Nat):y0g T.length (o+k)=o+y0g toks.length k:=by
 unfold y0g;rw [R.len];by_cases h:k+1<toks.length
 ·rw [if_pos h,if_pos (by omega)];rfl
 ·rw [if_neg h,if_neg (by omega)]
theorem z04 (R:Kin toks T o) (k:Nat):Go2 o y4q (y6b toks k) (y6b T (o+k)):=fun a k' h=>by
 unfold y6b at h ⊢;obtain ⟨t,ht,h⟩:=Option.map_eq_some_iff.1 h;obtain ⟨t',ht',h1,h2,h3⟩:=R.get _ _ ht;rw [ht',Option.map_some,h1,h3];split at h
 ·rename_i hk;rw [if_pos hk];injection h with ha hk2;subst ha hk2;exact ⟨_,rfl,z38 _⟩
 ·rename_i hk;rw [if_neg hk];injection h with ha hk2;subst ha hk2;exact ⟨_,rfl,z38 _⟩
theorem z42 (R:Kin toks T o) (mark:Txt): ∀f k,Go2 o (y07 (y3r false)) (y3y toks mark f k) (y3y T mark f (o+k))
 |0,k=>fun a k' h=>by cases h
 |f+1,k=>fun a k' h=>by
  rw [y3y] at h ⊢
  cases ht:toks[k]? with
  |none=>rw [ht] at h;cases h
  |some t=>
   obtain ⟨t',ht',h1,h2,h3⟩:=R.get _ _ ht;rw [ht] at h;rw [ht',R.next];dsimp only at h ⊢
   cases hu:toks[y0g toks.length k]? with
   |none=>rw [hu] at h;cases h
   |some u=>
    obtain ⟨u',hu',g1,g2,g3⟩:=R.get _ _ hu;rw [hu] at h;rw [hu'];dsimp only at h ⊢;rw [y1r g1 g2]
    have hn:y3r false (y1c t) (y1c t')=true:=by simp [y3r,y1c,h2]
    split at h
    ·rename_i hm;rw [if_pos hm]
     cases hq:y3y toks mark f (y0g toks.length k+1) with
     |none=>rw [hq] at h;cases h
     |some q=>
      rw [hq] at h;injection h with h;injection h with ha hk;subst ha hk;obtain ⟨b,hb,he⟩:=z42 R mark f (y0g toks.length k+1) q.1 q.2 hq;rw [←Nat.add_assoc] at hb;rw [hb];exact ⟨_,rfl,by simp [y07,hn,he]⟩
    ·rename_i hm;rw [if_neg hm];injection h with h;injection h with ha hk;subst ha hk;exact ⟨_,rfl,by simp [y07,hn]⟩
theorem z6l (R:Kin toks T o) (mark:Txt) (f k:Nat):Go2 o (y07 (y3r false)) (y35 toks mark f k) (y35 T mark f (o+k)):=fun a k' h=>by
 unfold y35 at h ⊢
 cases ht:toks[k]? with
 |none=>rw [ht] at h;cases h
 |some t=>
  obtain ⟨t',ht',h1,h2,h3⟩:=R.get _ _ ht;rw [ht] at h;rw [ht'];dsimp only at h ⊢;rw [y1r h1 h2];split at h
  ·rename_i hm;rw [if_pos hm];exact z42 R mark f (k+1) a k' h
  ·rename_i hm;rw [if_neg hm];exact z42 R mark f k a k' h
def eqTy (a b:Txt×Txt):Bool:=a.1==b.1&&a.2==b.2
theorem x5h (R:Kin toks T o) (r:Txt×Txt) (k:Nat):Go2 o eqTy (z2j toks r k) (z2j T r (o+k)):=fun a k' h=>by
 unfold z2j at h ⊢;split at h
 ·rename_i hl;rw [if_pos hl]
  cases ht:toks[k]? with
  |none=>rw [ht] at h;cases h
  |some t=>
   obtain ⟨t',ht',h1,h2,h3⟩:=R.get _ _ ht;rw [ht] at h;rw [ht'];dsimp only at h ⊢;rw [y1r h1 h2];split at h
   ·rename_i hm;rw [if_pos hm];injection h with h;injection h with ha hk;subst ha hk;exact ⟨_,rfl,by simp [eqTy]⟩
   ·rename_i hm;rw [if_neg hm];injection h with h;injection h with ha hk;subst ha hk;exact ⟨_,rfl,by simp [eqTy]⟩
 ·cases h
theorem x28 {a b:Txt×Txt} (h:eqTy a b=true):b=a:=by
 obtain ⟨a1,a2⟩:=a;obtain ⟨b1,b2⟩:=b;simp only [eqTy,Qao,Qa7] at h;rw [h.1,h.2]
theorem x29 (R:Kin toks T o): ∀f k,Go2 o eqTy (typF toks f k) (typF T f (o+k))
 |0,k=>fun a k' h=>by cases h
 |f+1,k=>fun a k' h=>by
  rw [typF] at h ⊢
  cases ht:toks[k]? with
  |none=>rw [ht] at h;cases h
  |some t=>
   obtain ⟨t',ht',h1,h2,h3⟩:=R.get _ _ ht;rw [ht] at h;rw [ht'];dsimp only at h ⊢;rw [y1r h1 h2];split at h
   ·rename_i hm;rw [if_pos hm]
    cases hq:typF toks f (k+1) with
    |none=>rw [hq] at h;cases h
    |some q=>
     rw [hq] at h;obtain ⟨b,hb,he⟩:=x29 R f (k+1) q.1 q.2 hq;obtain rfl:=x28 he;rw [←Nat.add_assoc] at hb;rw [hb];dsimp only at h ⊢
     cases hu:toks[q.2]? with
     |none=>rw [hu] at h;cases h
     |some u=>
      obtain ⟨u',hu',g1,g2,g3⟩:=R.get _ _ hu;rw [hu] at h;rw [hu'];dsimp only at h ⊢;rw [y1r g1 g2];split at h
      ·rename_i hl;rw [if_pos hl]
       have e:(if isF u [93]=true then o+q.2+1 else o+q.2)=o+(if isF u [93]=true then q.2+1 else q.2):=by split<;>rfl
       rw [e];exact x5h R _ _ a k' h
      ·cases h
   ·rename_i hm;rw [if_neg hm,R.next,h2];exact x5h R _ _ a k' h
theorem q6q {t t':TokD} (h:t'.text=t.text):z65 t'=z65 t:=by unfold z65;rw [h]
theorem x5i (R:Kin toks T o) {g g':Nat→Option (LitD×Nat)} (hg: ∀k,Go2 o (y5y false) (g k) (g' (o+k))): ∀f k,Go2 o (eqLits false) (y4n toks g f k) (y4n T g' f (o+k))
 |0,k=>fun a k' h=>by cases h
 |f+1,k=>fun a k' h=>by
  simp only [y4n,Qag] at h;obtain ⟨t,ht,h⟩:=h;obtain ⟨t',ht',h1,h2,h3⟩:=R.get _ _ ht;rw [y4n,ht',Option.bind_some,y1r h1 h2];split at h
  ·rename_i hm;rw [if_pos hm];injection h with h;injection h with ha hk;subst ha hk;exact ⟨_,rfl,by simp [eqLits,eqPairs,y07]⟩
  ·rename_i hm;rw [if_neg hm];simp only [Qag] at h;obtain ⟨q,hq,r,hr,h⟩:=h;injection h with h;injection h with ha hk;subst ha hk;obtain ⟨b,hb,he⟩:=hg k q.1 q.2 hq;obtain ⟨c,hc,hd⟩:=x5i R hg f q.2 r.1 r.2 hr;rw [hb,Option.bind_some,hc,Option.bind_some];exact ⟨_,rfl,by simp [eqLits,he,hd]⟩
theorem z44 (R:Kin toks T o) (cl:Txt) {g g':Nat→Option (LitD×Nat)} (hg: ∀k,Go2 o (y5y false) (g k) (g' (o+k))): ∀f k,Go2 o (eqPairs false) (y1o toks cl g f k) (y1o T cl g' f (o+k))
 |0,k=>fun a k' h=>by cases h
 |f+1,k=>fun a k' h=>by
  simp only [y1o,Qag] at h;obtain ⟨t,ht,h⟩:=h;obtain ⟨t',ht',h1,h2,h3⟩:=R.get _ _ ht;rw [y1o,ht',Option.bind_some,y1r h1 h2,R.next];split at h
  ·rename_i hm;rw [if_pos hm];injection h with h;injection h with ha hk;subst ha hk;exact ⟨_,rfl,by simp [eqLits,eqPairs,y07]⟩
  ·rename_i hm;rw [if_neg hm];simp only [Qag] at h;obtain ⟨u,hu,q,hq,r,hr,h⟩:=h;obtain ⟨u',hu',g1,g2,g3⟩:=R.get _ _ hu;injection h with h;injection h with ha hk;subst ha hk;obtain ⟨b,hb,he⟩:=hg _ q.1 q.2 hq;obtain ⟨c,hc,hd⟩:=z44 R cl hg f q.2 r.1 r.2 hr
   have e:(if isF u [58]=true then o+y0g toks.length k+1 else o+y0g toks.length k)=o+(if isF u [58]=true then y0g toks.length k+1 else y0g toks.length k):=by split<;>rfl
   rw [hu',Option.bind_some,y1r g1 g2,e,hb,Option.bind_some,hc,Option.bind_some];exact ⟨_,rfl,by simp [eqPairs,eqPair,h2,he,hd]⟩
theorem x3a (R:Kin toks T o) (L:Nat): ∀f k,Go2 o (y5y false) (litF toks L f k) (litF T L f (o+k))
 |0,k=>fun a k' h=>by cases h
 |f+1,k=>fun a k' h=>by
  simp only [litF,Qag] at h;obtain ⟨t,ht,h⟩:=h;obtain ⟨t',ht',h1,h2,h3⟩:=R.get _ _ ht;rw [litF,ht',Option.bind_some,h1,h2,h3,R.next,q6q h2];have hg:=fun k=>x3a R L f k;by_cases c3:t.kind=3
  ·rw [if_pos c3] at h ⊢
   injection h with h;injection h with ha hk;subst ha hk
   exact ⟨_,rfl,by simp [y5y,eqLits,eqPairs]⟩
  rw [if_neg c3] at h ⊢;by_cases c4:t.kind=4
  ·rw [if_pos c4] at h ⊢
   injection h with h;injection h with ha hk;subst ha hk
   exact ⟨_,rfl,by simp [y5y,eqLits,eqPairs]⟩
  rw [if_neg c4] at h ⊢;by_cases c5:t.kind=5
  ·rw [if_pos c5] at h ⊢
   injection h with h;injection h with ha hk;subst ha hk
   exact ⟨_,rfl,by simp [y5y,eqLits,eqPairs]⟩
  rw [if_neg c5] at h ⊢;by_cases c6:t.kind=6∨t.kind=7
  ·rw [if_pos c6] at h ⊢
   injection h with h;injection h with ha hk;subst ha hk
   exact ⟨_,rfl,by simp [y5y,eqLits,eqPairs]⟩
  rw [if_neg c6] at h ⊢;by_cases c8:t.text=[91]
  ·rw [if_pos c8] at h ⊢;obtain ⟨r,hr,h⟩:=Qag.1 h
   injection h with h;injection h with ha hk;subst ha hk
   obtain ⟨c,hc,hd⟩:=x5i R hg L _ r.1 r.2 hr;rw [hc,Option.bind_some];exact ⟨_,rfl,by simp [y5y,eqPairs,hd]⟩
  ·rw [if_neg c8] at h ⊢;obtain ⟨r,hr,h⟩:=Qag.1 h
   injection h with h;injection h with ha hk;subst ha hk
   obtain ⟨c,hc,hd⟩:=z44 R [125] hg L _ r.1 r.2 hr;rw [hc,Option.bind_some];exact ⟨_,rfl,by simp [y5y,eqLits,hd]⟩
theorem q6r (R:Kin toks T o) (L f k:Nat):Go2 o (eqPairs false) (z1e toks L f k) (z1e T L f (o+k)):=fun a k' h=>by
 simp only [z1e,Qag] at h;obtain ⟨t,ht,h⟩:=h;obtain ⟨t',ht',h1,h2,h3⟩:=R.get _ _ ht;rw [z1e,ht',Option.bind_some,y1r h1 h2];split at h
 ·rename_i hm;rw [if_pos hm];exact z44 R [41] (fun k=>x3a R L f k) L (k+1) a k' h
 ·rename_i hm;rw [if_neg hm]
  injection h with h;injection h with ha hk;subst ha hk
  exact ⟨_,rfl,by simp [eqLits,eqPairs,y07]⟩
theorem y4f (R:Kin toks T o) (L f:Nat): ∀fu k,Go2 o (y07 (z36 false)) (y3p toks L f fu k) (y3p T L f fu (o+k))
 |0,k=>fun a k' h=>by cases h
 |fu+1,k=>fun a k' h=>by
  simp only [y3p,Qag] at h;obtain ⟨t,ht,h⟩:=h;obtain ⟨t',ht',h1,h2,h3⟩:=R.get _ _ ht;rw [y3p,ht',Option.bind_some,y1r h1 h2,R.next,R.next];split at h
  ·rename_i hm;rw [if_pos hm];simp only [Qag] at h;obtain ⟨u,hu,q,hq,r,hr,h⟩:=h;obtain ⟨u',hu',g1,g2,g3⟩:=R.get _ _ hu
   injection h with h;injection h with ha hk;subst ha hk
   obtain ⟨b,hb,he⟩:=q6r R L f _ q.1 q.2 hq;obtain ⟨c,hc,hd⟩:=y4f R L f fu q.2 r.1 r.2 hr;rw [hu',Option.bind_some,hb,Option.bind_some,hc,Option.bind_some];exact ⟨_,rfl,by simp [y07,z36,g2,he,hd]⟩
  ·rename_i hm;rw [if_neg hm]
   injection h with h;injection h with ha hk;subst ha hk
   exact ⟨_,rfl,by simp [eqLits,eqPairs,y07]⟩
theorem z47 (o a b:Nat) (c:Prop) [Decidable c]:(if c then o+a else o+b)=o+(if c then a else b):=by split<;>rfl
theorem q3d (R:Kin toks T o) (L f k:Nat):Go2 o (y4x false) (y5q toks L f k) (y5q T L f (o+k)):=fun a k' h=>by
 simp only [y5q,Qag] at h;obtain ⟨p,hp,t0,ht0,t1,ht1,r,hr,t3,ht3,q,hq,s,hs,h⟩:=h;obtain ⟨p',hp',hpe⟩:=z04 R k p.1 p.2 hp;obtain ⟨u0,hu0,a1,a2,a3⟩:=R.get _ _ ht0;obtain ⟨u1,hu1,b1,b2,b3⟩:=R.get _ _ ht1;obtain ⟨r',hr',hre⟩:=x29 R f _ r.1 r.2 hr;obtain ⟨u3,hu3,c1,c2,c3⟩:=R.get _ _ ht3;obtain ⟨s',hs',hse⟩:=y4f R L f L _ s.1 s.2 hs;obtain rfl:=x28 hre
 injection h with h;injection h with ha hk;subst ha hk
 have hq2: ∃q',(if isF t3 [61]=true then litF T L f (o+r.2+1) else some (litZ,o+r.2))=some (q',o+q.2)∧y5y false q.1 q'=true:=by
  split at hq
  ·rename_i hm;rw [if_pos hm];exact x3a R L f (r.2+1) q.1 q.2 hq
  ·rename_i hm;rw [if_neg hm];injection hq with hq;subst hq;exact ⟨_,rfl,z1h false _⟩
 obtain ⟨q',hq',hqe⟩:=hq2;refine ⟨⟨p',u0.text,r.1,isF u3 [61],q',s',u0.line,u0.col⟩,?_,?_⟩
 ·unfold y5q;rw [hp',Option.bind_some];dsimp only;rw [hu0,Option.bind_some,R.next,hu1,Option.bind_some,y1r b1 b2,show ∀x:Nat,o+x+1=o+(x+1) from fun x=>rfl,z47,hr',Option.bind_some];dsimp only;rw [hu3,Option.bind_some,y1r c1 c2,hq',Option.bind_some];unfold y2c;dsimp only;rw [hs',Option.bind_some]
 ·simp [y4x,hpe,a2,hqe,hse,y1r c1 c2]
theorem z6m (R:Kin toks T o) (too:Txt) (L f:Nat): ∀fu k,Go2 o (y07 (y4x false)) (y1v toks too L f fu k) (y1v T too L f fu (o+k))
 |0,k=>fun a k' h=>by cases h
 |fu+1,k=>fun a k' h=>by
  simp only [y1v,Qag] at h;obtain ⟨t,ht,h⟩:=h;obtain ⟨t',ht',h1,h2,h3⟩:=R.get _ _ ht;rw [y1v,ht',Option.bind_some,y1r h1 h2];split at h
  ·rename_i hm;rw [if_pos hm]
   injection h with h;injection h with ha hk;subst ha hk
   exact ⟨_,rfl,by simp [eqLits,eqPairs,y07]⟩
  ·rename_i hm;rw [if_neg hm];simp only [Qag] at h;obtain ⟨q,hq,r,hr,h⟩:=h
   injection h with h;injection h with ha hk;subst ha hk
   obtain ⟨b,hb,he⟩:=q3d R L f k q.1 q.2 hq;obtain ⟨c,hc,hd⟩:=z6m R too L f fu q.2 r.1 r.2 hr;rw [hb,Option.bind_some,hc,Option.bind_some];exact ⟨_,rfl,by simp [y07,he,hd]⟩
theorem y9z (R:Kin toks T o) (fr too:Txt) (L f k:Nat):Go2 o (y07 (y4x false)) (y1x toks fr too L f k) (y1x T fr too L f (o+k)):=fun a k' h=>by
 simp only [y1x,Qag] at h;obtain ⟨t,ht,h⟩:=h;obtain ⟨t',ht',h1,h2,h3⟩:=R.get _ _ ht;rw [y1x,ht',Option.bind_some,y1r h1 h2];split at h
 ·rename_i hm;rw [if_pos hm];exact z6m R too L f L (k+1) a k' h
 ·rename_i hm;rw [if_neg hm]
  injection h with h;injection h with ha hk;subst ha hk
  exact ⟨_,rfl,by simp [eqLits,eqPairs,y07]⟩
theorem q3e (R:Kin toks T o) (L f k:Nat):Go2 o (y68 false) (y2y toks L f k) (y2y T L f (o+k)):=fun a k' h=>by
 simp only [y2y,Qag] at h;obtain ⟨p,hp,t0,ht0,r,hr,t2,ht2,q,hq,s,hs,h⟩:=h;obtain ⟨p',hp',hpe⟩:=z04 R k p.1 p.2 hp;obtain ⟨u0,hu0,a1,a2,a3⟩:=R.get _ _ ht0;obtain ⟨r',hr',hre⟩:=y9z R [40] [41] L f _ r.1 r.2 hr;obtain ⟨u2,hu2,b1,b2,b3⟩:=R.get _ _ ht2;obtain ⟨q',hq',hqe⟩:=x29 R f _ q.1 q.2 hq;obtain ⟨s',hs',hse⟩:=y4f R L f L _ s.1 s.2 hs;obtain rfl:=x28 hqe
 injection h with h;injection h with ha hk;subst ha hk
 refine ⟨⟨p',u0.text,r',q.1,s',u0.line,u0.col⟩,?_,by simp [y68,hpe,a2,hre,hse]⟩;unfold y2y;rw [hp',Option.bind_some];dsimp only;rw [hu0,Option.bind_some,R.next,hr',Option.bind_some];dsimp only;rw [hu2,Option.bind_some,y1r b1 b2,show ∀x:Nat,o+x+1=o+(x+1) from fun x=>rfl,z47,hq',Option.bind_some];unfold y2c;dsimp only;rw [hs',Option.bind_some]
theorem q3f (R:Kin toks T o) (L f k:Nat):Go2 o (y66 false) (y3q toks L f k) (y3q T L f (o+k)):=fun a k' h=>by
 simp only [y3q,Qag] at h;obtain ⟨p,hp,t0,ht0,s,hs,h⟩:=h;obtain ⟨p',hp',hpe⟩:=z04 R k p.1 p.2 hp;obtain ⟨u0,hu0,a1,a2,a3⟩:=R.get _ _ ht0;obtain ⟨s',hs',hse⟩:=y4f R L f L _ s.1 s.2 hs
 injection h with h;injection h with ha hk;subst ha hk
 refine ⟨⟨p',u0.text,s',u0.line,u0.col⟩,?_,by simp [y66,hpe,a2,hse]⟩;unfold y3q;rw [hp',Option.bind_some];dsimp only;rw [hu0,Option.bind_some,R.next];unfold y2c;rw [hs',Option.bind_some]
theorem q6s (R:Kin toks T o) (k:Nat):Go2 o (z0n false) (y6y toks k) (y6y T (o+k)):=fun a k' h=>by
 simp only [y6y,Qag] at h;obtain ⟨p,hp,t0,ht0,t1,ht1,t2,ht2,h⟩:=h;obtain ⟨p',hp',hpe⟩:=z04 R k p.1 p.2 hp;obtain ⟨u0,hu0,a1,a2,a3⟩:=R.get _ _ ht0;obtain ⟨u1,hu1,b1,b2,b3⟩:=R.get _ _ ht1;obtain ⟨u2,hu2,c1,c2,c3⟩:=R.get _ _ ht2
 injection h with h;injection h with ha hk;subst ha hk
 refine ⟨⟨opF u0.text,u2.text,u0.line,u0.col⟩,?_,by simp [z0n,a2,c2]⟩;unfold y6y;rw [hp',Option.bind_some];dsimp only;rw [hu0,Option.bind_some,R.next,hu1,Option.bind_some,y1r b1 b2,show ∀x:Nat,o+x+1=o+(x+1) from fun x=>rfl,z47,hu2,Option.bind_some,R.next]
theorem z48 {α:Type} {eq:α→α→Bool} (R:Kin toks T o) {e e':Nat→Option (α×Nat)} (he: ∀k,Go2 o eq (e k) (e' (o+k))): ∀fu k,Go2 o (y07 eq) (y2p toks e fu k) (y2p T e' fu (o+k))
 |0,k=>fun a k' h=>by cases h
 |fu+1,k=>fun a k' h=>by
  simp only [y2p,Qag] at h;obtain ⟨t,ht,h⟩:=h;obtain ⟨t',ht',h1,h2,h3⟩:=R.get _ _ ht;rw [y2p,ht',Option.bind_some,y1r h1 h2];split at h
  ·rename_i hm;rw [if_pos hm]
   injection h with h;injection h with ha hk;subst ha hk
   exact ⟨_,rfl,rfl⟩
  ·rename_i hm;rw [if_neg hm];simp only [Qag] at h;obtain ⟨q,hq,r,hr,h⟩:=h
   injection h with h;injection h with ha hk;subst ha hk
   obtain ⟨b,hb,hbe⟩:=he k q.1 q.2 hq;obtain ⟨c,hc,hd⟩:=z48 R he fu q.2 r.1 r.2 hr;rw [hb,Option.bind_some,hc,Option.bind_some];exact ⟨_,rfl,by simp [y07,hbe,hd]⟩
theorem z49 {α:Type} {eq:α→α→Bool} (R:Kin toks T o) {e e':Nat→Option (α×Nat)} (he: ∀k,Go2 o eq (e k) (e' (o+k))) (L k:Nat):Go2 o (y07 eq) (y15 toks e L k) (y15 T e' L (o+k)):=fun a k' h=>by
 simp only [y15,Qag] at h;obtain ⟨t,ht,h⟩:=h;obtain ⟨t',ht',h1,h2,h3⟩:=R.get _ _ ht;rw [y15,ht',Option.bind_some,y1r h1 h2];split at h
 ·rename_i hm;rw [if_pos hm];exact z48 R he L (k+1) a k' h
 ·rename_i hm;rw [if_neg hm]
  injection h with h;injection h with ha hk;subst ha hk
  exact ⟨_,rfl,rfl⟩
theorem q3g (R:Kin toks T o) (mark sep:Txt) (L k:Nat):Go2 o (y07 (y3r false)) (optF toks mark sep L k) (optF T mark sep L (o+k)):=fun a k' h=>by
 simp only [optF,Qag] at h;obtain ⟨t,ht,h⟩:=h;obtain ⟨t',ht',h1,h2,h3⟩:=R.get _ _ ht;rw [optF,ht',Option.bind_some,y1r h1 h2];split at h
 ·rename_i hm;rw [if_pos hm];exact z6l R sep L (k+1) a k' h
 ·rename_i hm;rw [if_neg hm]
  injection h with h;injection h with ha hk;subst ha hk
  exact ⟨_,rfl,rfl⟩
structure HdR (o:Nat) (h h':NoteD×Bool×TokD×Nat):Prop where
 n:y4q h.1 h'.1=true
 e:h'.2.1=h.2.1
 t:h'.2.2.1.text=h.2.2.1.text
 k:h'.2.2.2=o+h.2.2.2
theorem q6t (R:Kin toks T o) (k:Nat) {h:NoteD×Bool×TokD×Nat} (hh:y36 toks k=some h): ∃h',y36 T (o+k)=some h'∧HdR o h h':=by
 simp only [y36,Qag] at hh;obtain ⟨p,hp,t0,ht0,t1,ht1,hh⟩:=hh;obtain ⟨p',hp',hpe⟩:=z04 R k p.1 p.2 hp;obtain ⟨u0,hu0,a1,a2,a3⟩:=R.get _ _ ht0;obtain ⟨u1,hu1,b1,b2,b3⟩:=R.get _ _ ht1;injection hh with hh;subst hh;refine ⟨(p',isF t0 [101,120,116,101,110,100],u1,o+y0g toks.length (if isF t0 [101,120,116,101,110,100]=true then p.2+1 else p.2)),?_,⟨hpe,rfl,b2,rfl⟩⟩;unfold y36;rw [hp',Option.bind_some];dsimp only;rw [hu0,Option.bind_some,y1r a1 a2,show ∀x:Nat,o+x+1=o+(x+1) from fun x=>rfl,z47,hu1,Option.bind_some,R.next]
section
variable {L f : Nat} {hd hd' : NoteD × Bool × TokD × Nat}
theorem x8b (R:Kin toks T o) (H:HdR o hd hd'):Go2 o (y37 false) (y3c toks L f hd) (y3c T L f hd'):=fun a k' h=>by
 simp only [y3c,Qag] at h;obtain ⟨d,hd1,r,hr,h⟩:=h;obtain ⟨d',hd2,hde⟩:=y4f R L f L _ d.1 d.2 hd1;obtain ⟨r',hr2,hre⟩:=z49 R (fun k=>q6s R k) L _ r.1 r.2 hr
 injection h with h;injection h with ha hk;subst ha hk
 unfold y3c y2c;rw [H.k,hd2,Option.bind_some];dsimp only;rw [hr2,Option.bind_some];exact ⟨_,rfl,by simp [y37,y07,H.e,H.n,hde,hre]⟩
theorem x8c (R:Kin toks T o) (H:HdR o hd hd'):Go2 o (y37 false) (y3d toks L f hd) (y3d T L f hd'):=fun a k' h=>by
 simp only [y3d,Qag] at h;obtain ⟨t,ht,d,hd1,h⟩:=h;obtain ⟨t',ht',a1,a2,a3⟩:=R.get _ _ ht;obtain ⟨d',hd2,hde⟩:=y4f R L f L _ d.1 d.2 hd1
 injection h with h;injection h with ha hk;subst ha hk
 unfold y3d y2c;rw [H.k,ht',Option.bind_some,R.next,hd2,Option.bind_some];exact ⟨_,rfl,by simp [y37,y07,H.e,H.n,hde,a2]⟩
theorem z6n (kind:Int) (R:Kin toks T o) (H:HdR o hd hd'):Go2 o (y37 false) (y2d kind toks L f hd) (y2d kind T L f hd'):=fun a k' h=>by
 simp only [y2d,Qag] at h;obtain ⟨t,ht,i,hi,d,hd1,r,hr,h⟩:=h;obtain ⟨t',ht',a1,a2,a3⟩:=R.get _ _ ht;obtain ⟨i',hi2,hie⟩:=q3g R _ _ L _ i.1 i.2 hi;obtain ⟨d',hd2,hde⟩:=y4f R L f L _ d.1 d.2 hd1;obtain ⟨r',hr2,hre⟩:=z49 R (fun k=>q3e R L f k) L _ r.1 r.2 hr
 injection h with h;injection h with ha hk;subst ha hk
 unfold y2d y2c;rw [H.k,ht',Option.bind_some,R.next,hi2,Option.bind_some];dsimp only;rw [hd2,Option.bind_some];dsimp only;rw [hr2,Option.bind_some];exact ⟨_,rfl,by simp [y37,y07,H.e,H.n,hde,hie,hre,a2]⟩
theorem q3h (R:Kin toks T o) (H:HdR o hd hd'):Go2 o (y37 false) (y5h toks L f hd) (y5h T L f hd'):=fun a k' h=>by
 simp only [y5h,Qag] at h;obtain ⟨t,ht,d,hd1,m,hm,h⟩:=h;obtain ⟨t',ht',a1,a2,a3⟩:=R.get _ _ ht;obtain ⟨d',hd2,hde⟩:=y4f R L f L _ d.1 d.2 hd1;obtain ⟨m',hm2,hme⟩:=q3g R _ _ L _ m.1 m.2 hm
 injection h with h;injection h with ha hk;subst ha hk
 unfold y5h y2c;rw [H.k,ht',Option.bind_some,R.next,hd2,Option.bind_some];dsimp only;rw [hm2,Option.bind_some];exact ⟨_,rfl,by simp [y37,y07,H.e,H.n,hde,hme,a2]⟩
theorem q6u (R:Kin toks T o) (H:HdR o hd hd'):Go2 o (y37 false) (y9k toks L f hd) (y9k T L f hd'):=fun a k' h=>by
 simp only [y9k,Qag] at h;obtain ⟨t,ht,d,hd1,r,hr,h⟩:=h;obtain ⟨t',ht',a1,a2,a3⟩:=R.get _ _ ht;obtain ⟨d',hd2,hde⟩:=y4f R L f L _ d.1 d.2 hd1;obtain ⟨r',hr2,hre⟩:=z49 R (fun k=>q3f R L f k) L _ r.1 r.2 hr
 injection h with h;injection h with ha hk;subst ha hk
 unfold y9k y2c;rw [H.k,ht',Option.bind_some,R.next,hd2,Option.bind_some];dsimp only;rw [hr2,Option.bind_some];exact ⟨_,rfl,by simp [y37,y07,H.e,H.n,hde,hre,a2]⟩
theorem q3i (R:Kin toks T o) (H:HdR o hd hd'):Go2 o (y37 false) (y5i toks L f hd) (y5i T L f hd'):=fun a k' h=>by
 simp only [y5i,Qag] at h;obtain ⟨t,ht,d,hd1,r,hr,h⟩:=h;obtain ⟨t',ht',a1,a2,a3⟩:=R.get _ _ ht;obtain ⟨d',hd2,hde⟩:=y4f R L f L _ d.1 d.2 hd1;obtain ⟨r',hr2,hre⟩:=y9z R [123] [125] L f _ r.1 r.2 hr
 injection h with h;injection h with ha hk;subst ha hk
 unfold y5i y2c;rw [H.k,ht',Option.bind_some,R.next,hd2,Option.bind_some];dsimp only;rw [hr2,Option.bind_some];exact ⟨_,rfl,by simp [y37,y07,H.e,H.n,hde,hre,a2]⟩
theorem q90 (R:Kin toks T o) (H:HdR o hd hd'):Go2 o (y37 false) (dirF toks L f hd) (dirF T L f hd'):=fun a k' h=>by
 simp only [dirF,Qag] at h;obtain ⟨t2,ht2,t3,ht3,i,hi,t5,ht5,t6,ht6,p,hp,h⟩:=h;obtain ⟨u2,hu2,a1,a2,a3⟩:=R.get _ _ ht2;obtain ⟨u3,hu3,b1,b2,b3⟩:=R.get _ _ ht3;obtain ⟨i',hi2,hie⟩:=y9z R [40] [41] L f _ i.1 i.2 hi;obtain ⟨u5,hu5,c1,c2,c3⟩:=R.get _ _ ht5;obtain ⟨u6,hu6,d1,d2,d3⟩:=R.get _ _ ht6;obtain ⟨p',hp2,hpe⟩:=z6l R [124] L _ p.1 p.2 hp
 injection h with h;injection h with ha hk;subst ha hk
 have ea: ∀x:Nat,o+x+1=o+(x+1):=fun x=>rfl;unfold dirF;rw [H.k,hu2,Option.bind_some,y1r a1 a2,ea,z47,hu3,Option.bind_some,R.next,hi2,Option.bind_some];dsimp only;rw [hu5,Option.bind_some,y1r c1 c2,ea,z47,hu6,Option.bind_some,y1r d1 d2,ea,z47,hp2,Option.bind_some];exact ⟨_,rfl,by simp [y37,y07,H.e,H.n,hie,hpe,b2]⟩
theorem q6v (R:Kin toks T o) (H:HdR o hd hd'):Go2 o (y37 false) (y3v toks L f hd) (y3v T L f hd'):=fun a k' h=>by
 unfold y3v at h ⊢;rw [H.t];split at h
 ·exact x8b R H a k' h
 ·exact x8c R H a k' h
 ·exact z6n 3 R H a k' h
 ·exact z6n 4 R H a k' h
 ·exact q3h R H a k' h
 ·exact q6u R H a k' h
 ·exact q3i R H a k' h
 ·exact q90 R H a k' h
 ·cases h
theorem q91 (R:Kin toks T o) (k:Nat):Go2 o (y37 false) (defF toks L f k) (defF T L f (o+k)):=fun a k' h=>by
 simp only [defF,Qag] at h;obtain ⟨hd,h1,h⟩:=h;obtain ⟨hd',h2,H⟩:=q6t R k h1;unfold defF;rw [h2,Option.bind_some];exact q6v R H a k' h
end
end
mutual
def x8d:LitD→LitD
 | .mk k t b is fs l c=>.mk k t b (erLits is) (erPairs fs) 0 0
def erLits:List LitD→List LitD
 |[]=>[]
 |d::r=>x8d d::erLits r
def erPair:PairD→PairD
 | .mk n v l c=>.mk n (x8d v) 0 0
def erPairs:List PairD→List PairD
 |[]=>[]
 |d::r=>erPair d::erPairs r
end
mutual
theorem q3j: ∀a b:LitD,y5y false a b=true↔x8d a=x8d b
 | .mk k t b is fs l c,.mk k2 t2 b2 is2 fs2 l2 c2=>by
  have h1:=er_lits is is2;have h2:=er_pairs fs fs2;simp only [y5y,x8d,Qao,Qa7,Bool.not_false,Bool.true_or,LitD.mk.injEq,h1,h2,and_true,and_assoc]
theorem er_lits: ∀a b:List LitD,eqLits false a b=true↔erLits a=erLits b
 |[],[]=>by simp [eqLits,erLits]
 |[],e::s=>by simp [eqLits,erLits]
 |d::r,[]=>by simp [eqLits,erLits]
 |d::r,e::s=>by
  have h1:=q3j d e;have h2:=er_lits r s;simp only [eqLits,erLits,Qao,List.cons.injEq,h1,h2]
theorem er_pair: ∀a b:PairD,eqPair false a b=true↔erPair a=erPair b
 | .mk n v l c,.mk n2 v2 l2 c2=>by
  have h1:=q3j v v2;simp only [eqPair,erPair,Qao,Qa7,Bool.not_false,Bool.true_or,PairD.mk.injEq,h1,and_true,and_assoc]
theorem er_pairs: ∀a b:List PairD,eqPairs false a b=true↔erPairs a=erPairs b
 |[],[]=>by simp [eqPairs,erPairs]
 |[],e::s=>by simp [eqPairs,erPairs]
 |d::r,[]=>by simp [eqPairs,erPairs]
 |d::r,e::s=>by
  have h1:=er_pair d e;have h2:=er_pairs r s;simp only [eqPairs,erPairs,Qao,List.cons.injEq,h1,h2]
end
theorem y5u {α:Type} {f:α→α→Bool} {g:α→α} (h: ∀a b,f a b=true↔g a=g b): ∀l m:List α,y07 f l m=true↔l.map g=m.map g
 |[],[]=>by simp [y07]
 |[],e::s=>by simp [y07]
 |d::r,[]=>by simp [y07]
 |d::r,e::s=>by
  have h1:=h d e;have h2:=y5u h r s;simp only [y07,Qao,List.map_cons,List.cons.injEq,h1,h2]
def x3b (d:DirD):DirD:=⟨d.name,erPairs d.args,0,0⟩
def y5p (d:NamedD):NamedD:=⟨d.name,0,0⟩
def x01 (d:RootD):RootD:=⟨d.op,d.type,0,0⟩
def z8f (d:ValueD):ValueD:=⟨d.note,d.name,d.dirs.map x3b,0,0⟩
def z5a (d:InputD):InputD:=⟨d.note,d.name,d.ty,d.has,x8d d.lit,d.dirs.map x3b,0,0⟩
def z8g (d:FieldD):FieldD:=⟨d.note,d.name,d.args.map z5a,d.ty,d.dirs.map x3b,0,0⟩
def y1e (d:DefD):DefD:=⟨d.kind,d.ext,d.note,d.name,d.ifaces.map y5p,d.dirs.map x3b,d.fields.map z8g,d.inputs.map z5a,d.members.map y5p,d.values.map z8f,d.roots.map x01,d.rep,d.places.map y5p,0,0⟩
theorem z8h (a b:NoteD):y4q a b=true↔a=b:=by
 obtain ⟨h,b1,t⟩:=a;obtain ⟨h2,b2,t2⟩:=b;simp only [y4q,Qao,Qa7,NoteD.mk.injEq,and_assoc]
theorem x5j (a b:DirD):z36 false a b=true↔x3b a=x3b b:=by
 have h1:=er_pairs a.args b.args;simp only [z36,x3b,Qao,Qa7,Bool.not_false,Bool.true_or,DirD.mk.injEq,h1,and_true]
theorem z8i (a b:NamedD):y3r false a b=true↔y5p a=y5p b:=by
 simp only [y3r,y5p,Qao,Qa7,Bool.not_false,Bool.true_or,NamedD.mk.injEq,and_true]
theorem q92 (a b:RootD):z0n false a b=true↔x01 a=x01 b:=by
 simp only [z0n,x01,Qao,Qa7,Bool.not_false,Bool.true_or,RootD.mk.injEq,and_true]
theorem q6w (a b:ValueD):y66 false a b=true↔z8f a=z8f b:=by
 have h1:=y5u x5j a.dirs b.dirs;have h2:=z8h a.note b.note;simp only [y66,z8f,Qao,Qa7,Bool.not_false,Bool.true_or,ValueD.mk.injEq,h1,h2,and_true,and_assoc]
theorem x5k (a b:InputD):y4x false a b=true↔z5a a=z5a b:=by
 have h1:=y5u x5j a.dirs b.dirs;have h2:=z8h a.note b.note;have h3:=q3j a.lit b.lit;have h4:a.ty=b.ty↔a.ty.1=b.ty.1∧a.ty.2=b.ty.2:=Prod.ext_iff;simp only [y4x,z5a,Qao,Qa7,Bool.not_false,Bool.true_or,InputD.mk.injEq,h1,h2,h3,h4,and_true,true_and,and_assoc]
theorem q6x (a b:FieldD):y68 false a b=true↔z8g a=z8g b:=by
 have h1:=y5u x5j a.dirs b.dirs;have h2:=z8h a.note b.note;have h3:=y5u x5k a.args b.args;have h4:a.ty=b.ty↔a.ty.1=b.ty.1∧a.ty.2=b.ty.2:=Prod.ext_iff;simp only [y68,z8g,Qao,Qa7,Bool.not_false,Bool.true_or,FieldD.mk.injEq,h1,h2,h3,h4,and_true,true_and,and_assoc];constructor
 ·rintro ⟨a1,a2,a3,a4,a5,a6⟩;exact ⟨a1,a2,a5,a3,a4,a6⟩
 ·rintro ⟨a1,a2,a5,a3,a4,a6⟩;exact ⟨a1,a2,a3,a4,a5,a6⟩
theorem er_def (a b:DefD):y37 false a b=true↔y1e a=y1e b:=by
 have h0:=z8h a.note b.note;have h1:=y5u z8i a.ifaces b.ifaces;have h2:=y5u z8i a.members b.members;have h3:=y5u z8i a.places b.places;have h4:=y5u q6x a.fields b.fields;have h5:=y5u x5k a.inputs b.inputs;have h6:=y5u q6w a.values b.values;have h7:=y5u q92 a.roots b.roots;have h8:=y5u x5j a.dirs b.dirs;simp only [y37,y1e,Qao,Qa7,Bool.not_false,Bool.true_or,DefD.mk.injEq,h0,h1,h2,h3,h4,h5,h6,h7,h8,and_true,true_and,and_assoc];constructor
 ·rintro ⟨a1,a2,a3,a4,a5,b1,b2,b3,b4,b5,b6,b7,b8⟩;exact ⟨a1,a2,a3,a4,b1,b8,b4,b5,b2,b6,b7,a5,b3⟩
 ·rintro ⟨a1,a2,a3,a4,b1,b8,b4,b5,b2,b6,b7,a5,b3⟩;exact ⟨a1,a2,a3,a4,a5,b1,b2,b3,b4,b5,b6,b7,b8⟩
theorem x3c (a b:List DefD):y07 (y37 false) a b=true↔a.map y1e=b.map y1e:=y5u er_def a b
end Go.Proofs.YtbpgkkoeehopjaaGreat.hp
