/- Part 10 of 17 of a proof: see the last part. -/
import Derived.Test.YtbpgkkoeehopjaaGreatP4
import Derived.Test.YtbpgkkoeehopjaaGreatP9
set_option linter.unusedVariables false
set_option linter.unusedSimpArgs false
namespace Go.Proofs.YtbpgkkoeehopjaaGreat.gram
open tree
set_option maxRecDepth 100000
def Runs (toks:List TokD) (n:Nat) (st:List Txt) (k:Nat) (op:Int):Prop:=runF rulesG nfG bfG toks 200 n st k op=some (0,0,0)
def Alt:List (List Txt×List Txt)→Bool→TokD→(List Txt→Prop)→Prop
 |[],true,_,P=>P []
 |[],false,_,_=>False
 |(F,c)::r,z,t,P=>(fits F t=true∧P c)∨(fits F t=false∧Alt r z t P)
theorem x3d {t:TokD} {P:List Txt→Prop} {z:Bool}: ∀{T:List (List Txt×List Txt)},(∀c,pick t T=some c→P c)→(pick t T=none→z=true∧P [])→Alt T z t P
 |[],h1,h2=>by
  obtain ⟨rfl,h⟩:=h2 rfl;exact h
 |(F,c)::r,h1,h2=>by
  cases hf:fits F t with
  |true=>exact .inl ⟨hf,h1 c (by rw [pick,if_pos hf])⟩
  |false=>
   have he:pick t ((F,c)::r)=pick t r:=by rw [pick,if_neg (by rw [hf];decide)]
   rw [he] at h1 h2;exact .inr ⟨hf,x3d h1 h2⟩
theorem Runs.rule {toks:List TokD} {n k:Nat} {s:Txt} {rest:List Txt} {op:Int} {T:List (List Txt×List Txt)} {z:Bool} (h:Runs toks n (s::rest) k op) (hT:tabG s=some (T,z)) (hs:(decide (s≠[])&&decide (s.length≤1000)&&y4i s)=true):
  ∃m t,n=m+1∧toks[k]?=some t∧Alt T z t (fun c=>Runs toks m (c++rest) k op):=by
 simp only [Qao,decide_eq_true_eq] at hs;unfold Runs at h
 cases n with
 |zero=>cases h
 |succ m=>
  rw [runF] at h
  cases ht:toks[k]? with
  |none=>rw [ht] at h;cases h
  |some t=>
   rw [ht] at h;simp only at h;rw [if_neg (by rintro (h0|h0);exact hs.1.1 h0;have:=hs.1.2;omega),hs.2,if_pos rfl,z5r hT] at h;refine ⟨m,t,rfl,rfl,x3d ?_ ?_⟩
   ·intro c hc;rw [hc] at h;simp only at h;split at h
    ·cases h
    ·exact h
   ·intro hc;rw [hc] at h
    cases z with
    |false=>simp at h
    |true=>
     simp only at h;split at h
     ·cases h
     ·exact ⟨rfl,h⟩
abbrev nDOC:Txt:=[68,79,67]
abbrev z80:Txt:=[68,69,70,83]
abbrev nDEF:Txt:=[68,69,70]
abbrev x1d:Txt:=[66,79,68,89]
abbrev z81:Txt:=[88,66,79,68,89]
abbrev z2p:Txt:=[88,83,67,72,69,77,65]
abbrev y9o:Txt:=[82,79,79,84,83,48]
abbrev y6d:Txt:=[82,79,79,84,83]
abbrev z3z:Txt:=[82,79,79,84,76]
abbrev z82:Txt:=[82,79,79,84]
abbrev y4v:Txt:=[88,79,66,74,69,67,84]
abbrev y5x:Txt:=[73,70,65,67,69,83]
abbrev y6w:Txt:=[73,70,65,67,69,83,49]
abbrev nAMP:Txt:=[65,77,80]
abbrev y9p:Txt:=[73,70,65,67,69,76]
abbrev y3v:Txt:=[70,73,69,76,68,83]
abbrev y6x:Txt:=[70,73,69,76,68,83,49]
abbrev y9q:Txt:=[70,73,69,76,68,76]
abbrev z2b:Txt:=[70,73,69,76,68]
abbrev y9r:Txt:=[70,73,69,76,68,48]
abbrev y7z:Txt:=[73,78,80,85,84,83]
abbrev y5y:Txt:=[86,65,76,85,69,76]
abbrev y9b:Txt:=[86,65,76,85,69]
abbrev y9s:Txt:=[86,65,76,85,69,48]
abbrev z2q:Txt:=[68,69,70,65,85,76,84]
abbrev y4w:Txt:=[77,69,77,66,69,82,83]
abbrev y5h:Txt:=[77,69,77,66,69,82,83,49]
abbrev y6y:Txt:=[77,69,77,66,69,82,76]
abbrev nBAR:Txt:=[66,65,82]
abbrev z1a:Txt:=[88,85,78,73,79,78]
abbrev z0k:Txt:=[67,65,83,69,83]
abbrev y9t:Txt:=[67,65,83,69,83,49]
abbrev z30:Txt:=[67,65,83,69,76]
abbrev z83:Txt:=[67,65,83,69]
abbrev z31:Txt:=[67,65,83,69,48]
abbrev z5s:Txt:=[88,69,78,85,77]
abbrev y6z:Txt:=[66,76,65,78,75,83]
abbrev y60:Txt:=[66,76,65,78,75,83,49]
abbrev z1b:Txt:=[88,73,78,80,85,84]
abbrev z32:Txt:=[82,69,80,69,65,84]
abbrev y5z:Txt:=[80,76,65,67,69,83]
abbrev y1e:Txt:=[68,73,82,83]
abbrev nDIR:Txt:=[68,73,82]
abbrev x8q:Txt:=[65,82,71,83]
abbrev z84:Txt:=[65,82,71,76]
abbrev nARG:Txt:=[65,82,71]
abbrev nLIT:Txt:=[76,73,84]
abbrev x1e:Txt:=[76,73,84,76]
abbrev x1f:Txt:=[79,66,74,76]
abbrev z7e:Txt:=[84,89,80,69]
abbrev z85:Txt:=[84,89,80,69,48]
abbrev x5e:Txt:=[66,65,78,71]
theorem q5s:tabG nDOC=some ([([[46,115,116,114],[39,115,99,104,101,109,97],[39,115,99,97,108,97,114],[39,116,121,112,101],[39,105,110,116,101,114,102,97,99,101],[39,117,110,105,111,110],[39,101,110,117,109],[39,105,110,112,117,116],[39,100,105,114,101,99,116,105,118,101],[39,101,120,116,101,110,100]],[nDEF,z80,[46,101,110,100]])],false):=by kernel_rfl
theorem q7x {toks:List TokD} {n k:Nat} {rest:List Txt} {op:Int} (h:Runs toks n (nDOC::rest) k op): ∃m t,n=m+1∧toks[k]?=some t∧((fits [[46,115,116,114],[39,115,99,104,101,109,97],[39,115,99,97,108,97,114],[39,116,121,112,101],[39,105,110,116,101,114,102,97,99,101],[39,117,110,105,111,110],[39,101,110,117,109],[39,105,110,112,117,116],[39,100,105,114,101,99,116,105,118,101],[39,101,120,116,101,110,100]] t=true∧Runs toks m (nDEF::z80::[46,101,110,100]::rest) k op)∨(fits [[46,115,116,114],[39,115,99,104,101,109,97],[39,115,99,97,108,97,114],[39,116,121,112,101],[39,105,110,116,101,114,102,97,99,101],[39,117,110,105,111,110],[39,101,110,117,109],[39,105,110,112,117,116],[39,100,105,114,101,99,116,105,118,101],[39,101,120,116,101,110,100]] t=false∧(False))):=h.rule q5s (by decide+kernel)
theorem q2s:tabG z80=some ([([[46,115,116,114],[39,115,99,104,101,109,97],[39,115,99,97,108,97,114],[39,116,121,112,101],[39,105,110,116,101,114,102,97,99,101],[39,117,110,105,111,110],[39,101,110,117,109],[39,105,110,112,117,116],[39,100,105,114,101,99,116,105,118,101],[39,101,120,116,101,110,100]],[nDEF,z80]),([],[])],true):=by kernel_rfl
theorem q5t {toks:List TokD} {n k:Nat} {rest:List Txt} {op:Int} (h:Runs toks n (z80::rest) k op): ∃m t,n=m+1∧toks[k]?=some t∧((fits [[46,115,116,114],[39,115,99,104,101,109,97],[39,115,99,97,108,97,114],[39,116,121,112,101],[39,105,110,116,101,114,102,97,99,101],[39,117,110,105,111,110],[39,101,110,117,109],[39,105,110,112,117,116],[39,100,105,114,101,99,116,105,118,101],[39,101,120,116,101,110,100]] t=true∧Runs toks m (nDEF::z80::rest) k op)∨(fits [[46,115,116,114],[39,115,99,104,101,109,97],[39,115,99,97,108,97,114],[39,116,121,112,101],[39,105,110,116,101,114,102,97,99,101],[39,117,110,105,111,110],[39,101,110,117,109],[39,105,110,112,117,116],[39,100,105,114,101,99,116,105,118,101],[39,101,120,116,101,110,100]] t=false∧((fits [] t=true∧Runs toks m (rest) k op)∨(fits [] t=false∧(Runs toks m rest k op))))):=h.rule q2s (by decide+kernel)
theorem q5u:tabG nDEF=some ([([[46,115,116,114]],[[46,115,116,114],x1d]),([[39,115,99,104,101,109,97],[39,115,99,97,108,97,114],[39,116,121,112,101],[39,105,110,116,101,114,102,97,99,101],[39,117,110,105,111,110],[39,101,110,117,109],[39,105,110,112,117,116],[39,100,105,114,101,99,116,105,118,101]],[x1d]),([[39,101,120,116,101,110,100]],[[39,101,120,116,101,110,100],z81])],false):=by kernel_rfl
theorem q7y {toks:List TokD} {n k:Nat} {rest:List Txt} {op:Int} (h:Runs toks n (nDEF::rest) k op): ∃m t,n=m+1∧toks[k]?=some t∧((fits [[46,115,116,114]] t=true∧Runs toks m ([46,115,116,114]::x1d::rest) k op)∨(fits [[46,115,116,114]] t=false∧((fits [[39,115,99,104,101,109,97],[39,115,99,97,108,97,114],[39,116,121,112,101],[39,105,110,116,101,114,102,97,99,101],[39,117,110,105,111,110],[39,101,110,117,109],[39,105,110,112,117,116],[39,100,105,114,101,99,116,105,118,101]] t=true∧Runs toks m (x1d::rest) k op)∨(fits [[39,115,99,104,101,109,97],[39,115,99,97,108,97,114],[39,116,121,112,101],[39,105,110,116,101,114,102,97,99,101],[39,117,110,105,111,110],[39,101,110,117,109],[39,105,110,112,117,116],[39,100,105,114,101,99,116,105,118,101]] t=false∧((fits [[39,101,120,116,101,110,100]] t=true∧Runs toks m ([39,101,120,116,101,110,100]::z81::rest) k op)∨(fits [[39,101,120,116,101,110,100]] t=false∧(False))))))):=h.rule q5u (by decide+kernel)
theorem q2t:tabG x1d=some ([([[39,115,99,104,101,109,97]],[[39,115,99,104,101,109,97],y1e,y6d]),([[39,115,99,97,108,97,114]],[[39,115,99,97,108,97,114],[46,110,97,109,101],y1e]),([[39,116,121,112,101]],[[39,116,121,112,101],[46,110,97,109,101],y5x,y1e,y3v]),([[39,105,110,116,101,114,102,97,99,101]],[[39,105,110,116,101,114,102,97,99,101],[46,110,97,109,101],y5x,y1e,y3v]),([[39,117,110,105,111,110]],[[39,117,110,105,111,110],[46,110,97,109,101],y1e,y4w]),([[39,101,110,117,109]],[[39,101,110,117,109],[46,110,97,109,101],y1e,z0k]),([[39,105,110,112,117,116]],[[39,105,110,112,117,116],[46,110,97,109,101],y1e,y6z]),([[39,100,105,114,101,99,116,105,118,101]],[[39,100,105,114,101,99,116,105,118,101],[64],[46,110,97,109,101],y7z,z32,[39,111,110],nBAR,[46,112,108,97,99,101],y5z])],false):=by kernel_rfl
theorem q5v {toks:List TokD} {n k:Nat} {rest:List Txt} {op:Int} (h:Runs toks n (x1d::rest) k op): ∃m t,n=m+1∧toks[k]?=some t∧((fits [[39,115,99,104,101,109,97]] t=true∧Runs toks m ([39,115,99,104,101,109,97]::y1e::y6d::rest) k op)∨(fits [[39,115,99,104,101,109,97]] t=false∧((fits [[39,115,99,97,108,97,114]] t=true∧Runs toks m ([39,115,99,97,108,97,114]::[46,110,97,109,101]::y1e::rest) k op)∨(fits [[39,115,99,97,108,97,114]] t=false∧((fits [[39,116,121,112,101]] t=true∧Runs toks m ([39,116,121,112,101]::[46,110,97,109,101]::y5x::y1e::y3v::rest) k op)∨(fits [[39,116,121,112,101]] t=false∧((fits [[39,105,110,116,101,114,102,97,99,101]] t=true∧Runs toks m ([39,105,110,116,101,114,102,97,99,101]::[46,110,97,109,101]::y5x::y1e::y3v::rest) k op)∨(fits [[39,105,110,116,101,114,102,97,99,101]] t=false∧((fits [[39,117,110,105,111,110]] t=true∧Runs toks m ([39,117,110,105,111,110]::[46,110,97,109,101]::y1e::y4w::rest) k op)∨(fits [[39,117,110,105,111,110]] t=false∧((fits [[39,101,110,117,109]] t=true∧Runs toks m ([39,101,110,117,109]::[46,110,97,109,101]::y1e::z0k::rest) k op)∨(fits [[39,101,110,117,109]] t=false∧((fits [[39,105,110,112,117,116]] t=true∧Runs toks m ([39,105,110,112,117,116]::[46,110,97,109,101]::y1e::y6z::rest) k op)∨(fits [[39,105,110,112,117,116]] t=false∧((fits [[39,100,105,114,101,99,116,105,118,101]] t=true∧Runs toks m ([39,100,105,114,101,99,116,105,118,101]::[64]::[46,110,97,109,101]::y7z::z32::[39,111,110]::nBAR::[46,112,108,97,99,101]::y5z::rest) k op)∨(fits [[39,100,105,114,101,99,116,105,118,101]] t=false∧(False))))))))))))))))):=h.rule q2t (by decide+kernel)
theorem x8r:tabG z81=some ([([[39,115,99,104,101,109,97]],[[39,115,99,104,101,109,97],z2p]),([[39,115,99,97,108,97,114]],[[39,115,99,97,108,97,114],[46,110,97,109,101],nDIR,y1e]),([[39,116,121,112,101]],[[39,116,121,112,101],[46,110,97,109,101],y4v]),([[39,105,110,116,101,114,102,97,99,101]],[[39,105,110,116,101,114,102,97,99,101],[46,110,97,109,101],y4v]),([[39,117,110,105,111,110]],[[39,117,110,105,111,110],[46,110,97,109,101],z1a]),([[39,101,110,117,109]],[[39,101,110,117,109],[46,110,97,109,101],z5s]),([[39,105,110,112,117,116]],[[39,105,110,112,117,116],[46,110,97,109,101],z1b])],false):=by kernel_rfl
theorem q2u {toks:List TokD} {n k:Nat} {rest:List Txt} {op:Int} (h:Runs toks n (z81::rest) k op): ∃m t,n=m+1∧toks[k]?=some t∧((fits [[39,115,99,104,101,109,97]] t=true∧Runs toks m ([39,115,99,104,101,109,97]::z2p::rest) k op)∨(fits [[39,115,99,104,101,109,97]] t=false∧((fits [[39,115,99,97,108,97,114]] t=true∧Runs toks m ([39,115,99,97,108,97,114]::[46,110,97,109,101]::nDIR::y1e::rest) k op)∨(fits [[39,115,99,97,108,97,114]] t=false∧((fits [[39,116,121,112,101]] t=true∧Runs toks m ([39,116,121,112,101]::[46,110,97,109,101]::y4v::rest) k op)∨(fits [[39,116,121,112,101]] t=false∧((fits [[39,105,110,116,101,114,102,97,99,101]] t=true∧Runs toks m ([39,105,110,116,101,114,102,97,99,101]::[46,110,97,109,101]::y4v::rest) k op)∨(fits [[39,105,110,116,101,114,102,97,99,101]] t=false∧((fits [[39,117,110,105,111,110]] t=true∧Runs toks m ([39,117,110,105,111,110]::[46,110,97,109,101]::z1a::rest) k op)∨(fits [[39,117,110,105,111,110]] t=false∧((fits [[39,101,110,117,109]] t=true∧Runs toks m ([39,101,110,117,109]::[46,110,97,109,101]::z5s::rest) k op)∨(fits [[39,101,110,117,109]] t=false∧((fits [[39,105,110,112,117,116]] t=true∧Runs toks m ([39,105,110,112,117,116]::[46,110,97,109,101]::z1b::rest) k op)∨(fits [[39,105,110,112,117,116]] t=false∧(False))))))))))))))):=h.rule x8r (by decide+kernel)
theorem x1g:tabG z2p=some ([([[64]],[nDIR,y1e,y9o]),([[123]],[y6d])],false):=by kernel_rfl
theorem x5f {toks:List TokD} {n k:Nat} {rest:List Txt} {op:Int} (h:Runs toks n (z2p::rest) k op): ∃m t,n=m+1∧toks[k]?=some t∧((fits [[64]] t=true∧Runs toks m (nDIR::y1e::y9o::rest) k op)∨(fits [[64]] t=false∧((fits [[123]] t=true∧Runs toks m (y6d::rest) k op)∨(fits [[123]] t=false∧(False))))):=h.rule x1g (by decide+kernel)
theorem x5g:tabG y9o=some ([([[123]],[y6d]),([],[])],true):=by kernel_rfl
theorem x8s {toks:List TokD} {n k:Nat} {rest:List Txt} {op:Int} (h:Runs toks n (y9o::rest) k op): ∃m t,n=m+1∧toks[k]?=some t∧((fits [[123]] t=true∧Runs toks m (y6d::rest) k op)∨(fits [[123]] t=false∧((fits [] t=true∧Runs toks m (rest) k op)∨(fits [] t=false∧(Runs toks m rest k op))))):=h.rule x5g (by decide+kernel)
theorem x8t:tabG y6d=some ([([[123]],[[123],z82,z3z,[125]])],false):=by kernel_rfl
theorem x3e {toks:List TokD} {n k:Nat} {rest:List Txt} {op:Int} (h:Runs toks n (y6d::rest) k op): ∃m t,n=m+1∧toks[k]?=some t∧((fits [[123]] t=true∧Runs toks m ([123]::z82::z3z::[125]::rest) k op)∨(fits [[123]] t=false∧(False))):=h.rule x8t (by decide+kernel)
theorem x8u:tabG z3z=some ([([[46,114,111,111,116]],[z82,z3z]),([],[])],true):=by kernel_rfl
theorem q2v {toks:List TokD} {n k:Nat} {rest:List Txt} {op:Int} (h:Runs toks n (z3z::rest) k op): ∃m t,n=m+1∧toks[k]?=some t∧((fits [[46,114,111,111,116]] t=true∧Runs toks m (z82::z3z::rest) k op)∨(fits [[46,114,111,111,116]] t=false∧((fits [] t=true∧Runs toks m (rest) k op)∨(fits [] t=false∧(Runs toks m rest k op))))):=h.rule x8u (by decide+kernel)
theorem q2w:tabG z82=some ([([[46,114,111,111,116]],[[46,114,111,111,116],[58],[46,110,97,109,101]])],false):=by kernel_rfl
theorem x8v {toks:List TokD} {n k:Nat} {rest:List Txt} {op:Int} (h:Runs toks n (z82::rest) k op): ∃m t,n=m+1∧toks[k]?=some t∧((fits [[46,114,111,111,116]] t=true∧Runs toks m ([46,114,111,111,116]::[58]::[46,110,97,109,101]::rest) k op)∨(fits [[46,114,111,111,116]] t=false∧(False))):=h.rule q2w (by decide+kernel)
theorem x1h:tabG y4v=some ([([[39,105,109,112,108,101,109,101,110,116,115]],[y6w,y1e,y3v]),([[64]],[nDIR,y1e,y3v]),([[123]],[y6x])],false):=by kernel_rfl
theorem x5h {toks:List TokD} {n k:Nat} {rest:List Txt} {op:Int} (h:Runs toks n (y4v::rest) k op): ∃m t,n=m+1∧toks[k]?=some t∧((fits [[39,105,109,112,108,101,109,101,110,116,115]] t=true∧Runs toks m (y6w::y1e::y3v::rest) k op)∨(fits [[39,105,109,112,108,101,109,101,110,116,115]] t=false∧((fits [[64]] t=true∧Runs toks m (nDIR::y1e::y3v::rest) k op)∨(fits [[64]] t=false∧((fits [[123]] t=true∧Runs toks m (y6x::rest) k op)∨(fits [[123]] t=false∧(False))))))):=h.rule x1h (by decide+kernel)
theorem x5i:tabG y5x=some ([([[39,105,109,112,108,101,109,101,110,116,115]],[y6w]),([],[])],true):=by kernel_rfl
theorem x8w {toks:List TokD} {n k:Nat} {rest:List Txt} {op:Int} (h:Runs toks n (y5x::rest) k op): ∃m t,n=m+1∧toks[k]?=some t∧((fits [[39,105,109,112,108,101,109,101,110,116,115]] t=true∧Runs toks m (y6w::rest) k op)∨(fits [[39,105,109,112,108,101,109,101,110,116,115]] t=false∧((fits [] t=true∧Runs toks m (rest) k op)∨(fits [] t=false∧(Runs toks m rest k op))))):=h.rule x5i (by decide+kernel)
theorem x1i:tabG y6w=some ([([[39,105,109,112,108,101,109,101,110,116,115]],[[39,105,109,112,108,101,109,101,110,116,115],nAMP,[46,110,97,109,101],y9p])],false):=by kernel_rfl
theorem x5j {toks:List TokD} {n k:Nat} {rest:List Txt} {op:Int} (h:Runs toks n (y6w::rest) k op): ∃m t,n=m+1∧toks[k]?=some t∧((fits [[39,105,109,112,108,101,109,101,110,116,115]] t=true∧Runs toks m ([39,105,109,112,108,101,109,101,110,116,115]::nAMP::[46,110,97,109,101]::y9p::rest) k op)∨(fits [[39,105,109,112,108,101,109,101,110,116,115]] t=false∧(False))):=h.rule x1i (by decide+kernel)
theorem q5w:tabG nAMP=some ([([[38]],[[38]]),([],[])],true):=by kernel_rfl
theorem q7z {toks:List TokD} {n k:Nat} {rest:List Txt} {op:Int} (h:Runs toks n (nAMP::rest) k op): ∃m t,n=m+1∧toks[k]?=some t∧((fits [[38]] t=true∧Runs toks m ([38]::rest) k op)∨(fits [[38]] t=false∧((fits [] t=true∧Runs toks m (rest) k op)∨(fits [] t=false∧(Runs toks m rest k op))))):=h.rule q5w (by decide+kernel)
theorem x5k:tabG y9p=some ([([[38]],[[38],[46,110,97,109,101],y9p]),([],[])],true):=by kernel_rfl
theorem x8x {toks:List TokD} {n k:Nat} {rest:List Txt} {op:Int} (h:Runs toks n (y9p::rest) k op): ∃m t,n=m+1∧toks[k]?=some t∧((fits [[38]] t=true∧Runs toks m ([38]::[46,110,97,109,101]::y9p::rest) k op)∨(fits [[38]] t=false∧((fits [] t=true∧Runs toks m (rest) k op)∨(fits [] t=false∧(Runs toks m rest k op))))):=h.rule x5k (by decide+kernel)
theorem x5l:tabG y3v=some ([([[123]],[y6x]),([],[])],true):=by kernel_rfl
theorem x8y {toks:List TokD} {n k:Nat} {rest:List Txt} {op:Int} (h:Runs toks n (y3v::rest) k op): ∃m t,n=m+1∧toks[k]?=some t∧((fits [[123]] t=true∧Runs toks m (y6x::rest) k op)∨(fits [[123]] t=false∧((fits [] t=true∧Runs toks m (rest) k op)∨(fits [] t=false∧(Runs toks m rest k op))))):=h.rule x5l (by decide+kernel)
theorem x1j:tabG y6x=some ([([[123]],[[123],z2b,y9q,[125]])],false):=by kernel_rfl
theorem x5m {toks:List TokD} {n k:Nat} {rest:List Txt} {op:Int} (h:Runs toks n (y6x::rest) k op): ∃m t,n=m+1∧toks[k]?=some t∧((fits [[123]] t=true∧Runs toks m ([123]::z2b::y9q::[125]::rest) k op)∨(fits [[123]] t=false∧(False))):=h.rule x1j (by decide+kernel)
theorem x5n:tabG y9q=some ([([[46,115,116,114],[46,110,97,109,101]],[z2b,y9q]),([],[])],true):=by kernel_rfl
theorem x8z {toks:List TokD} {n k:Nat} {rest:List Txt} {op:Int} (h:Runs toks n (y9q::rest) k op): ∃m t,n=m+1∧toks[k]?=some t∧((fits [[46,115,116,114],[46,110,97,109,101]] t=true∧Runs toks m (z2b::y9q::rest) k op)∨(fits [[46,115,116,114],[46,110,97,109,101]] t=false∧((fits [] t=true∧Runs toks m (rest) k op)∨(fits [] t=false∧(Runs toks m rest k op))))):=h.rule x5n (by decide+kernel)
theorem x80:tabG z2b=some ([([[46,115,116,114]],[[46,115,116,114],y9r]),([[46,110,97,109,101]],[y9r])],false):=by kernel_rfl
theorem x3f {toks:List TokD} {n k:Nat} {rest:List Txt} {op:Int} (h:Runs toks n (z2b::rest) k op): ∃m t,n=m+1∧toks[k]?=some t∧((fits [[46,115,116,114]] t=true∧Runs toks m ([46,115,116,114]::y9r::rest) k op)∨(fits [[46,115,116,114]] t=false∧((fits [[46,110,97,109,101]] t=true∧Runs toks m (y9r::rest) k op)∨(fits [[46,110,97,109,101]] t=false∧(False))))):=h.rule x80 (by decide+kernel)
theorem x5o:tabG y9r=some ([([[46,110,97,109,101]],[[46,110,97,109,101],y7z,[58],z7e,y1e])],false):=by kernel_rfl
theorem x81 {toks:List TokD} {n k:Nat} {rest:List Txt} {op:Int} (h:Runs toks n (y9r::rest) k op): ∃m t,n=m+1∧toks[k]?=some t∧((fits [[46,110,97,109,101]] t=true∧Runs toks m ([46,110,97,109,101]::y7z::[58]::z7e::y1e::rest) k op)∨(fits [[46,110,97,109,101]] t=false∧(False))):=h.rule x5o (by decide+kernel)
theorem x5p:tabG y7z=some ([([[40]],[[40],y9b,y5y,[41]]),([],[])],true):=by kernel_rfl
theorem x82 {toks:List TokD} {n k:Nat} {rest:List Txt} {op:Int} (h:Runs toks n (y7z::rest) k op): ∃m t,n=m+1∧toks[k]?=some t∧((fits [[40]] t=true∧Runs toks m ([40]::y9b::y5y::[41]::rest) k op)∨(fits [[40]] t=false∧((fits [] t=true∧Runs toks m (rest) k op)∨(fits [] t=false∧(Runs toks m rest k op))))):=h.rule x5p (by decide+kernel)
theorem x5q:tabG y5y=some ([([[46,115,116,114],[46,110,97,109,101]],[y9b,y5y]),([],[])],true):=by kernel_rfl
theorem x83 {toks:List TokD} {n k:Nat} {rest:List Txt} {op:Int} (h:Runs toks n (y5y::rest) k op): ∃m t,n=m+1∧toks[k]?=some t∧((fits [[46,115,116,114],[46,110,97,109,101]] t=true∧Runs toks m (y9b::y5y::rest) k op)∨(fits [[46,115,116,114],[46,110,97,109,101]] t=false∧((fits [] t=true∧Runs toks m (rest) k op)∨(fits [] t=false∧(Runs toks m rest k op))))):=h.rule x5q (by decide+kernel)
theorem x84:tabG y9b=some ([([[46,115,116,114]],[[46,115,116,114],y9s]),([[46,110,97,109,101]],[y9s])],false):=by kernel_rfl
theorem x3g {toks:List TokD} {n k:Nat} {rest:List Txt} {op:Int} (h:Runs toks n (y9b::rest) k op): ∃m t,n=m+1∧toks[k]?=some t∧((fits [[46,115,116,114]] t=true∧Runs toks m ([46,115,116,114]::y9s::rest) k op)∨(fits [[46,115,116,114]] t=false∧((fits [[46,110,97,109,101]] t=true∧Runs toks m (y9s::rest) k op)∨(fits [[46,110,97,109,101]] t=false∧(False))))):=h.rule x84 (by decide+kernel)
theorem x5r:tabG y9s=some ([([[46,110,97,109,101]],[[46,110,97,109,101],[58],z7e,z2q,y1e])],false):=by kernel_rfl
theorem x85 {toks:List TokD} {n k:Nat} {rest:List Txt} {op:Int} (h:Runs toks n (y9s::rest) k op): ∃m t,n=m+1∧toks[k]?=some t∧((fits [[46,110,97,109,101]] t=true∧Runs toks m ([46,110,97,109,101]::[58]::z7e::z2q::y1e::rest) k op)∨(fits [[46,110,97,109,101]] t=false∧(False))):=h.rule x5r (by decide+kernel)
theorem x1k:tabG z2q=some ([([[61]],[[61],nLIT]),([],[])],true):=by kernel_rfl
theorem x5s {toks:List TokD} {n k:Nat} {rest:List Txt} {op:Int} (h:Runs toks n (z2q::rest) k op): ∃m t,n=m+1∧toks[k]?=some t∧((fits [[61]] t=true∧Runs toks m ([61]::nLIT::rest) k op)∨(fits [[61]] t=false∧((fits [] t=true∧Runs toks m (rest) k op)∨(fits [] t=false∧(Runs toks m rest k op))))):=h.rule x1k (by decide+kernel)
theorem x1l:tabG y4w=some ([([[61]],[y5h]),([],[])],true):=by kernel_rfl
theorem x5t {toks:List TokD} {n k:Nat} {rest:List Txt} {op:Int} (h:Runs toks n (y4w::rest) k op): ∃m t,n=m+1∧toks[k]?=some t∧((fits [[61]] t=true∧Runs toks m (y5h::rest) k op)∨(fits [[61]] t=false∧((fits [] t=true∧Runs toks m (rest) k op)∨(fits [] t=false∧(Runs toks m rest k op))))):=h.rule x1l (by decide+kernel)
theorem z86:tabG y5h=some ([([[61]],[[61],nBAR,[46,110,97,109,101],y6y])],false):=by kernel_rfl
theorem x1m {toks:List TokD} {n k:Nat} {rest:List Txt} {op:Int} (h:Runs toks n (y5h::rest) k op): ∃m t,n=m+1∧toks[k]?=some t∧((fits [[61]] t=true∧Runs toks m ([61]::nBAR::[46,110,97,109,101]::y6y::rest) k op)∨(fits [[61]] t=false∧(False))):=h.rule z86 (by decide+kernel)
theorem x1n:tabG y6y=some ([([[124]],[[124],[46,110,97,109,101],y6y]),([],[])],true):=by kernel_rfl
theorem x5u {toks:List TokD} {n k:Nat} {rest:List Txt} {op:Int} (h:Runs toks n (y6y::rest) k op): ∃m t,n=m+1∧toks[k]?=some t∧((fits [[124]] t=true∧Runs toks m ([124]::[46,110,97,109,101]::y6y::rest) k op)∨(fits [[124]] t=false∧((fits [] t=true∧Runs toks m (rest) k op)∨(fits [] t=false∧(Runs toks m rest k op))))):=h.rule x1n (by decide+kernel)
theorem q5x:tabG nBAR=some ([([[124]],[[124]]),([],[])],true):=by kernel_rfl
theorem q4p {toks:List TokD} {n k:Nat} {rest:List Txt} {op:Int} (h:Runs toks n (nBAR::rest) k op): ∃m t,n=m+1∧toks[k]?=some t∧((fits [[124]] t=true∧Runs toks m ([124]::rest) k op)∨(fits [[124]] t=false∧((fits [] t=true∧Runs toks m (rest) k op)∨(fits [] t=false∧(Runs toks m rest k op))))):=h.rule q5x (by decide+kernel)
theorem x5v:tabG z1a=some ([([[64]],[nDIR,y1e,y4w]),([[61]],[y5h])],false):=by kernel_rfl
theorem x86 {toks:List TokD} {n k:Nat} {rest:List Txt} {op:Int} (h:Runs toks n (z1a::rest) k op): ∃m t,n=m+1∧toks[k]?=some t∧((fits [[64]] t=true∧Runs toks m (nDIR::y1e::y4w::rest) k op)∨(fits [[64]] t=false∧((fits [[61]] t=true∧Runs toks m (y5h::rest) k op)∨(fits [[61]] t=false∧(False))))):=h.rule x5v (by decide+kernel)
theorem x87:tabG z0k=some ([([[123]],[y9t]),([],[])],true):=by kernel_rfl
theorem q2x {toks:List TokD} {n k:Nat} {rest:List Txt} {op:Int} (h:Runs toks n (z0k::rest) k op): ∃m t,n=m+1∧toks[k]?=some t∧((fits [[123]] t=true∧Runs toks m (y9t::rest) k op)∨(fits [[123]] t=false∧((fits [] t=true∧Runs toks m (rest) k op)∨(fits [] t=false∧(Runs toks m rest k op))))):=h.rule x87 (by decide+kernel)
theorem x5w:tabG y9t=some ([([[123]],[[123],z83,z30,[125]])],false):=by kernel_rfl
theorem x88 {toks:List TokD} {n k:Nat} {rest:List Txt} {op:Int} (h:Runs toks n (y9t::rest) k op): ∃m t,n=m+1∧toks[k]?=some t∧((fits [[123]] t=true∧Runs toks m ([123]::z83::z30::[125]::rest) k op)∨(fits [[123]] t=false∧(False))):=h.rule x5w (by decide+kernel)
theorem x89:tabG z30=some ([([[46,115,116,114],[46,99,97,115,101]],[z83,z30]),([],[])],true):=by kernel_rfl
theorem q2y {toks:List TokD} {n k:Nat} {rest:List Txt} {op:Int} (h:Runs toks n (z30::rest) k op): ∃m t,n=m+1∧toks[k]?=some t∧((fits [[46,115,116,114],[46,99,97,115,101]] t=true∧Runs toks m (z83::z30::rest) k op)∨(fits [[46,115,116,114],[46,99,97,115,101]] t=false∧((fits [] t=true∧Runs toks m (rest) k op)∨(fits [] t=false∧(Runs toks m rest k op))))):=h.rule x89 (by decide+kernel)
theorem q2z:tabG z83=some ([([[46,115,116,114]],[[46,115,116,114],z31]),([[46,99,97,115,101]],[z31])],false):=by kernel_rfl
theorem x9a {toks:List TokD} {n k:Nat} {rest:List Txt} {op:Int} (h:Runs toks n (z83::rest) k op): ∃m t,n=m+1∧toks[k]?=some t∧((fits [[46,115,116,114]] t=true∧Runs toks m ([46,115,116,114]::z31::rest) k op)∨(fits [[46,115,116,114]] t=false∧((fits [[46,99,97,115,101]] t=true∧Runs toks m (z31::rest) k op)∨(fits [[46,99,97,115,101]] t=false∧(False))))):=h.rule q2z (by decide+kernel)
theorem x9b:tabG z31=some ([([[46,99,97,115,101]],[[46,99,97,115,101],y1e])],false):=by kernel_rfl
theorem q20 {toks:List TokD} {n k:Nat} {rest:List Txt} {op:Int} (h:Runs toks n (z31::rest) k op): ∃m t,n=m+1∧toks[k]?=some t∧((fits [[46,99,97,115,101]] t=true∧Runs toks m ([46,99,97,115,101]::y1e::rest) k op)∨(fits [[46,99,97,115,101]] t=false∧(False))):=h.rule x9b (by decide+kernel)
theorem x9c:tabG z5s=some ([([[64]],[nDIR,y1e,z0k]),([[123]],[y9t])],false):=by kernel_rfl
theorem q21 {toks:List TokD} {n k:Nat} {rest:List Txt} {op:Int} (h:Runs toks n (z5s::rest) k op): ∃m t,n=m+1∧toks[k]?=some t∧((fits [[64]] t=true∧Runs toks m (nDIR::y1e::z0k::rest) k op)∨(fits [[64]] t=false∧((fits [[123]] t=true∧Runs toks m (y9t::rest) k op)∨(fits [[123]] t=false∧(False))))):=h.rule x9c (by decide+kernel)
theorem x5x:tabG y6z=some ([([[123]],[y60]),([],[])],true):=by kernel_rfl
theorem x9d {toks:List TokD} {n k:Nat} {rest:List Txt} {op:Int} (h:Runs toks n (y6z::rest) k op): ∃m t,n=m+1∧toks[k]?=some t∧((fits [[123]] t=true∧Runs toks m (y60::rest) k op)∨(fits [[123]] t=false∧((fits [] t=true∧Runs toks m (rest) k op)∨(fits [] t=false∧(Runs toks m rest k op))))):=h.rule x5x (by decide+kernel)
theorem x1o:tabG y60=some ([([[123]],[[123],y9b,y5y,[125]])],false):=by kernel_rfl
theorem x5y {toks:List TokD} {n k:Nat} {rest:List Txt} {op:Int} (h:Runs toks n (y60::rest) k op): ∃m t,n=m+1∧toks[k]?=some t∧((fits [[123]] t=true∧Runs toks m ([123]::y9b::y5y::[125]::rest) k op)∨(fits [[123]] t=false∧(False))):=h.rule x1o (by decide+kernel)
theorem x5z:tabG z1b=some ([([[64]],[nDIR,y1e,y6z]),([[123]],[y60])],false):=by kernel_rfl
theorem x9e {toks:List TokD} {n k:Nat} {rest:List Txt} {op:Int} (h:Runs toks n (z1b::rest) k op): ∃m t,n=m+1∧toks[k]?=some t∧((fits [[64]] t=true∧Runs toks m (nDIR::y1e::y6z::rest) k op)∨(fits [[64]] t=false∧((fits [[123]] t=true∧Runs toks m (y60::rest) k op)∨(fits [[123]] t=false∧(False))))):=h.rule x5z (by decide+kernel)
theorem x50:tabG z32=some ([([[39,114,101,112,101,97,116,97,98,108,101]],[[39,114,101,112,101,97,116,97,98,108,101]]),([],[])],true):=by kernel_rfl
theorem x9f {toks:List TokD} {n k:Nat} {rest:List Txt} {op:Int} (h:Runs toks n (z32::rest) k op): ∃m t,n=m+1∧toks[k]?=some t∧((fits [[39,114,101,112,101,97,116,97,98,108,101]] t=true∧Runs toks m ([39,114,101,112,101,97,116,97,98,108,101]::rest) k op)∨(fits [[39,114,101,112,101,97,116,97,98,108,101]] t=false∧((fits [] t=true∧Runs toks m (rest) k op)∨(fits [] t=false∧(Runs toks m rest k op))))):=h.rule x50 (by decide+kernel)
theorem x51:tabG y5z=some ([([[124]],[[124],[46,112,108,97,99,101],y5z]),([],[])],true):=by kernel_rfl
theorem x9g {toks:List TokD} {n k:Nat} {rest:List Txt} {op:Int} (h:Runs toks n (y5z::rest) k op): ∃m t,n=m+1∧toks[k]?=some t∧((fits [[124]] t=true∧Runs toks m ([124]::[46,112,108,97,99,101]::y5z::rest) k op)∨(fits [[124]] t=false∧((fits [] t=true∧Runs toks m (rest) k op)∨(fits [] t=false∧(Runs toks m rest k op))))):=h.rule x51 (by decide+kernel)
theorem q22:tabG y1e=some ([([[64]],[nDIR,y1e]),([],[])],true):=by kernel_rfl
theorem q5y {toks:List TokD} {n k:Nat} {rest:List Txt} {op:Int} (h:Runs toks n (y1e::rest) k op): ∃m t,n=m+1∧toks[k]?=some t∧((fits [[64]] t=true∧Runs toks m (nDIR::y1e::rest) k op)∨(fits [[64]] t=false∧((fits [] t=true∧Runs toks m (rest) k op)∨(fits [] t=false∧(Runs toks m rest k op))))):=h.rule q22 (by decide+kernel)
theorem q5z:tabG nDIR=some ([([[64]],[[64],[46,110,97,109,101],x8q])],false):=by kernel_rfl
theorem q70 {toks:List TokD} {n k:Nat} {rest:List Txt} {op:Int} (h:Runs toks n (nDIR::rest) k op): ∃m t,n=m+1∧toks[k]?=some t∧((fits [[64]] t=true∧Runs toks m ([64]::[46,110,97,109,101]::x8q::rest) k op)∨(fits [[64]] t=false∧(False))):=h.rule q5z (by decide+kernel)
theorem q23:tabG x8q=some ([([[40]],[[40],nARG,z84,[41]]),([],[])],true):=by kernel_rfl
theorem q50 {toks:List TokD} {n k:Nat} {rest:List Txt} {op:Int} (h:Runs toks n (x8q::rest) k op): ∃m t,n=m+1∧toks[k]?=some t∧((fits [[40]] t=true∧Runs toks m ([40]::nARG::z84::[41]::rest) k op)∨(fits [[40]] t=false∧((fits [] t=true∧Runs toks m (rest) k op)∨(fits [] t=false∧(Runs toks m rest k op))))):=h.rule q23 (by decide+kernel)
theorem q24:tabG z84=some ([([[46,110,97,109,101]],[nARG,z84]),([],[])],true):=by kernel_rfl
theorem q51 {toks:List TokD} {n k:Nat} {rest:List Txt} {op:Int} (h:Runs toks n (z84::rest) k op): ∃m t,n=m+1∧toks[k]?=some t∧((fits [[46,110,97,109,101]] t=true∧Runs toks m (nARG::z84::rest) k op)∨(fits [[46,110,97,109,101]] t=false∧((fits [] t=true∧Runs toks m (rest) k op)∨(fits [] t=false∧(Runs toks m rest k op))))):=h.rule q24 (by decide+kernel)
theorem q52:tabG nARG=some ([([[46,110,97,109,101]],[[46,110,97,109,101],[58],nLIT])],false):=by kernel_rfl
theorem q71 {toks:List TokD} {n k:Nat} {rest:List Txt} {op:Int} (h:Runs toks n (nARG::rest) k op): ∃m t,n=m+1∧toks[k]?=some t∧((fits [[46,110,97,109,101]] t=true∧Runs toks m ([46,110,97,109,101]::[58]::nLIT::rest) k op)∨(fits [[46,110,97,109,101]] t=false∧(False))):=h.rule q52 (by decide+kernel)
theorem q53:tabG nLIT=some ([([[46,110,97,109,101]],[[46,110,97,109,101]]),([[46,115,116,114]],[[46,115,116,114]]),([[46,110,117,109]],[[46,110,117,109]]),([[91]],[[91],x1e,[93]]),([[123]],[[123],x1f,[125]])],false):=by kernel_rfl
theorem q72 {toks:List TokD} {n k:Nat} {rest:List Txt} {op:Int} (h:Runs toks n (nLIT::rest) k op): ∃m t,n=m+1∧toks[k]?=some t∧((fits [[46,110,97,109,101]] t=true∧Runs toks m ([46,110,97,109,101]::rest) k op)∨(fits [[46,110,97,109,101]] t=false∧((fits [[46,115,116,114]] t=true∧Runs toks m ([46,115,116,114]::rest) k op)∨(fits [[46,115,116,114]] t=false∧((fits [[46,110,117,109]] t=true∧Runs toks m ([46,110,117,109]::rest) k op)∨(fits [[46,110,117,109]] t=false∧((fits [[91]] t=true∧Runs toks m ([91]::x1e::[93]::rest) k op)∨(fits [[91]] t=false∧((fits [[123]] t=true∧Runs toks m ([123]::x1f::[125]::rest) k op)∨(fits [[123]] t=false∧(False))))))))))):=h.rule q53 (by decide+kernel)
theorem q25:tabG x1e=some ([([[46,110,97,109,101],[46,115,116,114],[46,110,117,109],[91],[123]],[nLIT,x1e]),([],[])],true):=by kernel_rfl
theorem q54 {toks:List TokD} {n k:Nat} {rest:List Txt} {op:Int} (h:Runs toks n (x1e::rest) k op): ∃m t,n=m+1∧toks[k]?=some t∧((fits [[46,110,97,109,101],[46,115,116,114],[46,110,117,109],[91],[123]] t=true∧Runs toks m (nLIT::x1e::rest) k op)∨(fits [[46,110,97,109,101],[46,115,116,114],[46,110,117,109],[91],[123]] t=false∧((fits [] t=true∧Runs toks m (rest) k op)∨(fits [] t=false∧(Runs toks m rest k op))))):=h.rule q25 (by decide+kernel)
theorem q26:tabG x1f=some ([([[46,110,97,109,101]],[[46,110,97,109,101],[58],nLIT,x1f]),([],[])],true):=by kernel_rfl
theorem q55 {toks:List TokD} {n k:Nat} {rest:List Txt} {op:Int} (h:Runs toks n (x1f::rest) k op): ∃m t,n=m+1∧toks[k]?=some t∧((fits [[46,110,97,109,101]] t=true∧Runs toks m ([46,110,97,109,101]::[58]::nLIT::x1f::rest) k op)∨(fits [[46,110,97,109,101]] t=false∧((fits [] t=true∧Runs toks m (rest) k op)∨(fits [] t=false∧(Runs toks m rest k op))))):=h.rule q26 (by decide+kernel)
theorem q27:tabG z7e=some ([([[46,110,97,109,101],[91]],[z85,x5e])],false):=by kernel_rfl
theorem q56 {toks:List TokD} {n k:Nat} {rest:List Txt} {op:Int} (h:Runs toks n (z7e::rest) k op): ∃m t,n=m+1∧toks[k]?=some t∧((fits [[46,110,97,109,101],[91]] t=true∧Runs toks m (z85::x5e::rest) k op)∨(fits [[46,110,97,109,101],[91]] t=false∧(False))):=h.rule q27 (by decide+kernel)
theorem x9h:tabG z85=some ([([[46,110,97,109,101]],[[46,110,97,109,101]]),([[91]],[[91],z7e,[93]])],false):=by kernel_rfl
theorem q28 {toks:List TokD} {n k:Nat} {rest:List Txt} {op:Int} (h:Runs toks n (z85::rest) k op): ∃m t,n=m+1∧toks[k]?=some t∧((fits [[46,110,97,109,101]] t=true∧Runs toks m ([46,110,97,109,101]::rest) k op)∨(fits [[46,110,97,109,101]] t=false∧((fits [[91]] t=true∧Runs toks m ([91]::z7e::[93]::rest) k op)∨(fits [[91]] t=false∧(False))))):=h.rule x9h (by decide+kernel)
theorem q29:tabG x5e=some ([([[33]],[[33]]),([],[])],true):=by kernel_rfl
theorem q57 {toks:List TokD} {n k:Nat} {rest:List Txt} {op:Int} (h:Runs toks n (x5e::rest) k op): ∃m t,n=m+1∧toks[k]?=some t∧((fits [[33]] t=true∧Runs toks m ([33]::rest) k op)∨(fits [[33]] t=false∧((fits [] t=true∧Runs toks m (rest) k op)∨(fits [] t=false∧(Runs toks m rest k op))))):=h.rule q29 (by decide+kernel)
end Go.Proofs.YtbpgkkoeehopjaaGreat.gram
namespace Go.Proofs.YtbpgkkoeehopjaaGreat.acr
open tree gram rd dat lex
set_option maxRecDepth 100000
structure TokW (t:TokD):Prop where
 mark: ∀p,p∈([33,38,40,41,58,61,64,91,93,123,124,125]:Txt)→t.text=[p]→t.kind=2∨t.kind=6∨t.kind=7
 word: ∀w,w∈([[101,120,116,101,110,100],[105,109,112,108,101,109,101,110,116,115],[114,101,112,101,97,116,97,98,108,101],[111,110]]:List Txt)→t.text=w→t.kind=3∨t.kind=6∨t.kind=7
structure TokA (toks:List TokD):Prop extends TokE toks where
 wf: ∀(k:Nat) t,toks[k]?=some t→TokW t
theorem x1p {p:UInt8} (hp:p∈([33,38,40,41,58,61,64,91,93,123,124,125]:Txt)) (t:TokD):y1m [p] t=((t.kind==2)&&decide (t.text=[p])):=by
 simp only [Qbd,List.mem_nil_iff,or_false] at hp
 rcases hp with rfl|rfl|rfl|rfl|rfl|rfl|rfl|rfl|rfl|rfl|rfl|rfl<;>rfl
theorem y05 {t:TokD} (hW:TokW t) {p:UInt8} (hp:p∈([33,38,40,41,58,61,64,91,93,123,124,125]:Txt)):isF t [p]=y1m [p] t:=by
 rw [x1p hp];unfold isF;by_cases h:t.text=[p]
 ·have hk:=hW.mark p hp h;rw [Qa5 h]
  rcases hk with hk|hk|hk<;>rw [hk]<;>rfl
 ·rw [Qa4 h];simp
theorem q58 {w:Txt} (hw:w∈([[101,120,116,101,110,100],[105,109,112,108,101,109,101,110,116,115],[114,101,112,101,97,116,97,98,108,101],[111,110]]:List Txt)) (t:TokD):y1m (39::w) t=((t.kind==3)&&decide (t.text=w)):=by
 simp only [Qbd,List.mem_nil_iff,or_false] at hw
 rcases hw with rfl|rfl|rfl|rfl<;>rfl
theorem z1c {t:TokD} (hW:TokW t) {w:Txt} (hw:w∈([[101,120,116,101,110,100],[105,109,112,108,101,109,101,110,116,115],[114,101,112,101,97,116,97,98,108,101],[111,110]]:List Txt)):isF t w=y1m (39::w) t:=by
 rw [q58 hw];unfold isF;by_cases h:t.text=w
 ·have hk:=hW.word w hw h;rw [Qa5 h]
  rcases hk with hk|hk|hk<;>rw [hk]<;>rfl
 ·rw [Qa4 h];simp
theorem q3a {t:TokD} {s:Txt} {p:UInt8} (hp:p∈([33,38,40,41,58,61,64,91,93,123,124,125]:Txt)) (h:y1m [p] t=true) (hs:y1m s t=true):s=[p]:=by
 rw [x1p hp] at h;simp only [Qao,Qa7,decide_eq_true_eq] at h;obtain ⟨hk,ht⟩:=h;unfold y1m at hs;rw [hk] at hs;split at hs
 ·cases hs
 split at hs
 ·cases hs
 split at hs
 ·cases hs
 split at hs
 ·cases hs
 split at hs
 ·cases hs
 split at hs
 ·cases hs
 split at hs
 ·cases hs
 cases s with
 |nil=>cases hs
 |cons c r=>
  simp only at hs;split at hs
  ·cases hs
  ·simp only [Qao,decide_eq_true_eq] at hs;rw [←hs.2,ht]
theorem y70 {t:TokD} (hW:TokW t) {p:UInt8} (hp:p∈([33,38,40,41,58,61,64,91,93,123,124,125]:Txt)) {F:List Txt} (hF:fits F t=true) (hn:F.contains [p]=false):isF t [p]=false:=by
 rw [y05 hW hp]
 cases h:y1m [p] t with
 |false=>rfl
 |true=>
  obtain ⟨s,hs,hf⟩:=Qbh.1 hF;rw [q3a hp h hf] at hs;rw [List.contains_iff_mem.2 hs] at hn;cases hn
theorem y2o {t:TokD} {F:List Txt} {s:Txt} (h:fits F t=false) (hs:F.contains s=true):y1m s t=false:=by
 cases hf:y1m s t with
 |false=>rfl
 |true=>
  have:fits F t=true:=Qbh.2 ⟨s,List.contains_iff_mem.1 hs,hf⟩;rw [h] at this;cases this
section
variable {toks : List TokD}
theorem _root_.Go.Proofs.YtbpgkkoeehopjaaGreat.gram.Runs.tok {n:Nat} {s:Txt} {st:List Txt} {k:Nat} {op:Int} (h:Runs toks n (s::st) k op): ∃t,toks[k]?=some t:=by
 unfold Runs at h
 cases n with
 |zero=>cases h
 |succ m=>
  rw [runF] at h
  cases ht:toks[k]? with
  |none=>rw [ht] at h;cases h
  |some t=>exact ⟨t,rfl⟩
theorem _root_.Go.Proofs.YtbpgkkoeehopjaaGreat.gram.Runs.term (hE:TokA toks) {n:Nat} {s:Txt} {rest:List Txt} {k:Nat} {op:Int} (h:Runs toks n (s::rest) k op) (hs:(decide (s≠[])&&decide (s.length≤1000)&& !y4i s&&decide (s≠endT))=true) {t:TokD} (ht:toks[k]?=some t):
  ∃m,n=m+1∧y1m s t=true∧(y13 s=1→op<200)∧y0w toks.length k=k+1∧k+1<toks.length∧Runs toks m rest (k+1) (op+y13 s):=by
 simp only [Qao,decide_eq_true_eq,Bool.not_eq_true'] at hs;unfold Runs at h
 cases n with
 |zero=>cases h
 |succ m=>
  rw [runF,ht] at h;simp only at h;rw [if_neg (by rintro (h0|h0);exact hs.1.1.1 h0;have:=hs.1.1.2;omega),hs.1.2,if_neg (by decide)] at h
  cases hf:y1m s t with
  |false=>rw [hf,if_pos rfl] at h;simp at h
  |true=>
   rw [hf,if_neg (by decide)] at h;have hk:=z3y hf;have hlt:k<toks.length:=(Qac.1 ht).1
   have hl:k+1<toks.length:=by
    have h1:=hE.ends k t ht;have h2:=hk.2 hs.2
    have h3: ¬k+1=toks.length:=fun e=>by have:=h1.2 e;rcases this with h|h;exact h2 h;exact hk.1 h
    omega
   split at h
   ·simp at h
   ·rename_i hb
    try rw [if_pos hl] at h
    exact ⟨m,rfl,rfl,fun e=>by by_cases h2:op<200;exact h2;exact absurd ⟨e,by omega⟩ hb,by unfold y0w;rw [if_pos hl],hl,h⟩
theorem _root_.Go.Proofs.YtbpgkkoeehopjaaGreat.gram.Runs.t0 (hE:TokA toks) {n:Nat} {s:Txt} {rest:List Txt} {k:Nat} {op:Int} (h:Runs toks n (s::rest) k op) {t:TokD} (ht:toks[k]?=some t) (hs:(decide (s≠[])&&decide (s.length≤1000)&& !y4i s&&decide (s≠endT))=true:=by decide+kernel) (hb:y13 s=0:=by decide+kernel):
  ∃m,n=m+1∧y1m s t=true∧y0w toks.length k=k+1∧k+1<toks.length∧Runs toks m rest (k+1) op:=by
 obtain ⟨m,h1,h2,_,h4,h5,h6⟩:=h.term hE hs ht;rw [hb,Int.add_zero] at h6;exact ⟨m,h1,h2,h4,h5,h6⟩
theorem _root_.Go.Proofs.YtbpgkkoeehopjaaGreat.gram.Runs.topen (hE:TokA toks) {n:Nat} {s:Txt} {rest:List Txt} {k:Nat} {op:Int} (h:Runs toks n (s::rest) k op) {t:TokD} (ht:toks[k]?=some t) (hs:(decide (s≠[])&&decide (s.length≤1000)&& !y4i s&&decide (s≠endT))=true:=by decide+kernel) (hb:y13 s=1:=by decide+kernel):
  ∃m,n=m+1∧y1m s t=true∧y0w toks.length k=k+1∧k+1<toks.length∧op<200∧Runs toks m rest (k+1) (op+1):=by
 obtain ⟨m,h1,h2,h3,h4,h5,h6⟩:=h.term hE hs ht;rw [hb] at h6;exact ⟨m,h1,h2,h4,h5,h3 hb,h6⟩
theorem _root_.Go.Proofs.YtbpgkkoeehopjaaGreat.gram.Runs.tclose (hE:TokA toks) {n:Nat} {s:Txt} {rest:List Txt} {k:Nat} {op:Int} (h:Runs toks n (s::rest) k op) {t:TokD} (ht:toks[k]?=some t) (hs:(decide (s≠[])&&decide (s.length≤1000)&& !y4i s&&decide (s≠endT))=true:=by decide+kernel) (hb:y13 s= -1:=by decide+kernel):
  ∃m,n=m+1∧y1m s t=true∧y0w toks.length k=k+1∧k+1<toks.length∧Runs toks m rest (k+1) (op - 1):=by
 obtain ⟨m,h1,h2,h3,h4,h5,h6⟩:=h.term hE hs ht;rw [hb,←Int.sub_eq_add_neg] at h6;exact ⟨m,h1,h2,h4,h5,h6⟩
def Got {α:Type} (toks:List TokD) (n:Nat) (rest:List Txt) (op:Int) (k:Nat) (N:α→Nat) (x:Option (α×Nat)):Prop:=∃a k' m,x=some (a,k')∧Runs toks m rest k' op∧m<n∧N a+k≤k'
abbrev z7f:Txt:=[46,110,97,109,101]
abbrev tSTR:Txt:=[46,115,116,114]
abbrev tNUM:Txt:=[46,110,117,109]
theorem z33 {t:TokD} (h:y1m z7f t=true):t.kind=3:=by have:(t.kind==3)=true:=h;simpa using this
theorem x3h {t:TokD} (h:y1m tSTR t=true):t.kind=6∨t.kind=7:=by have:((t.kind==6)||(t.kind==7))=true:=h;simpa using this
theorem q3b {t:TokD} (h:y1m tNUM t=true):t.kind=4∨t.kind=5:=by have:((t.kind==4)||(t.kind==5))=true:=h;simpa using this
theorem z87 {t:TokD} {p:UInt8} (hp:p∈([33,38,40,41,58,61,64,91,93,123,124,125]:Txt)) (h:y1m [p] t=true):t.kind=2∧t.text=[p]:=by
 rw [x1p hp] at h;simpa using h
theorem x9i (hE:TokA toks) (L:Nat) (hL:toks.length≤L): ∀n,
  (∀(rest:List Txt) (k:Nat) (op:Int) (f:Nat),Runs toks n (nLIT::rest) k op→op≤200→200<op+f→Got toks n rest op k litN (litF toks L f k))∧
  (∀(rest:List Txt) (k:Nat) (op:Int) (f fu:Nat),Runs toks n (x1e::[93]::rest) k op→op≤200→200<op+f→toks.length<fu+k→Got toks n rest (op - 1) k (fun l=>litsN l+1) (z14 toks (litF toks L f) fu k))∧
  (∀(rest:List Txt) (k:Nat) (op:Int) (f fu:Nat),Runs toks n (x1f::[125]::rest) k op→op≤200→200<op+f→toks.length<fu+k→Got toks n rest (op - 1) k (fun l=>pairsN l+1) (y3d toks [125] (litF toks L f) fu k)):=by
 intro n
 induction n using Nat.strongRecOn with
 |_ n ih=>
  refine ⟨fun rest k op f h h1 h2=>?_,fun rest k op f fu h h1 h2 h3=>?_,fun rest k op f fu h h1 h2 h3=>?_⟩
  ·obtain ⟨m,t,rfl,ht,hA⟩:=q72 h;obtain ⟨f,rfl⟩: ∃g,f=g+1:=⟨f - 1,by omega⟩;rw [litF,ht,Option.bind_some];rcases hA with ⟨_,h⟩|⟨_,⟨_,h⟩|⟨_,⟨_,h⟩|⟨_,⟨_,h⟩|⟨_,⟨_,h⟩|⟨_,h⟩⟩⟩⟩⟩
   ·obtain ⟨m',rfl,hf,hn,hl,h⟩:=h.t0 hE ht;rw [if_pos (z33 hf),hn];exact ⟨_,_,m',rfl,h,by omega,by simp [litN,litsN,pairsN];omega⟩
   ·obtain ⟨m',rfl,hf,hn,hl,h⟩:=h.t0 hE ht;have hk:=x3h hf;rw [if_neg (by omega),if_neg (by omega),if_neg (by omega),if_pos hk,hn];exact ⟨_,_,m',rfl,h,by omega,by simp [litN,litsN,pairsN];omega⟩
   ·obtain ⟨m',rfl,hf,hn,hl,h⟩:=h.t0 hE ht;have hk:=q3b hf;rw [if_neg (by omega),hn];by_cases h4:t.kind=4
    ·rw [if_pos h4];exact ⟨_,_,m',rfl,h,by omega,by simp [litN,litsN,pairsN];omega⟩
    ·rw [if_neg h4,if_pos (by omega)];exact ⟨_,_,m',rfl,h,by omega,by simp [litN,litsN,pairsN];omega⟩
   ·obtain ⟨m',rfl,hf,hn,hl,hop,h⟩:=h.topen hE ht;have hk:=z87 (by decide) hf;rw [if_neg (by omega),if_neg (by omega),if_neg (by omega),if_neg (by omega),if_pos hk.2,hn];obtain ⟨a,k',m2,e,hr,hm,hN⟩:=(ih m' (by omega)).2.1 rest (k+1) (op+1) f L h (by omega) (by omega) (by omega);rw [e];refine ⟨_,_,m2,rfl,?_,by omega,by simp only [litN,pairsN] at hN ⊢;omega⟩;rw [Int.add_sub_cancel] at hr;exact hr
   ·obtain ⟨m',rfl,hf,hn,hl,hop,h⟩:=h.topen hE ht;have hk:=z87 (by decide) hf;rw [if_neg (by omega),if_neg (by omega),if_neg (by omega),if_neg (by omega),if_neg (by rw [hk.2];decide),hn];obtain ⟨a,k',m2,e,hr,hm,hN⟩:=(ih m' (by omega)).2.2 rest (k+1) (op+1) f L h (by omega) (by omega) (by omega);rw [e];refine ⟨_,_,m2,rfl,?_,by omega,by simp only [litN,litsN] at hN ⊢;omega⟩;rw [Int.add_sub_cancel] at hr;exact hr
   ·exact h.elim
  ·obtain ⟨m,t,rfl,ht,hA⟩:=q54 h;have hlt:k<toks.length:=(Qac.1 ht).1;obtain ⟨fu,rfl⟩: ∃g,fu=g+1:=⟨fu - 1,by omega⟩;have hW:=hE.wf k t ht;rw [z14,ht,Option.bind_some]
   have hend:Runs toks m ([93]::rest) k op→Got toks (m+1) rest (op - 1) k (fun l=>litsN l+1) (if isF t [93]=true then some ([],k+1) else (litF toks L f k).bind fun q=>(z14 toks (litF toks L f) fu q.2).bind fun r=>some (q.1::r.1,r.2)):=fun h=>by
    obtain ⟨m',rfl,hf,hn,hl,h⟩:=h.tclose hE ht;rw [if_pos (by rw [y05 hW (by decide)];exact hf)];exact ⟨_,_,m',rfl,h,by omega,by simp [litsN];omega⟩
   rcases hA with ⟨hF,h⟩|⟨_,⟨_,h⟩|⟨_,h⟩⟩
   ·rw [if_neg (by rw [y70 hW (by decide) hF (by decide+kernel)];decide)];obtain ⟨a,k',m2,e,hr,hm,hN⟩:=(ih m (by omega)).1 _ k op f h h1 h2;rw [e,Option.bind_some];have hp:=y6q a;obtain ⟨b,k2,m3,e2,hr2,hm2,hN2⟩:=(ih m2 (by omega)).2.1 rest k' op f fu hr h1 h2 (by omega);rw [e2,Option.bind_some];exact ⟨_,_,m3,rfl,hr2,by omega,by simp only [litsN] at hN2 ⊢;omega⟩
   ·exact hend h
   ·exact hend h
  ·obtain ⟨m,t,rfl,ht,hA⟩:=q55 h;have hlt:k<toks.length:=(Qac.1 ht).1;obtain ⟨fu,rfl⟩: ∃g,fu=g+1:=⟨fu - 1,by omega⟩;have hW:=hE.wf k t ht;rw [y3d,ht,Option.bind_some];rcases hA with ⟨hF,h⟩|⟨_,h⟩
   ·rw [if_neg (by rw [y70 hW (by decide) hF (by decide+kernel)];decide)];obtain ⟨m1,rfl,hf,hn,hl,h⟩:=h.t0 hE ht;obtain ⟨t1,ht1⟩:=h.tok;have hW1:=hE.wf _ t1 ht1;obtain ⟨m2,rfl,hf1,hn1,hl1,h⟩:=h.t0 hE ht1;rw [hn,ht1,Option.bind_some,if_pos (by rw [y05 hW1 (by decide)];exact hf1)];obtain ⟨a,k',m3,e,hr,hm,hN⟩:=(ih m2 (by omega)).1 _ (k+1+1) op f h h1 h2;rw [e,Option.bind_some];have hp:=y6q a;obtain ⟨b,k2,m4,e2,hr2,hm2,hN2⟩:=(ih m3 (by omega)).2.2 rest k' op f fu hr h1 h2 (by omega);rw [e2,Option.bind_some];exact ⟨_,_,m4,rfl,hr2,by omega,by simp only [pairsN,pairN] at hN2 ⊢;omega⟩
   ·have h:Runs toks m ([125]::rest) k op:=by rcases h with ⟨_,h⟩|⟨_,h⟩<;>exact h
    obtain ⟨m',rfl,hf,hn,hl,h⟩:=h.tclose hE ht;rw [if_pos (by rw [y05 hW (by decide)];exact hf)];exact ⟨_,_,m',rfl,h,by omega,by simp [pairsN];omega⟩
end
section
variable {toks : List TokD}
theorem x3i (hE:TokA toks) {n:Nat} {rest:List Txt} {k:Nat} {op:Int} {r:Txt×Txt} (h:Runs toks n (x5e::rest) k op) (hr:r.2.length≤2000):
  ∃r' k' m,x4w toks r k=some (r',k')∧Runs toks m rest k' op∧m<n∧k≤k'∧r'.2.length≤r.2.length+1:=by
 obtain ⟨m,t,rfl,ht,hA⟩:=q57 h;have hW:=hE.wf k t ht;unfold x4w;rw [if_pos hr,ht];simp only;rcases hA with ⟨hF,h⟩|⟨hF,h⟩
 ·obtain ⟨m',rfl,hf,hn,hl,h⟩:=h.t0 hE ht;rw [if_pos (by rw [y05 hW (by decide)];exact hf)];exact ⟨_,_,m',rfl,h,by omega,by omega,by simp⟩
 ·have h:Runs toks m rest k op:=by rcases h with ⟨_,h⟩|⟨_,h⟩<;>exact h
  rw [if_neg (by rw [y05 hW (by decide),y2o hF (by decide+kernel)];decide)];exact ⟨_,_,m,rfl,h,by omega,by omega,by omega⟩
theorem x9j (hE:TokA toks): ∀(n:Nat) (rest:List Txt) (k:Nat) (op:Int) (f:Nat),Runs toks n (z7e::rest) k op→0≤op→op≤200→200<op+f→
  ∃r k' m,typF toks f k=some (r,k')∧Runs toks m rest k' op∧m<n∧k+1≤k'∧(r.2.length:Int)≤2*(200 - op)+1:=by
 intro n
 induction n using Nat.strongRecOn with
 |_ n ih=>
  intro rest k op f h h0 h1 h2;obtain ⟨m,t,rfl,ht,hA⟩:=q56 h;obtain ⟨f,rfl⟩: ∃g,f=g+1:=⟨f - 1,by omega⟩
  have h:Runs toks m (z85::x5e::rest) k op:=by rcases hA with ⟨_,h⟩|⟨_,h⟩;exact h;exact h.elim
  obtain ⟨m,t',rfl,ht',hA⟩:=q28 h;rw [ht] at ht';injection ht' with ht';subst ht';have hW:=hE.wf k t ht;rw [typF,ht];simp only;rcases hA with ⟨hF,h⟩|⟨_,⟨hF,h⟩|⟨_,h⟩⟩
  ·obtain ⟨m1,rfl,hf,hn,hl,h⟩:=h.t0 hE ht;rw [if_neg (by rw [y70 hW (by decide) hF (by decide+kernel)];decide),hn];obtain ⟨r',k',m2,e,hr,hm,hk,hlen⟩:=x3i (r:=(t.text,[])) hE h (by simp);rw [e];refine ⟨r',k',m2,rfl,hr,by omega,by omega,?_⟩;simp only [List.length_nil] at hlen;omega
  ·obtain ⟨m1,rfl,hf,hn,hl,hop,h⟩:=h.topen hE ht;rw [if_pos (by rw [y05 hW (by decide)];exact hf)];obtain ⟨r,k',m2,e,hr,hm,hk,hlen⟩:=ih m1 (by omega) _ (k+1) (op+1) f h (by omega) (by omega) (by omega);rw [e];simp only;obtain ⟨t1,ht1⟩:=hr.tok;have hW1:=hE.wf _ t1 ht1;obtain ⟨m3,rfl,hf1,hn1,hl1,h⟩:=hr.tclose hE ht1;rw [Int.add_sub_cancel] at h;rw [ht1];simp only;rw [if_pos (by omega),if_pos (by rw [y05 hW1 (by decide)];exact hf1)];obtain ⟨r',k2,m4,e2,hr2,hm2,hk2,hlen2⟩:=x3i (r:=(r.1,r.2++[93])) hE h (by simp;omega);rw [e2];refine ⟨r',k2,m4,rfl,hr2,by omega,by omega,?_⟩;simp only [Qae,Qbj] at hlen2;omega
  ·exact h.elim
theorem q3c (hE:TokA toks) (L:Nat) (hL:toks.length≤L): ∀n,
  (∀(rest:List Txt) (k:Nat) (op:Int) (f fu:Nat),Runs toks n (z84::[41]::rest) k op→op≤200→200<op+f→toks.length<fu+k→Got toks n rest (op - 1) k (fun l=>pairsN l+1) (y3d toks [41] (litF toks L f) fu k))∧
  (∀(rest:List Txt) (k:Nat) (op:Int) (f fu:Nat),Runs toks n (nARG::z84::[41]::rest) k op→op≤200→200<op+f→toks.length<fu+k→Got toks n rest (op - 1) k (fun l=>pairsN l+1) (y3d toks [41] (litF toks L f) fu k)):=by
 intro n
 induction n using Nat.strongRecOn with
 |_ n ih=>
  refine ⟨fun rest k op f fu h h1 h2 h3=>?_,fun rest k op f fu h h1 h2 h3=>?_⟩
  ·obtain ⟨m,t,rfl,ht,hA⟩:=q51 h;have hlt:k<toks.length:=(Qac.1 ht).1;have hW:=hE.wf k t ht;rcases hA with ⟨hF,h⟩|⟨_,h⟩
   ·obtain ⟨a,k',m1,e,hr,hm,hN⟩:=(ih m (by omega)).2 rest k op f fu h h1 h2 h3;exact ⟨a,k',m1,e,hr,by omega,hN⟩
   ·have h:Runs toks m ([41]::rest) k op:=by rcases h with ⟨_,h⟩|⟨_,h⟩<;>exact h
    obtain ⟨fu,rfl⟩: ∃g,fu=g+1:=⟨fu - 1,by omega⟩;rw [y3d,ht,Option.bind_some];obtain ⟨m',rfl,hf,hn,hl,h⟩:=h.tclose hE ht;rw [if_pos (by rw [y05 hW (by decide)];exact hf)];exact ⟨_,_,m',rfl,h,by omega,by simp [pairsN];omega⟩
  ·obtain ⟨m,t,rfl,ht,hA⟩:=q71 h;have hlt:k<toks.length:=(Qac.1 ht).1;have hW:=hE.wf k t ht;obtain ⟨fu,rfl⟩: ∃g,fu=g+1:=⟨fu - 1,by omega⟩;rw [y3d,ht,Option.bind_some];rcases hA with ⟨hF,h⟩|⟨_,h⟩
   ·rw [if_neg (by rw [y70 hW (by decide) hF (by decide+kernel)];decide)];obtain ⟨m1,rfl,hf,hn,hl,h⟩:=h.t0 hE ht;obtain ⟨t1,ht1⟩:=h.tok;have hW1:=hE.wf _ t1 ht1;obtain ⟨m2,rfl,hf1,hn1,hl1,h⟩:=h.t0 hE ht1;rw [hn,ht1,Option.bind_some,if_pos (by rw [y05 hW1 (by decide)];exact hf1)];obtain ⟨a,k',m3,e,hr,hm,hN⟩:=(x9i hE L hL m2).1 _ (k+1+1) op f h h1 h2;rw [e,Option.bind_some];have hp:=y6q a;obtain ⟨b,k2,m4,e2,hr2,hm2,hN2⟩:=(ih m3 (by omega)).1 rest k' op f fu hr h1 h2 (by omega);rw [e2,Option.bind_some];exact ⟨_,_,m4,rfl,hr2,by omega,by simp only [pairsN,pairN] at hN2 ⊢;omega⟩
   ·exact h.elim
theorem x9k (hE:TokA toks) (L:Nat) (hL:toks.length≤L) {n:Nat} {rest:List Txt} {k:Nat} {op:Int} {f:Nat} (h:Runs toks n (x8q::rest) k op) (h1:op≤200) (h2:200<op+f):Got toks n rest op k pairsN (q2i toks L f k):=by
 obtain ⟨m,t,rfl,ht,hA⟩:=q50 h;have hlt:k<toks.length:=(Qac.1 ht).1;have hW:=hE.wf k t ht;unfold q2i;rw [ht,Option.bind_some];rcases hA with ⟨hF,h⟩|⟨hF,h⟩
 ·obtain ⟨m1,rfl,hf,hn,hl,hop,h⟩:=h.topen hE ht;rw [if_pos (by rw [y05 hW (by decide)];exact hf)];obtain ⟨a,k',m2,e,hr,hm,hN⟩:=(q3c hE L hL m1).2 rest (k+1) (op+1) f L h (by omega) (by omega) (by omega);rw [Int.add_sub_cancel] at hr;exact ⟨a,k',m2,e,hr,by omega,by (try simp only at hN ⊢);omega⟩
 ·have h:Runs toks m rest k op:=by rcases h with ⟨_,h⟩|⟨_,h⟩<;>exact h
  rw [if_neg (by rw [y05 hW (by decide),y2o hF (by decide+kernel)];decide)];exact ⟨_,_,m,rfl,h,by omega,by simp [pairsN]⟩
theorem x3j (hE:TokA toks) (L:Nat) (hL:toks.length≤L): ∀n,
  (∀(rest:List Txt) (k:Nat) (op:Int) (f fu:Nat),Runs toks n (y1e::rest) k op→op≤200→200<op+f→toks.length<fu+k→Got toks n rest op k (sumN dirN) (y85 toks L f fu k))∧
  (∀(rest:List Txt) (k:Nat) (op:Int) (f fu:Nat),Runs toks n (nDIR::y1e::rest) k op→op≤200→200<op+f→toks.length<fu+k→Got toks n rest op k (sumN dirN) (y85 toks L f fu k)):=by
 intro n
 induction n using Nat.strongRecOn with
 |_ n ih=>
  refine ⟨fun rest k op f fu h h1 h2 h3=>?_,fun rest k op f fu h h1 h2 h3=>?_⟩
  ·obtain ⟨m,t,rfl,ht,hA⟩:=q5y h;have hlt:k<toks.length:=(Qac.1 ht).1;have hW:=hE.wf k t ht;rcases hA with ⟨hF,h⟩|⟨hF,h⟩
   ·obtain ⟨a,k',m1,e,hr,hm,hN⟩:=(ih m (by omega)).2 rest k op f fu h h1 h2 h3;exact ⟨a,k',m1,e,hr,by omega,hN⟩
   ·have h:Runs toks m rest k op:=by rcases h with ⟨_,h⟩|⟨_,h⟩<;>exact h
    obtain ⟨fu,rfl⟩: ∃g,fu=g+1:=⟨fu - 1,by omega⟩;rw [y85,ht,Option.bind_some,if_neg (by rw [y05 hW (by decide),y2o hF (by decide+kernel)];decide)];exact ⟨_,_,m,rfl,h,by omega,by simp [sumN]⟩
  ·obtain ⟨m,t,rfl,ht,hA⟩:=q70 h;have hlt:k<toks.length:=(Qac.1 ht).1;have hW:=hE.wf k t ht;obtain ⟨fu,rfl⟩: ∃g,fu=g+1:=⟨fu - 1,by omega⟩;rw [y85,ht,Option.bind_some];rcases hA with ⟨hF,h⟩|⟨_,h⟩
   ·obtain ⟨m1,rfl,hf,hn,hl,h⟩:=h.t0 hE ht;rw [if_pos (by rw [y05 hW (by decide)];exact hf),hn];obtain ⟨t1,ht1⟩:=h.tok;obtain ⟨m2,rfl,hf1,hn1,hl1,h⟩:=h.t0 hE ht1;rw [ht1,Option.bind_some,hn1];obtain ⟨a,k',m3,e,hr,hm,hN⟩:=x9k hE L hL h h1 h2;rw [e,Option.bind_some];obtain ⟨b,k2,m4,e2,hr2,hm2,hN2⟩:=(ih m3 (by omega)).1 rest k' op f fu hr h1 h2 (by omega);rw [e2,Option.bind_some];exact ⟨_,_,m4,rfl,hr2,by omega,by simp only [sumN,dirN] at hN2 ⊢;omega⟩
   ·exact h.elim
theorem y2q (hE:TokA toks) (L:Nat) (hL:toks.length≤L) {n:Nat} {rest:List Txt} {k:Nat} {op:Int} {f:Nat} (h:Runs toks n (y1e::rest) k op) (h1:op≤200) (h2:200<op+f) (hk:0<k):Got toks n rest op k (sumN dirN) (y5b toks L f k):=
 (x3j hE L hL n).1 rest k op f L h h1 h2 (by omega)
theorem y8k (hE:TokA toks) (L:Nat) (hL:toks.length≤L) {n:Nat} {rest:List Txt} {k:Nat} {op:Int} {f:Nat} (h:Runs toks n (nDIR::y1e::rest) k op) (h1:op≤200) (h2:200<op+f) (hk:0<k):Got toks n rest op k (sumN dirN) (y5b toks L f k):=
 (x3j hE L hL n).2 rest k op f L h h1 h2 (by omega)
theorem z88 (hE:TokA toks) (mark:UInt8) (hp:mark∈([33,38,40,41,58,61,64,91,93,123,124,125]:Txt)) (hb:y13 [mark]=0) (item list:Txt) (hs:(decide (item≠[])&&decide (item.length≤1000)&& !y4i item&&decide (item≠endT))=true) (hbi:y13 item=0)
  (hin: ∀{n k:Nat} {rest:List Txt} {op:Int},Runs toks n (list::rest) k op→ ∃m t,n=m+1∧toks[k]?=some t∧((fits [[mark]] t=true∧Runs toks m ([mark]::item::list::rest) k op)∨(fits [[mark]] t=false∧((fits [] t=true∧Runs toks m rest k op)∨(fits [] t=false∧(Runs toks m rest k op)))))):
  ∀(n:Nat) (rest:List Txt) (k:Nat) (op:Int) (fu:Nat),Runs toks n (item::list::rest) k op→toks.length<fu+k→Got toks n rest op k (fun l=>l.length) (z13 toks [mark] fu k):=by
 intro n
 induction n using Nat.strongRecOn with
 |_ n ih=>
  intro rest k op fu h h1;obtain ⟨t,ht⟩:=h.tok;have hlt:k<toks.length:=(Qac.1 ht).1;obtain ⟨fu,rfl⟩: ∃g,fu=g+1:=⟨fu - 1,by omega⟩;obtain ⟨m1,rfl,hf,hn,hl,h⟩:=h.t0 hE ht hs hbi;obtain ⟨m2,t1,rfl,ht1,hA⟩:=hin h;have hW1:=hE.wf _ t1 ht1;rw [z13,ht];simp only;rw [hn,ht1];simp only;rcases hA with ⟨hF,h⟩|⟨hF,h⟩
  ·obtain ⟨m3,rfl,hf1,hn1,hl1,h⟩:=h.t0 hE ht1 (by simp only [Qbd,List.mem_nil_iff,or_false] at hp;rcases hp with rfl|rfl|rfl|rfl|rfl|rfl|rfl|rfl|rfl|rfl|rfl|rfl<;>decide+kernel) hb;rw [if_pos (by rw [y05 hW1 hp];exact hf1)];obtain ⟨a,k',m4,e,hr,hm,hN⟩:=ih m3 (by omega) rest (k+1+1) op fu h (by omega);rw [e];exact ⟨_,_,m4,rfl,hr,by omega,by simp only [List.length_cons] at hN ⊢;omega⟩
  ·have h:Runs toks m2 rest (k+1) op:=by rcases h with ⟨_,h⟩|⟨_,h⟩<;>exact h
   rw [if_neg (by rw [y05 hW1 hp,y2o hF (by simp)];decide)];exact ⟨_,_,m2,rfl,h,by omega,by simp only [Qbj];omega⟩
theorem z1d (hE:TokA toks) (mark:UInt8) (hp:mark∈([33,38,40,41,58,61,64,91,93,123,124,125]:Txt)) (hb:y13 [mark]=0) (item list opt:Txt) (hs:(decide (item≠[])&&decide (item.length≤1000)&& !y4i item&&decide (item≠endT))=true) (hbi:y13 item=0)
  (hno: ∀t,y1m item t=true→t.kind=3)
  (hin: ∀{n k:Nat} {rest:List Txt} {op:Int},Runs toks n (list::rest) k op→ ∃m t,n=m+1∧toks[k]?=some t∧((fits [[mark]] t=true∧Runs toks m ([mark]::item::list::rest) k op)∨(fits [[mark]] t=false∧((fits [] t=true∧Runs toks m rest k op)∨(fits [] t=false∧(Runs toks m rest k op))))))
  (hopt: ∀{n k:Nat} {rest:List Txt} {op:Int},Runs toks n (opt::rest) k op→ ∃m t,n=m+1∧toks[k]?=some t∧((fits [[mark]] t=true∧Runs toks m ([mark]::rest) k op)∨(fits [[mark]] t=false∧((fits [] t=true∧Runs toks m rest k op)∨(fits [] t=false∧(Runs toks m rest k op))))))
  (L:Nat) (hL:toks.length≤L) {n:Nat} {rest:List Txt} {k:Nat} {op:Int} (hk:0<k) (h:Runs toks n (opt::item::list::rest) k op):Got toks n rest op k (fun l=>l.length) (y9h toks [mark] L k):=by
 obtain ⟨m,t,rfl,ht,hA⟩:=hopt h;have hW:=hE.wf _ t ht;unfold y9h;rw [ht];simp only;rcases hA with ⟨hF,h⟩|⟨hF,h⟩
 ·obtain ⟨m1,rfl,hf1,hn1,hl1,h⟩:=h.t0 hE ht (by simp only [Qbd,List.mem_nil_iff,or_false] at hp;rcases hp with rfl|rfl|rfl|rfl|rfl|rfl|rfl|rfl|rfl|rfl|rfl|rfl<;>decide+kernel) hb;rw [if_pos (by rw [y05 hW hp];exact hf1)];obtain ⟨a,k',m2,e,hr,hm,hN⟩:=z88 hE mark hp hb item list hs hbi hin m1 rest (k+1) op L h (by omega);exact ⟨a,k',m2,e,hr,by omega,by (try simp only at hN ⊢);omega⟩
 ·have h:Runs toks m (item::list::rest) k op:=by rcases h with ⟨_,h⟩|⟨_,h⟩<;>exact h
  rw [if_neg (by rw [y05 hW hp,y2o hF (by simp)];decide)];obtain ⟨a,k',m2,e,hr,hm,hN⟩:=z88 hE mark hp hb item list hs hbi hin m rest k op L h (by omega);exact ⟨a,k',m2,e,hr,by omega,hN⟩
theorem z2r {n:Nat} {st:List Txt} {k:Nat} {op:Int} (hE:TokA toks) {t:TokD} (ht:toks[k]?=some t) (h:Runs toks n (tSTR::st) k op): ∃p m,z0c toks k=some (p,k+1)∧n=m+1∧Runs toks m st (k+1) op:=by
 obtain ⟨m,rfl,hf,hn,hl,h⟩:=h.t0 hE ht;unfold z0c;rw [ht,Option.map_some,if_pos (x3h hf)];exact ⟨_,m,rfl,rfl,h⟩
theorem y6e {k:Nat} {t:TokD} (ht:toks[k]?=some t) (hf:y1m tSTR t=false):z0c toks k=some (y2v,k):=by
 unfold z0c;have:((t.kind==6)||(t.kind==7))=false:=hf;simp at this;rw [ht,Option.map_some,if_neg (by omega)]
theorem q4q (hE:TokA toks) (L:Nat) (hL:toks.length≤L) {n:Nat} {rest:List Txt} {k k0:Nat} {op:Int} {f:Nat} {p:NoteD} (hn0:z0c toks k0=some (p,k)) (hk0:k0≤k) (h:Runs toks n (y9s::rest) k op) (h0:0≤op) (h1:op≤200) (h2:200<op+f):
  Got toks n rest op k0 y1w (z5m toks L f k0):=by
 obtain ⟨m,t,rfl,ht,hA⟩:=x85 h;rcases hA with ⟨hF,h⟩|⟨_,h⟩
 ·obtain ⟨m1,rfl,hf,hn,hl,h⟩:=h.t0 hE ht;obtain ⟨t1,ht1⟩:=h.tok;have hW1:=hE.wf _ t1 ht1;obtain ⟨m2,rfl,hf1,hn1,hl1,h⟩:=h.t0 hE ht1;obtain ⟨r,k',m3,e,hr,hm,hN,hlen⟩:=x9j hE _ _ (k+1+1) op f h h0 h1 h2;obtain ⟨m4,t3,rfl,ht3,hA⟩:=x5s hr;have hW3:=hE.wf _ t3 ht3;unfold z5m;rw [hn0,Option.bind_some,ht,Option.bind_some,hn,ht1,Option.bind_some,if_pos (by rw [y05 hW1 (by decide)];exact hf1),e,Option.bind_some,ht3,Option.bind_some];rcases hA with ⟨hF,h⟩|⟨hF,h⟩
  ·obtain ⟨m5,rfl,hf3,hn3,hl3,h⟩:=h.t0 hE ht3;rw [if_pos (by rw [y05 hW3 (by decide)];exact hf3)];obtain ⟨a,k2,m6,e2,hr2,hm2,hN2⟩:=(x9i hE L hL _).1 _ _ op f h h1 h2;rw [e2,Option.bind_some];obtain ⟨b,k3,m7,e3,hr3,hm3,hN3⟩:=y2q hE L hL hr2 h1 h2 (by omega);rw [e3,Option.bind_some];exact ⟨_,_,m7,rfl,hr3,by omega,by simp only [y1w];omega⟩
  ·have h:Runs toks m4 (y1e::rest) k' op:=by rcases h with ⟨_,h⟩|⟨_,h⟩<;>exact h
   rw [if_neg (by rw [y05 hW3 (by decide),y2o hF (by decide+kernel)];decide),Option.bind_some];obtain ⟨b,k3,m7,e3,hr3,hm3,hN3⟩:=y2q hE L hL h h1 h2 (by omega);rw [e3,Option.bind_some];have hz:litN litZ=1:=rfl;exact ⟨_,_,m7,rfl,hr3,by omega,by simp only [y1w,hz];omega⟩
 ·exact h.elim
theorem x9l (hE:TokA toks) (L:Nat) (hL:toks.length≤L) {n:Nat} {rest:List Txt} {k:Nat} {op:Int} {f:Nat} (h:Runs toks n (y9b::rest) k op) (h0:0≤op) (h1:op≤200) (h2:200<op+f):
  Got toks n rest op k y1w (z5m toks L f k):=by
 obtain ⟨m,t,rfl,ht,hA⟩:=x3g h;rcases hA with ⟨hF,h⟩|⟨hF,⟨hF2,h⟩|⟨_,h⟩⟩
 ·obtain ⟨p,m1,e,em,h'⟩:=z2r hE ht h;subst em;obtain ⟨a,k2,m6,e2,hr2,hm2,hN2⟩:=q4q hE L hL e (by omega) h' h0 h1 h2;exact ⟨a,k2,m6,e2,hr2,by omega,hN2⟩
 ·obtain ⟨a,k2,m6,e2,hr2,hm2,hN2⟩:=q4q hE L hL (y6e ht (y2o hF (by decide+kernel))) (Qab _) h h0 h1 h2;exact ⟨a,k2,m6,e2,hr2,by omega,hN2⟩
 ·exact h.elim
theorem z5t (hE:TokA toks) (L:Nat) (hL:toks.length≤L) (cl:UInt8) (hc:cl=41∨cl=125): ∀n,
  (∀(rest:List Txt) (k:Nat) (op:Int) (f fu:Nat),Runs toks n (y5y::[cl]::rest) k op→0≤op→op≤200→200<op+f→toks.length<fu+k→Got toks n rest (op - 1) k (fun l=>sumN y1w l+1) (y4t toks [cl] L f fu k))∧
  (∀(rest:List Txt) (k:Nat) (op:Int) (f fu:Nat),Runs toks n (y9b::y5y::[cl]::rest) k op→0≤op→op≤200→200<op+f→toks.length<fu+k→Got toks n rest (op - 1) k (fun l=>sumN y1w l+1) (y4t toks [cl] L f fu k)):=by
 intro n
 induction n using Nat.strongRecOn with
 |_ n ih=>
  refine ⟨fun rest k op f fu h h0 h1 h2 h3=>?_,fun rest k op f fu h h0 h1 h2 h3=>?_⟩
  ·obtain ⟨m,t,rfl,ht,hA⟩:=x83 h;have hlt:k<toks.length:=(Qac.1 ht).1;have hW:=hE.wf k t ht;rcases hA with ⟨hF,h⟩|⟨hF,h⟩
   ·obtain ⟨a,k',m1,e,hr,hm,hN⟩:=(ih m (by omega)).2 rest k op f fu h h0 h1 h2 h3;exact ⟨a,k',m1,e,hr,by omega,hN⟩
   ·have h:Runs toks m ([cl]::rest) k op:=by rcases h with ⟨_,h⟩|⟨_,h⟩<;>exact h
    obtain ⟨fu,rfl⟩: ∃g,fu=g+1:=⟨fu - 1,by omega⟩;rw [y4t,ht,Option.bind_some];obtain ⟨m',rfl,hf,hn,hl,h⟩:=h.tclose hE ht (by rcases hc with rfl|rfl<;>decide+kernel) (by rcases hc with rfl|rfl<;>decide+kernel);rw [if_pos (by rw [y05 hW (by rcases hc with rfl|rfl<;>decide)];exact hf)];exact ⟨_,_,m',rfl,h,by omega,by simp [sumN];omega⟩
  ·obtain ⟨t,ht⟩:=h.tok;have hlt:k<toks.length:=(Qac.1 ht).1;have hW:=hE.wf k t ht
   have hno:isF t [cl]=false:=by
    obtain ⟨m,t',_,ht',hA⟩:=x3g h;rw [ht] at ht';injection ht' with ht';subst ht';rcases hA with ⟨hF,_⟩|⟨_,⟨hF,_⟩|⟨_,h⟩⟩
    ·exact y70 hW (by rcases hc with rfl|rfl<;>decide) hF (by rcases hc with rfl|rfl<;>decide+kernel)
    ·exact y70 hW (by rcases hc with rfl|rfl<;>decide) hF (by rcases hc with rfl|rfl<;>decide+kernel)
    ·exact h.elim
   obtain ⟨fu,rfl⟩: ∃g,fu=g+1:=⟨fu - 1,by omega⟩;rw [y4t,ht,Option.bind_some,if_neg (by rw [hno];decide)];obtain ⟨a,k',m3,e,hr,hm,hN⟩:=x9l hE L hL h h0 h1 h2;rw [e,Option.bind_some];have hp:=y2u a;obtain ⟨b,k2,m4,e2,hr2,hm2,hN2⟩:=(ih m3 (by omega)).1 rest k' op f fu hr h0 h1 h2 (by omega);rw [e2,Option.bind_some];exact ⟨_,_,m4,rfl,hr2,by omega,by simp only [sumN] at hN2 ⊢;omega⟩
theorem z34 (hE:TokA toks) (L:Nat) (hL:toks.length≤L) {n:Nat} {rest:List Txt} {k:Nat} {op:Int} {f:Nat} (h:Runs toks n (y7z::rest) k op) (h0:0≤op) (h1:op≤200) (h2:200<op+f):Got toks n rest op k (sumN y1w) (y35 toks [40] [41] L f k):=by
 obtain ⟨m,t,rfl,ht,hA⟩:=x82 h;have hlt:k<toks.length:=(Qac.1 ht).1;have hW:=hE.wf k t ht;unfold y35;rw [ht,Option.bind_some];rcases hA with ⟨hF,h⟩|⟨hF,h⟩
 ·obtain ⟨m1,rfl,hf,hn,hl,hop,h⟩:=h.topen hE ht;rw [if_pos (by rw [y05 hW (by decide)];exact hf)];obtain ⟨a,k',m2,e,hr,hm,hN⟩:=(z5t hE L hL 41 (.inl rfl) m1).2 rest (k+1) (op+1) f L h (by omega) (by omega) (by omega) (by omega);rw [Int.add_sub_cancel] at hr;exact ⟨a,k',m2,e,hr,by omega,by (try simp only at hN ⊢);omega⟩
 ·have h:Runs toks m rest k op:=by rcases h with ⟨_,h⟩|⟨_,h⟩<;>exact h
  rw [if_neg (by rw [y05 hW (by decide),y2o hF (by decide+kernel)];decide)];exact ⟨_,_,m,rfl,h,by omega,by simp [sumN]⟩
theorem z35 (hE:TokA toks) (L:Nat) (hL:toks.length≤L) {n:Nat} {rest:List Txt} {k:Nat} {op:Int} {f:Nat} (h:Runs toks n (y60::rest) k op) (h0:0≤op) (h1:op≤200) (h2:200<op+f):Got toks n rest op k (sumN y1w) (y35 toks [123] [125] L f k):=by
 obtain ⟨m,t,rfl,ht,hA⟩:=x5y h;have hlt:k<toks.length:=(Qac.1 ht).1;have hW:=hE.wf k t ht;unfold y35;rw [ht,Option.bind_some];rcases hA with ⟨hF,h⟩|⟨hF,h⟩
 ·obtain ⟨m1,rfl,hf,hn,hl,hop,h⟩:=h.topen hE ht;rw [if_pos (by rw [y05 hW (by decide)];exact hf)];obtain ⟨a,k',m2,e,hr,hm,hN⟩:=(z5t hE L hL 125 (.inr rfl) m1).2 rest (k+1) (op+1) f L h (by omega) (by omega) (by omega) (by omega);rw [Int.add_sub_cancel] at hr;exact ⟨a,k',m2,e,hr,by omega,by (try simp only at hN ⊢);omega⟩
 ·exact h.elim
theorem z5u (hE:TokA toks) (L:Nat) (hL:toks.length≤L) {n:Nat} {rest:List Txt} {k:Nat} {op:Int} {f:Nat} (h:Runs toks n (y6z::rest) k op) (h0:0≤op) (h1:op≤200) (h2:200<op+f):Got toks n rest op k (sumN y1w) (y35 toks [123] [125] L f k):=by
 obtain ⟨m,t,rfl,ht,hA⟩:=x9d h;have hW:=hE.wf k t ht;rcases hA with ⟨hF,h⟩|⟨hF,h⟩
 ·obtain ⟨a,k',m2,e,hr,hm,hN⟩:=z35 hE L hL h h0 h1 h2;exact ⟨a,k',m2,e,hr,by omega,by (try simp only at hN ⊢);omega⟩
 ·have h:Runs toks m rest k op:=by rcases h with ⟨_,h⟩|⟨_,h⟩<;>exact h
  unfold y35;rw [ht,Option.bind_some,if_neg (by rw [y05 hW (by decide),y2o hF (by decide+kernel)];decide)];exact ⟨_,_,m,rfl,h,by omega,by simp [sumN]⟩
end
section
variable {toks : List TokD}
theorem q4r (hE:TokA toks) (L:Nat) (hL:toks.length≤L) {n:Nat} {rest:List Txt} {k k0:Nat} {op:Int} {f:Nat} {p:NoteD} (hn0:z0c toks k0=some (p,k)) (hk0:k0≤k) (h:Runs toks n (y9r::rest) k op) (h0:0≤op) (h1:op≤200) (h2:200<op+f):
  Got toks n rest op k0 y1j (y5q toks L f k0):=by
 obtain ⟨m,t,rfl,ht,hA⟩:=x81 h;rcases hA with ⟨hF,h⟩|⟨_,h⟩
 ·obtain ⟨m1,rfl,hf,hn,hl,h⟩:=h.t0 hE ht;obtain ⟨a,k1,m2,e1,hr,hm1,hN1⟩:=z34 hE L hL h h0 h1 h2;obtain ⟨t2,ht2⟩:=hr.tok;have hW2:=hE.wf _ t2 ht2;obtain ⟨m3,rfl,hf2,hn2,hl2,h⟩:=hr.t0 hE ht2;obtain ⟨r,k',m4,e,hr,hm,hN,hlen⟩:=x9j hE _ _ (k1+1) op f h h0 h1 h2;obtain ⟨b,k3,m7,e3,hr3,hm3,hN3⟩:=y2q hE L hL hr h1 h2 (by omega);unfold y5q;rw [hn0,Option.bind_some,ht,Option.bind_some,hn,e1,Option.bind_some,ht2,Option.bind_some,if_pos (by rw [y05 hW2 (by decide)];exact hf2),e,Option.bind_some,e3,Option.bind_some];exact ⟨_,_,m7,rfl,hr3,by omega,by simp only [y1j];omega⟩
 ·exact h.elim
theorem x9m (hE:TokA toks) (L:Nat) (hL:toks.length≤L) {n:Nat} {rest:List Txt} {k:Nat} {op:Int} {f:Nat} (h:Runs toks n (z2b::rest) k op) (h0:0≤op) (h1:op≤200) (h2:200<op+f):
  Got toks n rest op k y1j (y5q toks L f k):=by
 obtain ⟨m,t,rfl,ht,hA⟩:=x3f h;rcases hA with ⟨hF,h⟩|⟨hF,⟨hF2,h⟩|⟨_,h⟩⟩
 ·obtain ⟨p,m1,e,em,h'⟩:=z2r hE ht h;subst em;obtain ⟨a,k2,m6,e2,hr2,hm2,hN2⟩:=q4r hE L hL e (by omega) h' h0 h1 h2;exact ⟨a,k2,m6,e2,hr2,by omega,hN2⟩
 ·obtain ⟨a,k2,m6,e2,hr2,hm2,hN2⟩:=q4r hE L hL (y6e ht (y2o hF (by decide+kernel))) (Qab _) h h0 h1 h2;exact ⟨a,k2,m6,e2,hr2,by omega,hN2⟩
 ·exact h.elim
theorem q4s (hE:TokA toks) (L:Nat) (hL:toks.length≤L) {n:Nat} {rest:List Txt} {k k0:Nat} {op:Int} {f:Nat} {p:NoteD} (hn0:z0c toks k0=some (p,k)) (hk0:k0≤k) (h:Runs toks n (z31::rest) k op) (h1:op≤200) (h2:200<op+f):
  Got toks n rest op k0 y2n (y7q toks L f k0):=by
 obtain ⟨m,t,rfl,ht,hA⟩:=q20 h;rcases hA with ⟨hF,h⟩|⟨_,h⟩
 ·obtain ⟨m1,rfl,hf,hn,hl,h⟩:=h.t0 hE ht;obtain ⟨b,k3,m7,e3,hr3,hm3,hN3⟩:=y2q hE L hL h h1 h2 (by omega);unfold y7q;rw [hn0,Option.bind_some,ht,Option.bind_some,hn,e3,Option.bind_some];exact ⟨_,_,m7,rfl,hr3,by omega,by simp only [y2n];omega⟩
 ·exact h.elim
theorem x9n (hE:TokA toks) (L:Nat) (hL:toks.length≤L) {n:Nat} {rest:List Txt} {k:Nat} {op:Int} {f:Nat} (h:Runs toks n (z83::rest) k op) (h1:op≤200) (h2:200<op+f):
  Got toks n rest op k y2n (y7q toks L f k):=by
 obtain ⟨m,t,rfl,ht,hA⟩:=x9a h;rcases hA with ⟨hF,h⟩|⟨hF,⟨hF2,h⟩|⟨_,h⟩⟩
 ·obtain ⟨p,m1,e,em,h'⟩:=z2r hE ht h;subst em;obtain ⟨a,k2,m6,e2,hr2,hm2,hN2⟩:=q4s hE L hL e (by omega) h' h1 h2;exact ⟨a,k2,m6,e2,hr2,by omega,hN2⟩
 ·obtain ⟨a,k2,m6,e2,hr2,hm2,hN2⟩:=q4s hE L hL (y6e ht (y2o hF (by decide+kernel))) (Qab _) h h1 h2;exact ⟨a,k2,m6,e2,hr2,by omega,hN2⟩
 ·exact h.elim
theorem q3d (hE:TokA toks) {n:Nat} {rest:List Txt} {k:Nat} {op:Int} (h:Runs toks n (z82::rest) k op):Got toks n rest op k (fun _=>1) (z3h toks k):=by
 obtain ⟨m,t,rfl,ht,hA⟩:=x8v h;rcases hA with ⟨hF,h⟩|⟨_,h⟩
 ·obtain ⟨m1,rfl,hf,hn,hl,h⟩:=h.t0 hE ht;obtain ⟨t1,ht1⟩:=h.tok;have hW1:=hE.wf _ t1 ht1;obtain ⟨m2,rfl,hf1,hn1,hl1,h⟩:=h.t0 hE ht1;obtain ⟨t2,ht2⟩:=h.tok;obtain ⟨m3,rfl,hf2,hn2,hl2,h⟩:=h.t0 hE ht2
  have hs:y1m tSTR t=false:=by
   have:((t.kind==3)&&y4j t.text y56)=true:=hf;simp only [Qao,Qa7] at this
   show ((t.kind==6)||(t.kind==7))=false
   rw [this.1];rfl
  unfold z3h;rw [y6e ht hs,Option.bind_some,ht,Option.bind_some];simp only;rw [hn,ht1,Option.bind_some,if_pos (by rw [y05 hW1 (by decide)];exact hf1),ht2,Option.bind_some,hn2];exact ⟨_,_,m3,rfl,h,by omega,by show 1+k≤_;omega⟩
 ·exact h.elim
theorem x9o {α:Type} (hE:TokA toks) (L:Nat) (hL:toks.length≤L) (item list:Txt) (e:Nat→Option (α×Nat)) (N:α→Nat) (hN: ∀a,0<N a) (op:Int) (hop:op≤199)
  (hitem: ∀(n:Nat) (rest:List Txt) (k:Nat),Runs toks n (item::rest) k (op+1)→Got toks n rest (op+1) k N (e k))
  (hno: ∀(n:Nat) (rest:List Txt) (k:Nat) (op:Int) (t:TokD),Runs toks n (item::rest) k op→toks[k]?=some t→isF t [125]=false)
  (hin: ∀(n:Nat) (rest:List Txt) (k:Nat) (op:Int),Runs toks n (list::rest) k op→ ∃m t,n=m+1∧toks[k]?=some t∧(Runs toks m (item::list::rest) k op∨Runs toks m rest k op)): ∀n,
  (∀(rest:List Txt) (k fu:Nat),Runs toks n (list::[125]::rest) k (op+1)→toks.length<fu+k→Got toks n rest op k (fun l=>sumN N l+1) (y6o toks e fu k))∧
  (∀(rest:List Txt) (k fu:Nat),Runs toks n (item::list::[125]::rest) k (op+1)→toks.length<fu+k→Got toks n rest op k (fun l=>sumN N l+1) (y6o toks e fu k)):=by
 intro n
 induction n using Nat.strongRecOn with
 |_ n ih=>
  refine ⟨fun rest k fu h h3=>?_,fun rest k fu h h3=>?_⟩
  ·obtain ⟨m,t,rfl,ht,hA⟩:=hin _ _ _ _ h;have hlt:k<toks.length:=(Qac.1 ht).1;have hW:=hE.wf k t ht;rcases hA with h|h
   ·obtain ⟨a,k',m1,e',hr,hm,hN⟩:=(ih m (by omega)).2 rest k fu h h3;exact ⟨a,k',m1,e',hr,by omega,hN⟩
   ·obtain ⟨fu,rfl⟩: ∃g,fu=g+1:=⟨fu - 1,by omega⟩;rw [y6o,ht,Option.bind_some];obtain ⟨m',rfl,hf,hn,hl,h⟩:=h.tclose hE ht;rw [if_pos (by rw [y05 hW (by decide)];exact hf)];rw [Int.add_sub_cancel] at h;exact ⟨_,_,m',rfl,h,by omega,by simp [sumN];omega⟩
  ·obtain ⟨t,ht⟩:=h.tok;have hlt:k<toks.length:=(Qac.1 ht).1;obtain ⟨fu,rfl⟩: ∃g,fu=g+1:=⟨fu - 1,by omega⟩;rw [y6o,ht,Option.bind_some,if_neg (by rw [hno _ _ _ _ _ h ht];decide)];obtain ⟨a,k',m3,e1,hr,hm,hN1⟩:=hitem _ _ _ h;rw [e1,Option.bind_some];have hp:=hN a;obtain ⟨b,k2,m4,e2,hr2,hm2,hN2⟩:=(ih m3 (by omega)).1 rest k' fu hr (by omega);rw [e2,Option.bind_some];exact ⟨_,_,m4,rfl,hr2,by omega,by simp only [sumN] at hN2 ⊢;omega⟩
theorem z1e {α:Type} (hE:TokA toks) (L:Nat) (hL:toks.length≤L) (item list:Txt) (e:Nat→Option (α×Nat)) (N:α→Nat) (hN: ∀a,0<N a) (op:Int)
  (hitem:op≤199→ ∀(n:Nat) (rest:List Txt) (k:Nat),Runs toks n (item::rest) k (op+1)→Got toks n rest (op+1) k N (e k))
  (hno: ∀(n:Nat) (rest:List Txt) (k:Nat) (op:Int) (t:TokD),Runs toks n (item::rest) k op→toks[k]?=some t→isF t [125]=false)
  (hin: ∀(n:Nat) (rest:List Txt) (k:Nat) (op:Int),Runs toks n (list::rest) k op→ ∃m t,n=m+1∧toks[k]?=some t∧(Runs toks m (item::list::rest) k op∨Runs toks m rest k op))
  {n:Nat} {rest:List Txt} {k:Nat} (h:Runs toks n ([123]::item::list::[125]::rest) k op):Got toks n rest op k (fun l=>sumN N l) (y3r toks e L k):=by
 obtain ⟨t,ht⟩:=h.tok;have hlt:k<toks.length:=(Qac.1 ht).1;have hW:=hE.wf k t ht;obtain ⟨m1,rfl,hf,hn,hl,hop,h⟩:=h.topen hE ht;unfold y3r;rw [ht,Option.bind_some,if_pos (by rw [y05 hW (by decide)];exact hf)];obtain ⟨a,k',m2,e1,hr,hm,hN1⟩:=(x9o hE L hL item list e N hN op (by omega) (hitem (by omega)) hno hin m1).2 rest (k+1) L h (by omega);exact ⟨a,k',m2,e1,hr,by omega,by simp only at hN1 ⊢;omega⟩
theorem z7g {α:Type} (hE:TokA toks) (e:Nat→Option (α×Nat)) (L:Nat) {k:Nat} {t:TokD} (ht:toks[k]?=some t) (hf:y1m [123] t=false):y3r toks e L k=some ([],k):=by
 unfold y3r;rw [ht,Option.bind_some,if_neg (by rw [y05 (hE.wf k t ht) (by decide),hf];decide)]
theorem z0l (hE:TokA toks) {k:Nat} {t:TokD} {F:List Txt} (ht:toks[k]?=some t) (hF:fits F t=true) (hn:F.contains [125]=false):isF t [125]=false:=y70 (hE.wf k t ht) (by decide) hF hn
theorem z36 (hE:TokA toks) (L:Nat) (hL:toks.length≤L) {n:Nat} {rest:List Txt} {k:Nat} {op:Int} {f:Nat} (h:Runs toks n (y6x::rest) k op) (h0:0≤op) (h2:200<op+f):Got toks n rest op k (sumN y1j) (y3r toks (y5q toks L f) L k):=by
 obtain ⟨m,t,rfl,ht,hA⟩:=x5m h;rcases hA with ⟨hF,h⟩|⟨_,h⟩
 ·obtain ⟨a,k',m1,e,hr,hm,hN⟩:=z1e hE L hL z2b y9q (y5q toks L f) y1j y2b op (fun ho n rest k h=>x9m hE L hL h (by omega) (by omega) (by omega))
   (fun n rest k op t h ht=>by
     obtain ⟨m,t',_,ht',hA⟩:=x3f h
     rw [ht] at ht';injection ht' with ht';subst ht'
     rcases hA with ⟨hF,_⟩|⟨_,⟨hF,_⟩|⟨_,h⟩⟩
     ·exact z0l hE ht hF (by decide+kernel)
     ·exact z0l hE ht hF (by decide+kernel)
     ·exact h.elim)
   (fun n rest k op h=>by
     obtain ⟨m,t,rfl,ht,hA⟩:=x8z h;rcases hA with ⟨_,h⟩|⟨_,⟨_,h⟩|⟨_,h⟩⟩
     ·exact ⟨m,t,rfl,ht,.inl h⟩
     ·exact ⟨m,t,rfl,ht,.inr h⟩
     ·exact ⟨m,t,rfl,ht,.inr h⟩) h
  exact ⟨a,k',m1,e,hr,by omega,hN⟩
 ·exact h.elim
theorem z1f (hE:TokA toks) (L:Nat) (hL:toks.length≤L) {n:Nat} {rest:List Txt} {k:Nat} {op:Int} {f:Nat} (h:Runs toks n (y3v::rest) k op) (h0:0≤op) (h2:200<op+f):Got toks n rest op k (sumN y1j) (y3r toks (y5q toks L f) L k):=by
 obtain ⟨m,t,rfl,ht,hA⟩:=x8y h;rcases hA with ⟨hF,h⟩|⟨hF,h⟩
 ·obtain ⟨a,k',m1,e,hr,hm,hN⟩:=z36 hE L hL h h0 h2;exact ⟨a,k',m1,e,hr,by omega,hN⟩
 ·have h:Runs toks m rest k op:=by rcases h with ⟨_,h⟩|⟨_,h⟩<;>exact h
  rw [z7g hE _ L ht (y2o hF (by decide+kernel))];exact ⟨_,_,m,rfl,h,by omega,by simp [sumN]⟩
theorem z5v (hE:TokA toks) (L:Nat) (hL:toks.length≤L) {n:Nat} {rest:List Txt} {k:Nat} {op:Int} {f:Nat} (h:Runs toks n (y9t::rest) k op) (h0:0≤op) (h2:200<op+f):Got toks n rest op k (sumN y2n) (y3r toks (y7q toks L f) L k):=by
 obtain ⟨m,t,rfl,ht,hA⟩:=x88 h;rcases hA with ⟨hF,h⟩|⟨_,h⟩
 ·obtain ⟨a,k',m1,e,hr,hm,hN⟩:=z1e hE L hL z83 z30 (y7q toks L f) y2n (fun d=>Nat.succ_pos _) op (fun ho n rest k h=>x9n hE L hL h (by omega) (by omega))
   (fun n rest k op t h ht=>by
     obtain ⟨m,t',_,ht',hA⟩:=x9a h
     rw [ht] at ht';injection ht' with ht';subst ht'
     rcases hA with ⟨hF,_⟩|⟨_,⟨hF,_⟩|⟨_,h⟩⟩
     ·exact z0l hE ht hF (by decide+kernel)
     ·exact z0l hE ht hF (by decide+kernel)
     ·exact h.elim)
   (fun n rest k op h=>by
     obtain ⟨m,t,rfl,ht,hA⟩:=q2y h;rcases hA with ⟨_,h⟩|⟨_,⟨_,h⟩|⟨_,h⟩⟩
     ·exact ⟨m,t,rfl,ht,.inl h⟩
     ·exact ⟨m,t,rfl,ht,.inr h⟩
     ·exact ⟨m,t,rfl,ht,.inr h⟩) h
  exact ⟨a,k',m1,e,hr,by omega,hN⟩
 ·exact h.elim
theorem z89 (hE:TokA toks) (L:Nat) (hL:toks.length≤L) {n:Nat} {rest:List Txt} {k:Nat} {op:Int} {f:Nat} (h:Runs toks n (z0k::rest) k op) (h0:0≤op) (h2:200<op+f):Got toks n rest op k (sumN y2n) (y3r toks (y7q toks L f) L k):=by
 obtain ⟨m,t,rfl,ht,hA⟩:=q2x h;rcases hA with ⟨hF,h⟩|⟨hF,h⟩
 ·obtain ⟨a,k',m1,e,hr,hm,hN⟩:=z5v hE L hL h h0 h2;exact ⟨a,k',m1,e,hr,by omega,hN⟩
 ·have h:Runs toks m rest k op:=by rcases h with ⟨_,h⟩|⟨_,h⟩<;>exact h
  rw [z7g hE _ L ht (y2o hF (by decide+kernel))];exact ⟨_,_,m,rfl,h,by omega,by simp [sumN]⟩
theorem x9p {α:Type}: ∀l:List α,sumN (fun _=>1) l=l.length
 |[]=>rfl
 |_::r=>by simp only [sumN,x9p r,List.length_cons];omega
theorem z37 (hE:TokA toks) (L:Nat) (hL:toks.length≤L) {n:Nat} {rest:List Txt} {k:Nat} {op:Int} (h:Runs toks n (y6d::rest) k op) (h0:0≤op):Got toks n rest op k (fun l=>l.length) (y3r toks (z3h toks) L k):=by
 obtain ⟨m,t,rfl,ht,hA⟩:=x3e h;rcases hA with ⟨hF,h⟩|⟨_,h⟩
 ·obtain ⟨a,k',m1,e,hr,hm,hN⟩:=z1e hE L hL z82 z3z (z3h toks) (fun _=>1) (fun _=>Nat.one_pos) op (fun ho n rest k h=>q3d hE h)
   (fun n rest k op t h ht=>by
     obtain ⟨m,t',_,ht',hA⟩:=x8v h
     rw [ht] at ht';injection ht' with ht';subst ht'
     rcases hA with ⟨hF,_⟩|⟨_,h⟩
     ·exact z0l hE ht hF (by decide+kernel)
     ·exact h.elim)
   (fun n rest k op h=>by
     obtain ⟨m,t,rfl,ht,hA⟩:=q2v h;rcases hA with ⟨_,h⟩|⟨_,⟨_,h⟩|⟨_,h⟩⟩
     ·exact ⟨m,t,rfl,ht,.inl h⟩
     ·exact ⟨m,t,rfl,ht,.inr h⟩
     ·exact ⟨m,t,rfl,ht,.inr h⟩) h
  exact ⟨a,k',m1,e,hr,by omega,by simp only at hN;rw [x9p] at hN;exact hN⟩
 ·exact h.elim
theorem x52 (hE:TokA toks) (L:Nat) (hL:toks.length≤L) {n:Nat} {rest:List Txt} {k:Nat} {op:Int} (h:Runs toks n (y9o::rest) k op) (h0:0≤op):Got toks n rest op k (fun l=>l.length) (y3r toks (z3h toks) L k):=by
 obtain ⟨m,t,rfl,ht,hA⟩:=x8s h;rcases hA with ⟨hF,h⟩|⟨hF,h⟩
 ·obtain ⟨a,k',m1,e,hr,hm,hN⟩:=z37 hE L hL h h0;exact ⟨a,k',m1,e,hr,by omega,hN⟩
 ·have h:Runs toks m rest k op:=by rcases h with ⟨_,h⟩|⟨_,h⟩<;>exact h
  rw [z7g hE _ L ht (y2o hF (by decide+kernel))];exact ⟨_,_,m,rfl,h,by omega,by simp⟩
theorem z38 (hE:TokA toks) (L f:Nat) (hL:0<L) {k:Nat} {t:TokD} (ht:toks[k]?=some t) {F:List Txt} (hF:fits F t=true) (hn:F.contains [64]=false):y5b toks L f k=some ([],k):=by
 obtain ⟨fu,rfl⟩: ∃g,L=g+1:=⟨L - 1,by omega⟩;unfold y5b;rw [y85,ht,Option.bind_some,if_neg (by rw [y70 (hE.wf k t ht) (by decide) hF hn];decide)]
theorem x53 {t:TokD} (h:y1m [46,112,108,97,99,101] t=true):t.kind=3:=by
 have:((t.kind==3)&&y4j t.text y42)=true:=h;simp only [Qao,Qa7] at this;exact this.1
theorem z4a (hE:TokA toks) (L:Nat) (hL:toks.length≤L) {n:Nat} {rest:List Txt} {k:Nat} {op:Int} (h:Runs toks n (y6w::rest) k op):Got toks n rest op k (fun l=>l.length) (optF toks [105,109,112,108,101,109,101,110,116,115] [38] L k):=by
 obtain ⟨m,t,rfl,ht,hA⟩:=x5j h;have hW:=hE.wf _ t ht;rcases hA with ⟨hF,h⟩|⟨_,h⟩
 ·obtain ⟨m1,rfl,hf,hn,hl,h⟩:=h.t0 hE ht;unfold optF;rw [ht,Option.bind_some,if_pos (by rw [z1c hW (by decide)];exact hf)];obtain ⟨a,k',m2,e,hr,hm,hN⟩:=z1d hE 38 (by decide) (by decide+kernel) z7f y9p nAMP (by decide+kernel) (by decide+kernel) (fun t h=>z33 h) x8x q7z L hL (by omega) h;exact ⟨a,k',m2,e,hr,by omega,by simp only at hN ⊢;omega⟩
 ·exact h.elim
theorem z4b (hE:TokA toks) (L:Nat) {k:Nat} {t:TokD} (ht:toks[k]?=some t) (hf:y1m [39,105,109,112,108,101,109,101,110,116,115] t=false):optF toks [105,109,112,108,101,109,101,110,116,115] [38] L k=some ([],k):=by
 unfold optF;rw [ht,Option.bind_some,if_neg (by rw [z1c (hE.wf k t ht) (by decide),hf];decide)]
theorem x54 (hE:TokA toks) (L:Nat) (hL:toks.length≤L) {n:Nat} {rest:List Txt} {k:Nat} {op:Int} (h:Runs toks n (y5x::rest) k op):Got toks n rest op k (fun l=>l.length) (optF toks [105,109,112,108,101,109,101,110,116,115] [38] L k):=by
 obtain ⟨m,t,rfl,ht,hA⟩:=x8w h;rcases hA with ⟨hF,h⟩|⟨hF,h⟩
 ·obtain ⟨a,k',m2,e,hr,hm,hN⟩:=z4a hE L hL h;exact ⟨a,k',m2,e,hr,by omega,hN⟩
 ·have h:Runs toks m rest k op:=by rcases h with ⟨_,h⟩|⟨_,h⟩<;>exact h
  rw [z4b hE L ht (y2o hF (by decide+kernel))];exact ⟨_,_,m,rfl,h,by omega,by simp⟩
theorem z2c (hE:TokA toks) (L:Nat) (hL:toks.length≤L) {n:Nat} {rest:List Txt} {k:Nat} {op:Int} (h:Runs toks n (y5h::rest) k op):Got toks n rest op k (fun l=>l.length) (optF toks [61] [124] L k):=by
 obtain ⟨m,t,rfl,ht,hA⟩:=x1m h;have hW:=hE.wf _ t ht;rcases hA with ⟨hF,h⟩|⟨_,h⟩
 ·obtain ⟨m1,rfl,hf,hn,hl,h⟩:=h.t0 hE ht;unfold optF;rw [ht,Option.bind_some,if_pos (by rw [y05 hW (by decide)];exact hf)];obtain ⟨a,k',m2,e,hr,hm,hN⟩:=z1d hE 124 (by decide) (by decide+kernel) z7f y6y nBAR (by decide+kernel) (by decide+kernel) (fun t h=>z33 h) x5u q4p L hL (by omega) h;exact ⟨a,k',m2,e,hr,by omega,by simp only at hN ⊢;omega⟩
 ·exact h.elim
theorem z4c (hE:TokA toks) (L:Nat) (hL:toks.length≤L) {n:Nat} {rest:List Txt} {k:Nat} {op:Int} (h:Runs toks n (y4w::rest) k op):Got toks n rest op k (fun l=>l.length) (optF toks [61] [124] L k):=by
 obtain ⟨m,t,rfl,ht,hA⟩:=x5t h;rcases hA with ⟨hF,h⟩|⟨hF,h⟩
 ·obtain ⟨a,k',m2,e,hr,hm,hN⟩:=z2c hE L hL h;exact ⟨a,k',m2,e,hr,by omega,hN⟩
 ·have h:Runs toks m rest k op:=by rcases h with ⟨_,h⟩|⟨_,h⟩<;>exact h
  unfold optF;rw [ht,Option.bind_some,if_neg (by rw [y05 (hE.wf k t ht) (by decide),y2o hF (by decide+kernel)];decide)];exact ⟨_,_,m,rfl,h,by omega,by simp⟩
section body
variable (hE : TokA toks) (L : Nat) (hL : toks.length ≤ L) (f : Nat) (h2 : 200 < f) (hd : NoteD × Bool × TokD × Nat) {k0 : Nat} (hk0 : k0 + 1 ≤ hd.2.2.2)
include hE hL h2 hk0
theorem z4d {n:Nat} {st:List Txt} {rest:List Txt} (h:Runs toks n (st++rest) hd.2.2.2 0) (hst:st=[y1e,y6d]∨st=[nDIR,y1e,y9o]∨st=[y6d]):Got toks n rest 0 k0 defN (y7r toks L f hd):=by
 unfold y7r
 have fin: ∀n k1 ds,Got toks n rest 0 k1 (fun l=>l.length) (y3r toks (z3h toks) L k1)→y5b toks L f hd.2.2.2=some (ds,k1)→sumN dirN ds+hd.2.2.2≤k1→Got toks n rest 0 k0 defN ((y5b toks L f hd.2.2.2).bind fun d=>(y3r toks (z3h toks) L d.2).bind fun r=>some ((⟨1,hd.2.1,hd.1,[],[],d.1,[],[],[],[],r.1,false,[],hd.2.2.1.line,hd.2.2.1.col⟩:DefD),r.2)):=by
  rintro n k1 ds ⟨a,k',m1,e,hr,hm,hN⟩ hds hsz;rw [hds,Option.bind_some,e,Option.bind_some];exact ⟨_,_,m1,rfl,hr,hm,by simp only [defN,sumN,List.length_nil] at hN ⊢;omega⟩
 rcases hst with rfl|rfl|rfl
 ·obtain ⟨a,k',m1,e,hr,hm,hN⟩:=y2q hE L hL h (by omega) (by omega:200<(0:Int)+(f:Nat)) (by omega:0<hd.2.2.2);have hg:=z37 hE L hL hr (Int.le_refl _);obtain ⟨x,y,z,g1,g2,g3,g4⟩:=fin _ _ _ hg e hN;exact ⟨x,y,z,g1,g2,by omega,g4⟩
 ·obtain ⟨a,k',m1,e,hr,hm,hN⟩:=y8k hE L hL h (by omega) (by omega:200<(0:Int)+(f:Nat)) (by omega:0<hd.2.2.2);have hg:=x52 hE L hL hr (Int.le_refl _);obtain ⟨x,y,z,g1,g2,g3,g4⟩:=fin _ _ _ hg e hN;exact ⟨x,y,z,g1,g2,by omega,g4⟩
 ·have hg:=z37 hE L hL h (Int.le_refl _);obtain ⟨m,t,_,ht,hA⟩:=x3e h;rcases hA with ⟨hF,_⟩|⟨_,hA⟩
  ·have hlt:=(Qac.1 ht).1;exact fin _ _ _ hg (z38 hE L f (by omega) ht hF (by decide+kernel)) (by simp [sumN])
  ·exact hA.elim
theorem z9a {n:Nat} {st:List Txt} {rest:List Txt} (h:Runs toks n (z7f::(st++rest)) hd.2.2.2 0) (hst:st=[y1e]∨st=[nDIR,y1e]):Got toks n rest 0 k0 defN (y7s toks L f hd):=by
 obtain ⟨t,ht⟩:=h.tok;obtain ⟨m1,rfl,hf,hn,hl,h⟩:=h.t0 hE ht;unfold y7s;rw [ht,Option.bind_some,hn]
 have hg:Got toks m1 rest 0 (hd.2.2.2+1) (sumN dirN) (y5b toks L f (hd.2.2.2+1)):=by
  rcases hst with rfl|rfl
  ·exact y2q hE L hL h (by omega) (by omega) (by omega)
  ·exact y8k hE L hL h (by omega) (by omega) (by omega)
 obtain ⟨a,k',m2,e,hr,hm,hN⟩:=hg;rw [e,Option.bind_some];exact ⟨_,_,m2,rfl,hr,by omega,by simp only [defN,sumN,List.length_nil] at hN ⊢;omega⟩
theorem z0m (kind:Int) {n:Nat} {st:List Txt} {rest:List Txt} (h:Runs toks n (z7f::(st++rest)) hd.2.2.2 0) (hst:st=[y5x,y1e,y3v]∨st=[y4v]):Got toks n rest 0 k0 defN (y3s kind toks L f hd):=by
 obtain ⟨t,ht⟩:=h.tok;obtain ⟨m1,rfl,hf,hn,hl,h⟩:=h.t0 hE ht
 have hg: ∃is k1 ds k2,optF toks [105,109,112,108,101,109,101,110,116,115] [38] L (hd.2.2.2+1)=some (is,k1)∧y5b toks L f k1=some (ds,k2)∧is.length+(hd.2.2.2+1)≤k1∧sumN dirN ds+k1≤k2∧Got toks m1 rest 0 k2 (sumN y1j) (y3r toks (y5q toks L f) L k2):=by
  rcases hst with rfl|rfl
  ·obtain ⟨a,k1,m2,e,hr,hm,hN⟩:=x54 hE L hL h;obtain ⟨b,k2,m3,e2,hr2,hm2,hN2⟩:=y2q hE L hL hr (by omega) (by omega:200<(0:Int)+(f:Nat)) (by omega);obtain ⟨x,y,z,g1,g2,g3,g4⟩:=z1f hE L hL hr2 (Int.le_refl _) (by omega:200<(0:Int)+(f:Nat));exact ⟨a,k1,b,k2,e,e2,hN,hN2,x,y,z,g1,g2,by omega,g4⟩
  ·obtain ⟨m2,t2,rfl,ht2,hA⟩:=x5h h;rcases hA with ⟨hF,h⟩|⟨hF0,⟨hF,h⟩|⟨_,⟨hF,h⟩|⟨_,hA⟩⟩⟩
   ·obtain ⟨a,k1,m2,e,hr,hm,hN⟩:=z4a hE L hL h;obtain ⟨b,k2,m3,e2,hr2,hm2,hN2⟩:=y2q hE L hL hr (by omega) (by omega:200<(0:Int)+(f:Nat)) (by omega);obtain ⟨x,y,z,g1,g2,g3,g4⟩:=z1f hE L hL hr2 (Int.le_refl _) (by omega:200<(0:Int)+(f:Nat));exact ⟨a,k1,b,k2,e,e2,hN,hN2,x,y,z,g1,g2,by omega,g4⟩
   ·obtain ⟨b,k2,m3,e2,hr2,hm2,hN2⟩:=y8k hE L hL h (by omega) (by omega:200<(0:Int)+(f:Nat)) (by omega);obtain ⟨x,y,z,g1,g2,g3,g4⟩:=z1f hE L hL hr2 (Int.le_refl _) (by omega:200<(0:Int)+(f:Nat));exact ⟨[],_,b,k2,z4b hE L ht2 (y2o hF0 (by decide+kernel)),e2,by simp,hN2,x,y,z,g1,g2,by omega,g4⟩
   ·obtain ⟨x,y,z,g1,g2,g3,g4⟩:=z36 hE L hL h (Int.le_refl _) (by omega:200<(0:Int)+(f:Nat));exact ⟨[],_,[],_,z4b hE L ht2 (y2o hF0 (by decide+kernel)),z38 hE L f (by omega) ht2 hF (by decide+kernel),by simp,by simp [sumN],x,y,z,g1,g2,by omega,g4⟩
   ·exact hA.elim
 obtain ⟨is,k1,ds,k2,e1,e2,hN1,hN2,a,k',m2,e,hr,hm,hN⟩:=hg;unfold y3s;rw [ht,Option.bind_some,hn,e1,Option.bind_some,e2,Option.bind_some,e,Option.bind_some];exact ⟨_,_,m2,rfl,hr,by omega,by simp only [defN,sumN,List.length_nil] at hN ⊢;omega⟩
theorem x3k {n:Nat} {st:List Txt} {rest:List Txt} (h:Runs toks n (z7f::(st++rest)) hd.2.2.2 0) (hst:st=[y1e,y4w]∨st=[z1a]):Got toks n rest 0 k0 defN (z15 toks L f hd):=by
 obtain ⟨t,ht⟩:=h.tok;obtain ⟨m1,rfl,hf,hn,hl,h⟩:=h.t0 hE ht
 have hg: ∃ds k2,y5b toks L f (hd.2.2.2+1)=some (ds,k2)∧sumN dirN ds+(hd.2.2.2+1)≤k2∧Got toks m1 rest 0 k2 (fun l=>l.length) (optF toks [61] [124] L k2):=by
  rcases hst with rfl|rfl
  ·obtain ⟨b,k2,m3,e2,hr2,hm2,hN2⟩:=y2q hE L hL h (by omega) (by omega:200<(0:Int)+(f:Nat)) (by omega);obtain ⟨x,y,z,g1,g2,g3,g4⟩:=z4c hE L hL hr2;exact ⟨b,k2,e2,hN2,x,y,z,g1,g2,by omega,g4⟩
  ·obtain ⟨m2,t2,rfl,ht2,hA⟩:=x86 h;rcases hA with ⟨hF,h⟩|⟨_,⟨hF,h⟩|⟨_,hA⟩⟩
   ·obtain ⟨b,k2,m3,e2,hr2,hm2,hN2⟩:=y8k hE L hL h (by omega) (by omega:200<(0:Int)+(f:Nat)) (by omega);obtain ⟨x,y,z,g1,g2,g3,g4⟩:=z4c hE L hL hr2;exact ⟨b,k2,e2,hN2,x,y,z,g1,g2,by omega,g4⟩
   ·obtain ⟨x,y,z,g1,g2,g3,g4⟩:=z2c hE L hL h;exact ⟨[],_,z38 hE L f (by omega) ht2 hF (by decide+kernel),by simp [sumN],x,y,z,g1,g2,by omega,g4⟩
   ·exact hA.elim
 obtain ⟨ds,k2,e2,hN2,a,k',m2,e,hr,hm,hN⟩:=hg;unfold z15;rw [ht,Option.bind_some,hn,e2,Option.bind_some,e,Option.bind_some];exact ⟨_,_,m2,rfl,hr,by omega,by simp only [defN,sumN,List.length_nil] at hN ⊢;omega⟩
theorem x9q {n:Nat} {st:List Txt} {rest:List Txt} (h:Runs toks n (z7f::(st++rest)) hd.2.2.2 0) (hst:st=[y1e,z0k]∨st=[z5s]):Got toks n rest 0 k0 defN (z8l toks L f hd):=by
 obtain ⟨t,ht⟩:=h.tok;obtain ⟨m1,rfl,hf,hn,hl,h⟩:=h.t0 hE ht
 have hg: ∃ds k2,y5b toks L f (hd.2.2.2+1)=some (ds,k2)∧sumN dirN ds+(hd.2.2.2+1)≤k2∧Got toks m1 rest 0 k2 (sumN y2n) (y3r toks (y7q toks L f) L k2):=by
  rcases hst with rfl|rfl
  ·obtain ⟨b,k2,m3,e2,hr2,hm2,hN2⟩:=y2q hE L hL h (by omega) (by omega:200<(0:Int)+(f:Nat)) (by omega);obtain ⟨x,y,z,g1,g2,g3,g4⟩:=z89 hE L hL hr2 (Int.le_refl _) (by omega:200<(0:Int)+(f:Nat));exact ⟨b,k2,e2,hN2,x,y,z,g1,g2,by omega,g4⟩
  ·obtain ⟨m2,t2,rfl,ht2,hA⟩:=q21 h;rcases hA with ⟨hF,h⟩|⟨_,⟨hF,h⟩|⟨_,hA⟩⟩
   ·obtain ⟨b,k2,m3,e2,hr2,hm2,hN2⟩:=y8k hE L hL h (by omega) (by omega:200<(0:Int)+(f:Nat)) (by omega);obtain ⟨x,y,z,g1,g2,g3,g4⟩:=z89 hE L hL hr2 (Int.le_refl _) (by omega:200<(0:Int)+(f:Nat));exact ⟨b,k2,e2,hN2,x,y,z,g1,g2,by omega,g4⟩
   ·obtain ⟨x,y,z,g1,g2,g3,g4⟩:=z5v hE L hL h (Int.le_refl _) (by omega:200<(0:Int)+(f:Nat));exact ⟨[],_,z38 hE L f (by omega) ht2 hF (by decide+kernel),by simp [sumN],x,y,z,g1,g2,by omega,g4⟩
   ·exact hA.elim
 obtain ⟨ds,k2,e2,hN2,a,k',m2,e,hr,hm,hN⟩:=hg;unfold z8l;rw [ht,Option.bind_some,hn,e2,Option.bind_some,e,Option.bind_some];exact ⟨_,_,m2,rfl,hr,by omega,by simp only [defN,sumN,List.length_nil] at hN ⊢;omega⟩
theorem x3l {n:Nat} {st:List Txt} {rest:List Txt} (h:Runs toks n (z7f::(st++rest)) hd.2.2.2 0) (hst:st=[y1e,y6z]∨st=[z1b]):Got toks n rest 0 k0 defN (z16 toks L f hd):=by
 obtain ⟨t,ht⟩:=h.tok;obtain ⟨m1,rfl,hf,hn,hl,h⟩:=h.t0 hE ht
 have hg: ∃ds k2,y5b toks L f (hd.2.2.2+1)=some (ds,k2)∧sumN dirN ds+(hd.2.2.2+1)≤k2∧Got toks m1 rest 0 k2 (sumN y1w) (y35 toks [123] [125] L f k2):=by
  rcases hst with rfl|rfl
  ·obtain ⟨b,k2,m3,e2,hr2,hm2,hN2⟩:=y2q hE L hL h (by omega) (by omega:200<(0:Int)+(f:Nat)) (by omega);obtain ⟨x,y,z,g1,g2,g3,g4⟩:=z5u hE L hL hr2 (Int.le_refl _) (by omega) (by omega:200<(0:Int)+(f:Nat));exact ⟨b,k2,e2,hN2,x,y,z,g1,g2,by omega,g4⟩
  ·obtain ⟨m2,t2,rfl,ht2,hA⟩:=x9e h;rcases hA with ⟨hF,h⟩|⟨_,⟨hF,h⟩|⟨_,hA⟩⟩
   ·obtain ⟨b,k2,m3,e2,hr2,hm2,hN2⟩:=y8k hE L hL h (by omega) (by omega:200<(0:Int)+(f:Nat)) (by omega);obtain ⟨x,y,z,g1,g2,g3,g4⟩:=z5u hE L hL hr2 (Int.le_refl _) (by omega) (by omega:200<(0:Int)+(f:Nat));exact ⟨b,k2,e2,hN2,x,y,z,g1,g2,by omega,g4⟩
   ·obtain ⟨x,y,z,g1,g2,g3,g4⟩:=z35 hE L hL h (Int.le_refl _) (by omega) (by omega:200<(0:Int)+(f:Nat));exact ⟨[],_,z38 hE L f (by omega) ht2 hF (by decide+kernel),by simp [sumN],x,y,z,g1,g2,by omega,g4⟩
   ·exact hA.elim
 obtain ⟨ds,k2,e2,hN2,a,k',m2,e,hr,hm,hN⟩:=hg;unfold z16;rw [ht,Option.bind_some,hn,e2,Option.bind_some,e,Option.bind_some];exact ⟨_,_,m2,rfl,hr,by omega,by simp only [defN,sumN,List.length_nil] at hN ⊢;omega⟩
theorem q73 {n:Nat} {rest:List Txt} (h:Runs toks n ([64]::z7f::y7z::z32::[39,111,110]::nBAR::[46,112,108,97,99,101]::y5z::rest) hd.2.2.2 0):Got toks n rest 0 k0 defN (dirF toks L f hd):=by
 obtain ⟨t,ht⟩:=h.tok;have hW:=hE.wf _ t ht;obtain ⟨m1,rfl,hf,hn,hl,h⟩:=h.t0 hE ht;obtain ⟨t3,ht3⟩:=h.tok;obtain ⟨m2,rfl,hf3,hn3,hl3,h⟩:=h.t0 hE ht3;obtain ⟨a,k1,m3,e1,hr,hm1,hN1⟩:=z34 hE L hL h (Int.le_refl _) (by omega) (by omega:200<(0:Int)+(f:Nat))
 have hrep: ∃k2 m4 t5,toks[k1]?=some t5∧(if isF t5 [114,101,112,101,97,116,97,98,108,101]=true then k1+1 else k1)=k2∧k1≤k2∧m4<m3∧Runs toks m4 ([39,111,110]::nBAR::[46,112,108,97,99,101]::y5z::rest) k2 0:=by
  obtain ⟨m4,t5,rfl,ht5,hA⟩:=x9f hr;have hW5:=hE.wf _ t5 ht5;rcases hA with ⟨hF,h⟩|⟨hF,h⟩
  ·obtain ⟨m5,rfl,hf5,hn5,hl5,h⟩:=h.t0 hE ht5;exact ⟨k1+1,m5,t5,ht5,if_pos (by rw [z1c hW5 (by decide)];exact hf5),by omega,by omega,h⟩
  ·have h:Runs toks m4 ([39,111,110]::nBAR::[46,112,108,97,99,101]::y5z::rest) k1 0:=by rcases h with ⟨_,h⟩|⟨_,h⟩<;>exact h
   exact ⟨k1,m4,t5,ht5,if_neg (by rw [z1c hW5 (by decide),y2o hF (by decide+kernel)];decide),by omega,by omega,h⟩
 obtain ⟨k2,m4,t5,ht5,hk2,hle,hm4,h⟩:=hrep;obtain ⟨t6,ht6⟩:=h.tok;have hW6:=hE.wf _ t6 ht6;obtain ⟨m5,rfl,hf6,hn6,hl6,h⟩:=h.t0 hE ht6;obtain ⟨b,k3,m6,e2,hr2,hm2,hN2⟩:=z1d hE 124 (by decide) (by decide+kernel) [46,112,108,97,99,101] y5z nBAR (by decide+kernel) (by decide+kernel) (fun t h=>x53 h) x9g q4p L hL (by omega) h;unfold dirF;rw [ht,Option.bind_some,if_pos (by rw [y05 hW (by decide)];exact hf),ht3,Option.bind_some,hn3,e1,Option.bind_some,ht5,Option.bind_some,hk2,ht6,Option.bind_some,if_pos (by rw [z1c hW6 (by decide)];exact hf6),e2,Option.bind_some];exact ⟨_,_,m6,rfl,hr2,by omega,by simp only [defN,sumN,List.length_nil] at hN1 hN2 ⊢;omega⟩
end body
end
end Go.Proofs.YtbpgkkoeehopjaaGreat.acr
