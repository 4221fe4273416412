/- Part 10 of 17 of a proof: see the last part. -/
import Derived.Test.YtbpgkkoeehopjaaGreatP4
import Derived.Test.YtbpgkkoeehopjaaGreatP9
set_option linter.unusedVariables false
set_option linter.unusedSimpArgs false
namespace Go.Proofs.YtbpgkkoeehopjaaGreat.gram
open tree
set_option maxRecDepth 100000
def Runs (toks:List TokD) (n:Nat) (st:List Txt) (k:Nat) (op:Int):Prop:=runF rulesG nfG bfG toks 200 n st k op=some (0,0,0)
def Alt:List (List Txt×List Txt)→Bool→TokD→(List Txt→Prop)→Prop
 |[],true,_,P=>P []
 |[],false,_,_=>False
 |(F,c)::r,z,t,P=>(fits F t=true∧P c)∨(fits F t=false∧Alt r z t P)
theorem x2p {t:TokD} {P:List Txt→Prop} {z:Bool}: ∀{T:List (List Txt×List Txt)},(∀c,pick t T=some c→P c)→(pick t T=none→z=true∧P [])→Alt T z t P
 |[],h1,h2=>by
  obtain ⟨rfl,h⟩:=h2 rfl;exact h
 |(F,c)::r,h1,h2=>by
  cases hf:fits F t with
  |true=>exact .inl ⟨hf,h1 c (by rw [pick,if_pos hf])⟩
  |false=>
   have he:pick t ((F,c)::r)=pick t r:=by rw [pick,if_neg (by rw [hf];decide)]
   rw [he] at h1 h2;exact .inr ⟨hf,x2p h1 h2⟩
theorem Runs.rule {toks:List TokD} {n k:Nat} {s:Txt} {rest:List Txt} {op:Int} {T:List (List Txt×List Txt)} {z:Bool} (h:Runs toks n (s::rest) k op) (hT:tabG s=some (T,z)) (hs:(decide (s≠[])&&decide (s.length≤1000)&&y31 s)=true):
  ∃m t,n=m+1∧toks[k]?=some t∧Alt T z t (fun c=>Runs toks m (c++rest) k op):=by
 simp only [Qao,decide_eq_true_eq] at hs;unfold Runs at h
 cases n with
 |zero=>cases h
 |succ m=>
  rw [runF] at h
  cases ht:toks[k]? with
  |none=>rw [ht] at h;cases h
  |some t=>
   rw [ht] at h;simp only at h;rw [if_neg (by rintro (h0|h0);exact hs.1.1 h0;have:=hs.1.2;omega),hs.2,if_pos rfl,z5c hT] at h;refine ⟨m,t,rfl,rfl,x2p ?_ ?_⟩
   ·intro c hc;rw [hc] at h;simp only at h;split at h
    ·cases h
    ·exact h
   ·intro hc;rw [hc] at h
    cases z with
    |false=>simp at h
    |true=>
     simp only at h;split at h
     ·cases h
     ·exact ⟨rfl,h⟩
abbrev nDOC:Txt:=[68,79,67]
abbrev z8h:Txt:=[68,69,70,83]
abbrev nDEF:Txt:=[68,69,70]
abbrev x0t:Txt:=[66,79,68,89]
abbrev z8i:Txt:=[88,66,79,68,89]
abbrev z17:Txt:=[88,83,67,72,69,77,65]
abbrev y89:Txt:=[82,79,79,84,83,48]
abbrev y5z:Txt:=[82,79,79,84,83]
abbrev z3k:Txt:=[82,79,79,84,76]
abbrev z8j:Txt:=[82,79,79,84]
abbrev y4i:Txt:=[88,79,66,74,69,67,84]
abbrev y5l:Txt:=[73,70,65,67,69,83]
abbrev y6l:Txt:=[73,70,65,67,69,83,49]
abbrev nAMP:Txt:=[65,77,80]
abbrev y9a:Txt:=[73,70,65,67,69,76]
abbrev y3d:Txt:=[70,73,69,76,68,83]
abbrev y6m:Txt:=[70,73,69,76,68,83,49]
abbrev y9b:Txt:=[70,73,69,76,68,76]
abbrev z1q:Txt:=[70,73,69,76,68]
abbrev y9c:Txt:=[70,73,69,76,68,48]
abbrev y7g:Txt:=[73,78,80,85,84,83]
abbrev y5m:Txt:=[86,65,76,85,69,76]
abbrev y8r:Txt:=[86,65,76,85,69]
abbrev y9d:Txt:=[86,65,76,85,69,48]
abbrev z18:Txt:=[68,69,70,65,85,76,84]
abbrev y4j:Txt:=[77,69,77,66,69,82,83]
abbrev y42:Txt:=[77,69,77,66,69,82,83,49]
abbrev y6n:Txt:=[77,69,77,66,69,82,76]
abbrev nBAR:Txt:=[66,65,82]
abbrev z0u:Txt:=[88,85,78,73,79,78]
abbrev y94:Txt:=[67,65,83,69,83]
abbrev y9e:Txt:=[67,65,83,69,83,49]
abbrev z3l:Txt:=[67,65,83,69,76]
abbrev z8k:Txt:=[67,65,83,69]
abbrev z3m:Txt:=[67,65,83,69,48]
abbrev z5d:Txt:=[88,69,78,85,77]
abbrev y6o:Txt:=[66,76,65,78,75,83]
abbrev y6p:Txt:=[66,76,65,78,75,83,49]
abbrev z0v:Txt:=[88,73,78,80,85,84]
abbrev z3n:Txt:=[82,69,80,69,65,84]
abbrev y5n:Txt:=[80,76,65,67,69,83]
abbrev y07:Txt:=[68,73,82,83]
abbrev nDIR:Txt:=[68,73,82]
abbrev x7w:Txt:=[65,82,71,83]
abbrev z8l:Txt:=[65,82,71,76]
abbrev nARG:Txt:=[65,82,71]
abbrev nLIT:Txt:=[76,73,84]
abbrev x0u:Txt:=[76,73,84,76]
abbrev x0v:Txt:=[79,66,74,76]
abbrev z6x:Txt:=[84,89,80,69]
abbrev z8m:Txt:=[84,89,80,69,48]
abbrev x4n:Txt:=[66,65,78,71]
theorem q4q:tabG nDOC=some ([([[46,115,116,114],[39,115,99,104,101,109,97],[39,115,99,97,108,97,114],[39,116,121,112,101],[39,105,110,116,101,114,102,97,99,101],[39,117,110,105,111,110],[39,101,110,117,109],[39,105,110,112,117,116],[39,100,105,114,101,99,116,105,118,101],[39,101,120,116,101,110,100]],[nDEF,z8h,[46,101,110,100]])],false):=by kernel_rfl
theorem q6z {toks:List TokD} {n k:Nat} {rest:List Txt} {op:Int} (h:Runs toks n (nDOC::rest) k op): ∃m t,n=m+1∧toks[k]?=some t∧((fits [[46,115,116,114],[39,115,99,104,101,109,97],[39,115,99,97,108,97,114],[39,116,121,112,101],[39,105,110,116,101,114,102,97,99,101],[39,117,110,105,111,110],[39,101,110,117,109],[39,105,110,112,117,116],[39,100,105,114,101,99,116,105,118,101],[39,101,120,116,101,110,100]] t=true∧Runs toks m (nDEF::z8h::[46,101,110,100]::rest) k op)∨(fits [[46,115,116,114],[39,115,99,104,101,109,97],[39,115,99,97,108,97,114],[39,116,121,112,101],[39,105,110,116,101,114,102,97,99,101],[39,117,110,105,111,110],[39,101,110,117,109],[39,105,110,112,117,116],[39,100,105,114,101,99,116,105,118,101],[39,101,120,116,101,110,100]] t=false∧(False))):=h.rule q4q (by decide+kernel)
theorem q1l:tabG z8h=some ([([[46,115,116,114],[39,115,99,104,101,109,97],[39,115,99,97,108,97,114],[39,116,121,112,101],[39,105,110,116,101,114,102,97,99,101],[39,117,110,105,111,110],[39,101,110,117,109],[39,105,110,112,117,116],[39,100,105,114,101,99,116,105,118,101],[39,101,120,116,101,110,100]],[nDEF,z8h]),([],[])],true):=by kernel_rfl
theorem q4r {toks:List TokD} {n k:Nat} {rest:List Txt} {op:Int} (h:Runs toks n (z8h::rest) k op): ∃m t,n=m+1∧toks[k]?=some t∧((fits [[46,115,116,114],[39,115,99,104,101,109,97],[39,115,99,97,108,97,114],[39,116,121,112,101],[39,105,110,116,101,114,102,97,99,101],[39,117,110,105,111,110],[39,101,110,117,109],[39,105,110,112,117,116],[39,100,105,114,101,99,116,105,118,101],[39,101,120,116,101,110,100]] t=true∧Runs toks m (nDEF::z8h::rest) k op)∨(fits [[46,115,116,114],[39,115,99,104,101,109,97],[39,115,99,97,108,97,114],[39,116,121,112,101],[39,105,110,116,101,114,102,97,99,101],[39,117,110,105,111,110],[39,101,110,117,109],[39,105,110,112,117,116],[39,100,105,114,101,99,116,105,118,101],[39,101,120,116,101,110,100]] t=false∧((fits [] t=true∧Runs toks m (rest) k op)∨(fits [] t=false∧(Runs toks m rest k op))))):=h.rule q1l (by decide+kernel)
theorem q4s:tabG nDEF=some ([([[46,115,116,114]],[[46,115,116,114],x0t]),([[39,115,99,104,101,109,97],[39,115,99,97,108,97,114],[39,116,121,112,101],[39,105,110,116,101,114,102,97,99,101],[39,117,110,105,111,110],[39,101,110,117,109],[39,105,110,112,117,116],[39,100,105,114,101,99,116,105,118,101]],[x0t]),([[39,101,120,116,101,110,100]],[[39,101,120,116,101,110,100],z8i])],false):=by kernel_rfl
theorem q60 {toks:List TokD} {n k:Nat} {rest:List Txt} {op:Int} (h:Runs toks n (nDEF::rest) k op): ∃m t,n=m+1∧toks[k]?=some t∧((fits [[46,115,116,114]] t=true∧Runs toks m ([46,115,116,114]::x0t::rest) k op)∨(fits [[46,115,116,114]] t=false∧((fits [[39,115,99,104,101,109,97],[39,115,99,97,108,97,114],[39,116,121,112,101],[39,105,110,116,101,114,102,97,99,101],[39,117,110,105,111,110],[39,101,110,117,109],[39,105,110,112,117,116],[39,100,105,114,101,99,116,105,118,101]] t=true∧Runs toks m (x0t::rest) k op)∨(fits [[39,115,99,104,101,109,97],[39,115,99,97,108,97,114],[39,116,121,112,101],[39,105,110,116,101,114,102,97,99,101],[39,117,110,105,111,110],[39,101,110,117,109],[39,105,110,112,117,116],[39,100,105,114,101,99,116,105,118,101]] t=false∧((fits [[39,101,120,116,101,110,100]] t=true∧Runs toks m ([39,101,120,116,101,110,100]::z8i::rest) k op)∨(fits [[39,101,120,116,101,110,100]] t=false∧(False))))))):=h.rule q4s (by decide+kernel)
theorem q1m:tabG x0t=some ([([[39,115,99,104,101,109,97]],[[39,115,99,104,101,109,97],y07,y5z]),([[39,115,99,97,108,97,114]],[[39,115,99,97,108,97,114],[46,110,97,109,101],y07]),([[39,116,121,112,101]],[[39,116,121,112,101],[46,110,97,109,101],y5l,y07,y3d]),([[39,105,110,116,101,114,102,97,99,101]],[[39,105,110,116,101,114,102,97,99,101],[46,110,97,109,101],y5l,y07,y3d]),([[39,117,110,105,111,110]],[[39,117,110,105,111,110],[46,110,97,109,101],y07,y4j]),([[39,101,110,117,109]],[[39,101,110,117,109],[46,110,97,109,101],y07,y94]),([[39,105,110,112,117,116]],[[39,105,110,112,117,116],[46,110,97,109,101],y07,y6o]),([[39,100,105,114,101,99,116,105,118,101]],[[39,100,105,114,101,99,116,105,118,101],[64],[46,110,97,109,101],y7g,z3n,[39,111,110],nBAR,[46,112,108,97,99,101],y5n])],false):=by kernel_rfl
theorem q4t {toks:List TokD} {n k:Nat} {rest:List Txt} {op:Int} (h:Runs toks n (x0t::rest) k op): ∃m t,n=m+1∧toks[k]?=some t∧((fits [[39,115,99,104,101,109,97]] t=true∧Runs toks m ([39,115,99,104,101,109,97]::y07::y5z::rest) k op)∨(fits [[39,115,99,104,101,109,97]] t=false∧((fits [[39,115,99,97,108,97,114]] t=true∧Runs toks m ([39,115,99,97,108,97,114]::[46,110,97,109,101]::y07::rest) k op)∨(fits [[39,115,99,97,108,97,114]] t=false∧((fits [[39,116,121,112,101]] t=true∧Runs toks m ([39,116,121,112,101]::[46,110,97,109,101]::y5l::y07::y3d::rest) k op)∨(fits [[39,116,121,112,101]] t=false∧((fits [[39,105,110,116,101,114,102,97,99,101]] t=true∧Runs toks m ([39,105,110,116,101,114,102,97,99,101]::[46,110,97,109,101]::y5l::y07::y3d::rest) k op)∨(fits [[39,105,110,116,101,114,102,97,99,101]] t=false∧((fits [[39,117,110,105,111,110]] t=true∧Runs toks m ([39,117,110,105,111,110]::[46,110,97,109,101]::y07::y4j::rest) k op)∨(fits [[39,117,110,105,111,110]] t=false∧((fits [[39,101,110,117,109]] t=true∧Runs toks m ([39,101,110,117,109]::[46,110,97,109,101]::y07::y94::rest) k op)∨(fits [[39,101,110,117,109]] t=false∧((fits [[39,105,110,112,117,116]] t=true∧Runs toks m ([39,105,110,112,117,116]::[46,110,97,109,101]::y07::y6o::rest) k op)∨(fits [[39,105,110,112,117,116]] t=false∧((fits [[39,100,105,114,101,99,116,105,118,101]] t=true∧Runs toks m ([39,100,105,114,101,99,116,105,118,101]::[64]::[46,110,97,109,101]::y7g::z3n::[39,111,110]::nBAR::[46,112,108,97,99,101]::y5n::rest) k op)∨(fits [[39,100,105,114,101,99,116,105,118,101]] t=false∧(False))))))))))))))))):=h.rule q1m (by decide+kernel)
theorem x7x:tabG z8i=some ([([[39,115,99,104,101,109,97]],[[39,115,99,104,101,109,97],z17]),([[39,115,99,97,108,97,114]],[[39,115,99,97,108,97,114],[46,110,97,109,101],nDIR,y07]),([[39,116,121,112,101]],[[39,116,121,112,101],[46,110,97,109,101],y4i]),([[39,105,110,116,101,114,102,97,99,101]],[[39,105,110,116,101,114,102,97,99,101],[46,110,97,109,101],y4i]),([[39,117,110,105,111,110]],[[39,117,110,105,111,110],[46,110,97,109,101],z0u]),([[39,101,110,117,109]],[[39,101,110,117,109],[46,110,97,109,101],z5d]),([[39,105,110,112,117,116]],[[39,105,110,112,117,116],[46,110,97,109,101],z0v])],false):=by kernel_rfl
theorem q1n {toks:List TokD} {n k:Nat} {rest:List Txt} {op:Int} (h:Runs toks n (z8i::rest) k op): ∃m t,n=m+1∧toks[k]?=some t∧((fits [[39,115,99,104,101,109,97]] t=true∧Runs toks m ([39,115,99,104,101,109,97]::z17::rest) k op)∨(fits [[39,115,99,104,101,109,97]] t=false∧((fits [[39,115,99,97,108,97,114]] t=true∧Runs toks m ([39,115,99,97,108,97,114]::[46,110,97,109,101]::nDIR::y07::rest) k op)∨(fits [[39,115,99,97,108,97,114]] t=false∧((fits [[39,116,121,112,101]] t=true∧Runs toks m ([39,116,121,112,101]::[46,110,97,109,101]::y4i::rest) k op)∨(fits [[39,116,121,112,101]] t=false∧((fits [[39,105,110,116,101,114,102,97,99,101]] t=true∧Runs toks m ([39,105,110,116,101,114,102,97,99,101]::[46,110,97,109,101]::y4i::rest) k op)∨(fits [[39,105,110,116,101,114,102,97,99,101]] t=false∧((fits [[39,117,110,105,111,110]] t=true∧Runs toks m ([39,117,110,105,111,110]::[46,110,97,109,101]::z0u::rest) k op)∨(fits [[39,117,110,105,111,110]] t=false∧((fits [[39,101,110,117,109]] t=true∧Runs toks m ([39,101,110,117,109]::[46,110,97,109,101]::z5d::rest) k op)∨(fits [[39,101,110,117,109]] t=false∧((fits [[39,105,110,112,117,116]] t=true∧Runs toks m ([39,105,110,112,117,116]::[46,110,97,109,101]::z0v::rest) k op)∨(fits [[39,105,110,112,117,116]] t=false∧(False))))))))))))))):=h.rule x7x (by decide+kernel)
theorem x0w:tabG z17=some ([([[64]],[nDIR,y07,y89]),([[123]],[y5z])],false):=by kernel_rfl
theorem x4o {toks:List TokD} {n k:Nat} {rest:List Txt} {op:Int} (h:Runs toks n (z17::rest) k op): ∃m t,n=m+1∧toks[k]?=some t∧((fits [[64]] t=true∧Runs toks m (nDIR::y07::y89::rest) k op)∨(fits [[64]] t=false∧((fits [[123]] t=true∧Runs toks m (y5z::rest) k op)∨(fits [[123]] t=false∧(False))))):=h.rule x0w (by decide+kernel)
theorem x4p:tabG y89=some ([([[123]],[y5z]),([],[])],true):=by kernel_rfl
theorem x7y {toks:List TokD} {n k:Nat} {rest:List Txt} {op:Int} (h:Runs toks n (y89::rest) k op): ∃m t,n=m+1∧toks[k]?=some t∧((fits [[123]] t=true∧Runs toks m (y5z::rest) k op)∨(fits [[123]] t=false∧((fits [] t=true∧Runs toks m (rest) k op)∨(fits [] t=false∧(Runs toks m rest k op))))):=h.rule x4p (by decide+kernel)
theorem x7z:tabG y5z=some ([([[123]],[[123],z8j,z3k,[125]])],false):=by kernel_rfl
theorem x2q {toks:List TokD} {n k:Nat} {rest:List Txt} {op:Int} (h:Runs toks n (y5z::rest) k op): ∃m t,n=m+1∧toks[k]?=some t∧((fits [[123]] t=true∧Runs toks m ([123]::z8j::z3k::[125]::rest) k op)∨(fits [[123]] t=false∧(False))):=h.rule x7z (by decide+kernel)
theorem x70:tabG z3k=some ([([[46,114,111,111,116]],[z8j,z3k]),([],[])],true):=by kernel_rfl
theorem q1o {toks:List TokD} {n k:Nat} {rest:List Txt} {op:Int} (h:Runs toks n (z3k::rest) k op): ∃m t,n=m+1∧toks[k]?=some t∧((fits [[46,114,111,111,116]] t=true∧Runs toks m (z8j::z3k::rest) k op)∨(fits [[46,114,111,111,116]] t=false∧((fits [] t=true∧Runs toks m (rest) k op)∨(fits [] t=false∧(Runs toks m rest k op))))):=h.rule x70 (by decide+kernel)
theorem q1p:tabG z8j=some ([([[46,114,111,111,116]],[[46,114,111,111,116],[58],[46,110,97,109,101]])],false):=by kernel_rfl
theorem x71 {toks:List TokD} {n k:Nat} {rest:List Txt} {op:Int} (h:Runs toks n (z8j::rest) k op): ∃m t,n=m+1∧toks[k]?=some t∧((fits [[46,114,111,111,116]] t=true∧Runs toks m ([46,114,111,111,116]::[58]::[46,110,97,109,101]::rest) k op)∨(fits [[46,114,111,111,116]] t=false∧(False))):=h.rule q1p (by decide+kernel)
theorem x0x:tabG y4i=some ([([[39,105,109,112,108,101,109,101,110,116,115]],[y6l,y07,y3d]),([[64]],[nDIR,y07,y3d]),([[123]],[y6m])],false):=by kernel_rfl
theorem x4q {toks:List TokD} {n k:Nat} {rest:List Txt} {op:Int} (h:Runs toks n (y4i::rest) k op): ∃m t,n=m+1∧toks[k]?=some t∧((fits [[39,105,109,112,108,101,109,101,110,116,115]] t=true∧Runs toks m (y6l::y07::y3d::rest) k op)∨(fits [[39,105,109,112,108,101,109,101,110,116,115]] t=false∧((fits [[64]] t=true∧Runs toks m (nDIR::y07::y3d::rest) k op)∨(fits [[64]] t=false∧((fits [[123]] t=true∧Runs toks m (y6m::rest) k op)∨(fits [[123]] t=false∧(False))))))):=h.rule x0x (by decide+kernel)
theorem x4r:tabG y5l=some ([([[39,105,109,112,108,101,109,101,110,116,115]],[y6l]),([],[])],true):=by kernel_rfl
theorem x72 {toks:List TokD} {n k:Nat} {rest:List Txt} {op:Int} (h:Runs toks n (y5l::rest) k op): ∃m t,n=m+1∧toks[k]?=some t∧((fits [[39,105,109,112,108,101,109,101,110,116,115]] t=true∧Runs toks m (y6l::rest) k op)∨(fits [[39,105,109,112,108,101,109,101,110,116,115]] t=false∧((fits [] t=true∧Runs toks m (rest) k op)∨(fits [] t=false∧(Runs toks m rest k op))))):=h.rule x4r (by decide+kernel)
theorem x0y:tabG y6l=some ([([[39,105,109,112,108,101,109,101,110,116,115]],[[39,105,109,112,108,101,109,101,110,116,115],nAMP,[46,110,97,109,101],y9a])],false):=by kernel_rfl
theorem x4s {toks:List TokD} {n k:Nat} {rest:List Txt} {op:Int} (h:Runs toks n (y6l::rest) k op): ∃m t,n=m+1∧toks[k]?=some t∧((fits [[39,105,109,112,108,101,109,101,110,116,115]] t=true∧Runs toks m ([39,105,109,112,108,101,109,101,110,116,115]::nAMP::[46,110,97,109,101]::y9a::rest) k op)∨(fits [[39,105,109,112,108,101,109,101,110,116,115]] t=false∧(False))):=h.rule x0y (by decide+kernel)
theorem q4u:tabG nAMP=some ([([[38]],[[38]]),([],[])],true):=by kernel_rfl
theorem q61 {toks:List TokD} {n k:Nat} {rest:List Txt} {op:Int} (h:Runs toks n (nAMP::rest) k op): ∃m t,n=m+1∧toks[k]?=some t∧((fits [[38]] t=true∧Runs toks m ([38]::rest) k op)∨(fits [[38]] t=false∧((fits [] t=true∧Runs toks m (rest) k op)∨(fits [] t=false∧(Runs toks m rest k op))))):=h.rule q4u (by decide+kernel)
theorem x4t:tabG y9a=some ([([[38]],[[38],[46,110,97,109,101],y9a]),([],[])],true):=by kernel_rfl
theorem x73 {toks:List TokD} {n k:Nat} {rest:List Txt} {op:Int} (h:Runs toks n (y9a::rest) k op): ∃m t,n=m+1∧toks[k]?=some t∧((fits [[38]] t=true∧Runs toks m ([38]::[46,110,97,109,101]::y9a::rest) k op)∨(fits [[38]] t=false∧((fits [] t=true∧Runs toks m (rest) k op)∨(fits [] t=false∧(Runs toks m rest k op))))):=h.rule x4t (by decide+kernel)
theorem x4u:tabG y3d=some ([([[123]],[y6m]),([],[])],true):=by kernel_rfl
theorem x74 {toks:List TokD} {n k:Nat} {rest:List Txt} {op:Int} (h:Runs toks n (y3d::rest) k op): ∃m t,n=m+1∧toks[k]?=some t∧((fits [[123]] t=true∧Runs toks m (y6m::rest) k op)∨(fits [[123]] t=false∧((fits [] t=true∧Runs toks m (rest) k op)∨(fits [] t=false∧(Runs toks m rest k op))))):=h.rule x4u (by decide+kernel)
theorem x0z:tabG y6m=some ([([[123]],[[123],z1q,y9b,[125]])],false):=by kernel_rfl
theorem x4v {toks:List TokD} {n k:Nat} {rest:List Txt} {op:Int} (h:Runs toks n (y6m::rest) k op): ∃m t,n=m+1∧toks[k]?=some t∧((fits [[123]] t=true∧Runs toks m ([123]::z1q::y9b::[125]::rest) k op)∨(fits [[123]] t=false∧(False))):=h.rule x0z (by decide+kernel)
theorem x4w:tabG y9b=some ([([[46,115,116,114],[46,110,97,109,101]],[z1q,y9b]),([],[])],true):=by kernel_rfl
theorem x75 {toks:List TokD} {n k:Nat} {rest:List Txt} {op:Int} (h:Runs toks n (y9b::rest) k op): ∃m t,n=m+1∧toks[k]?=some t∧((fits [[46,115,116,114],[46,110,97,109,101]] t=true∧Runs toks m (z1q::y9b::rest) k op)∨(fits [[46,115,116,114],[46,110,97,109,101]] t=false∧((fits [] t=true∧Runs toks m (rest) k op)∨(fits [] t=false∧(Runs toks m rest k op))))):=h.rule x4w (by decide+kernel)
theorem x76:tabG z1q=some ([([[46,115,116,114]],[[46,115,116,114],y9c]),([[46,110,97,109,101]],[y9c])],false):=by kernel_rfl
theorem x2r {toks:List TokD} {n k:Nat} {rest:List Txt} {op:Int} (h:Runs toks n (z1q::rest) k op): ∃m t,n=m+1∧toks[k]?=some t∧((fits [[46,115,116,114]] t=true∧Runs toks m ([46,115,116,114]::y9c::rest) k op)∨(fits [[46,115,116,114]] t=false∧((fits [[46,110,97,109,101]] t=true∧Runs toks m (y9c::rest) k op)∨(fits [[46,110,97,109,101]] t=false∧(False))))):=h.rule x76 (by decide+kernel)
theorem x4x:tabG y9c=some ([([[46,110,97,109,101]],[[46,110,97,109,101],y7g,[58],z6x,y07])],false):=by kernel_rfl
theorem x77 {toks:List TokD} {n k:Nat} {rest:List Txt} {op:Int} (h:Runs toks n (y9c::rest) k op): ∃m t,n=m+1∧toks[k]?=some t∧((fits [[46,110,97,109,101]] t=true∧Runs toks m ([46,110,97,109,101]::y7g::[58]::z6x::y07::rest) k op)∨(fits [[46,110,97,109,101]] t=false∧(False))):=h.rule x4x (by decide+kernel)
theorem x4y:tabG y7g=some ([([[40]],[[40],y8r,y5m,[41]]),([],[])],true):=by kernel_rfl
theorem x78 {toks:List TokD} {n k:Nat} {rest:List Txt} {op:Int} (h:Runs toks n (y7g::rest) k op): ∃m t,n=m+1∧toks[k]?=some t∧((fits [[40]] t=true∧Runs toks m ([40]::y8r::y5m::[41]::rest) k op)∨(fits [[40]] t=false∧((fits [] t=true∧Runs toks m (rest) k op)∨(fits [] t=false∧(Runs toks m rest k op))))):=h.rule x4y (by decide+kernel)
theorem x4z:tabG y5m=some ([([[46,115,116,114],[46,110,97,109,101]],[y8r,y5m]),([],[])],true):=by kernel_rfl
theorem x79 {toks:List TokD} {n k:Nat} {rest:List Txt} {op:Int} (h:Runs toks n (y5m::rest) k op): ∃m t,n=m+1∧toks[k]?=some t∧((fits [[46,115,116,114],[46,110,97,109,101]] t=true∧Runs toks m (y8r::y5m::rest) k op)∨(fits [[46,115,116,114],[46,110,97,109,101]] t=false∧((fits [] t=true∧Runs toks m (rest) k op)∨(fits [] t=false∧(Runs toks m rest k op))))):=h.rule x4z (by decide+kernel)
theorem x8a:tabG y8r=some ([([[46,115,116,114]],[[46,115,116,114],y9d]),([[46,110,97,109,101]],[y9d])],false):=by kernel_rfl
theorem x2s {toks:List TokD} {n k:Nat} {rest:List Txt} {op:Int} (h:Runs toks n (y8r::rest) k op): ∃m t,n=m+1∧toks[k]?=some t∧((fits [[46,115,116,114]] t=true∧Runs toks m ([46,115,116,114]::y9d::rest) k op)∨(fits [[46,115,116,114]] t=false∧((fits [[46,110,97,109,101]] t=true∧Runs toks m (y9d::rest) k op)∨(fits [[46,110,97,109,101]] t=false∧(False))))):=h.rule x8a (by decide+kernel)
theorem x40:tabG y9d=some ([([[46,110,97,109,101]],[[46,110,97,109,101],[58],z6x,z18,y07])],false):=by kernel_rfl
theorem x8b {toks:List TokD} {n k:Nat} {rest:List Txt} {op:Int} (h:Runs toks n (y9d::rest) k op): ∃m t,n=m+1∧toks[k]?=some t∧((fits [[46,110,97,109,101]] t=true∧Runs toks m ([46,110,97,109,101]::[58]::z6x::z18::y07::rest) k op)∨(fits [[46,110,97,109,101]] t=false∧(False))):=h.rule x40 (by decide+kernel)
theorem x00:tabG z18=some ([([[61]],[[61],nLIT]),([],[])],true):=by kernel_rfl
theorem x41 {toks:List TokD} {n k:Nat} {rest:List Txt} {op:Int} (h:Runs toks n (z18::rest) k op): ∃m t,n=m+1∧toks[k]?=some t∧((fits [[61]] t=true∧Runs toks m ([61]::nLIT::rest) k op)∨(fits [[61]] t=false∧((fits [] t=true∧Runs toks m (rest) k op)∨(fits [] t=false∧(Runs toks m rest k op))))):=h.rule x00 (by decide+kernel)
theorem x01:tabG y4j=some ([([[61]],[y42]),([],[])],true):=by kernel_rfl
theorem x42 {toks:List TokD} {n k:Nat} {rest:List Txt} {op:Int} (h:Runs toks n (y4j::rest) k op): ∃m t,n=m+1∧toks[k]?=some t∧((fits [[61]] t=true∧Runs toks m (y42::rest) k op)∨(fits [[61]] t=false∧((fits [] t=true∧Runs toks m (rest) k op)∨(fits [] t=false∧(Runs toks m rest k op))))):=h.rule x01 (by decide+kernel)
theorem z8n:tabG y42=some ([([[61]],[[61],nBAR,[46,110,97,109,101],y6n])],false):=by kernel_rfl
theorem x02 {toks:List TokD} {n k:Nat} {rest:List Txt} {op:Int} (h:Runs toks n (y42::rest) k op): ∃m t,n=m+1∧toks[k]?=some t∧((fits [[61]] t=true∧Runs toks m ([61]::nBAR::[46,110,97,109,101]::y6n::rest) k op)∨(fits [[61]] t=false∧(False))):=h.rule z8n (by decide+kernel)
theorem x03:tabG y6n=some ([([[124]],[[124],[46,110,97,109,101],y6n]),([],[])],true):=by kernel_rfl
theorem x43 {toks:List TokD} {n k:Nat} {rest:List Txt} {op:Int} (h:Runs toks n (y6n::rest) k op): ∃m t,n=m+1∧toks[k]?=some t∧((fits [[124]] t=true∧Runs toks m ([124]::[46,110,97,109,101]::y6n::rest) k op)∨(fits [[124]] t=false∧((fits [] t=true∧Runs toks m (rest) k op)∨(fits [] t=false∧(Runs toks m rest k op))))):=h.rule x03 (by decide+kernel)
theorem q4v:tabG nBAR=some ([([[124]],[[124]]),([],[])],true):=by kernel_rfl
theorem q3k {toks:List TokD} {n k:Nat} {rest:List Txt} {op:Int} (h:Runs toks n (nBAR::rest) k op): ∃m t,n=m+1∧toks[k]?=some t∧((fits [[124]] t=true∧Runs toks m ([124]::rest) k op)∨(fits [[124]] t=false∧((fits [] t=true∧Runs toks m (rest) k op)∨(fits [] t=false∧(Runs toks m rest k op))))):=h.rule q4v (by decide+kernel)
theorem x44:tabG z0u=some ([([[64]],[nDIR,y07,y4j]),([[61]],[y42])],false):=by kernel_rfl
theorem x8c {toks:List TokD} {n k:Nat} {rest:List Txt} {op:Int} (h:Runs toks n (z0u::rest) k op): ∃m t,n=m+1∧toks[k]?=some t∧((fits [[64]] t=true∧Runs toks m (nDIR::y07::y4j::rest) k op)∨(fits [[64]] t=false∧((fits [[61]] t=true∧Runs toks m (y42::rest) k op)∨(fits [[61]] t=false∧(False))))):=h.rule x44 (by decide+kernel)
theorem x8d:tabG y94=some ([([[123]],[y9e]),([],[])],true):=by kernel_rfl
theorem q1q {toks:List TokD} {n k:Nat} {rest:List Txt} {op:Int} (h:Runs toks n (y94::rest) k op): ∃m t,n=m+1∧toks[k]?=some t∧((fits [[123]] t=true∧Runs toks m (y9e::rest) k op)∨(fits [[123]] t=false∧((fits [] t=true∧Runs toks m (rest) k op)∨(fits [] t=false∧(Runs toks m rest k op))))):=h.rule x8d (by decide+kernel)
theorem x45:tabG y9e=some ([([[123]],[[123],z8k,z3l,[125]])],false):=by kernel_rfl
theorem x8e {toks:List TokD} {n k:Nat} {rest:List Txt} {op:Int} (h:Runs toks n (y9e::rest) k op): ∃m t,n=m+1∧toks[k]?=some t∧((fits [[123]] t=true∧Runs toks m ([123]::z8k::z3l::[125]::rest) k op)∨(fits [[123]] t=false∧(False))):=h.rule x45 (by decide+kernel)
theorem x8f:tabG z3l=some ([([[46,115,116,114],[46,99,97,115,101]],[z8k,z3l]),([],[])],true):=by kernel_rfl
theorem q1r {toks:List TokD} {n k:Nat} {rest:List Txt} {op:Int} (h:Runs toks n (z3l::rest) k op): ∃m t,n=m+1∧toks[k]?=some t∧((fits [[46,115,116,114],[46,99,97,115,101]] t=true∧Runs toks m (z8k::z3l::rest) k op)∨(fits [[46,115,116,114],[46,99,97,115,101]] t=false∧((fits [] t=true∧Runs toks m (rest) k op)∨(fits [] t=false∧(Runs toks m rest k op))))):=h.rule x8f (by decide+kernel)
theorem q1s:tabG z8k=some ([([[46,115,116,114]],[[46,115,116,114],z3m]),([[46,99,97,115,101]],[z3m])],false):=by kernel_rfl
theorem x8g {toks:List TokD} {n k:Nat} {rest:List Txt} {op:Int} (h:Runs toks n (z8k::rest) k op): ∃m t,n=m+1∧toks[k]?=some t∧((fits [[46,115,116,114]] t=true∧Runs toks m ([46,115,116,114]::z3m::rest) k op)∨(fits [[46,115,116,114]] t=false∧((fits [[46,99,97,115,101]] t=true∧Runs toks m (z3m::rest) k op)∨(fits [[46,99,97,115,101]] t=false∧(False))))):=h.rule q1s (by decide+kernel)
theorem x8h:tabG z3m=some ([([[46,99,97,115,101]],[[46,99,97,115,101],y07])],false):=by kernel_rfl
theorem q1t {toks:List TokD} {n k:Nat} {rest:List Txt} {op:Int} (h:Runs toks n (z3m::rest) k op): ∃m t,n=m+1∧toks[k]?=some t∧((fits [[46,99,97,115,101]] t=true∧Runs toks m ([46,99,97,115,101]::y07::rest) k op)∨(fits [[46,99,97,115,101]] t=false∧(False))):=h.rule x8h (by decide+kernel)
theorem x8i:tabG z5d=some ([([[64]],[nDIR,y07,y94]),([[123]],[y9e])],false):=by kernel_rfl
theorem q1u {toks:List TokD} {n k:Nat} {rest:List Txt} {op:Int} (h:Runs toks n (z5d::rest) k op): ∃m t,n=m+1∧toks[k]?=some t∧((fits [[64]] t=true∧Runs toks m (nDIR::y07::y94::rest) k op)∨(fits [[64]] t=false∧((fits [[123]] t=true∧Runs toks m (y9e::rest) k op)∨(fits [[123]] t=false∧(False))))):=h.rule x8i (by decide+kernel)
theorem x46:tabG y6o=some ([([[123]],[y6p]),([],[])],true):=by kernel_rfl
theorem x8j {toks:List TokD} {n k:Nat} {rest:List Txt} {op:Int} (h:Runs toks n (y6o::rest) k op): ∃m t,n=m+1∧toks[k]?=some t∧((fits [[123]] t=true∧Runs toks m (y6p::rest) k op)∨(fits [[123]] t=false∧((fits [] t=true∧Runs toks m (rest) k op)∨(fits [] t=false∧(Runs toks m rest k op))))):=h.rule x46 (by decide+kernel)
theorem x04:tabG y6p=some ([([[123]],[[123],y8r,y5m,[125]])],false):=by kernel_rfl
theorem x47 {toks:List TokD} {n k:Nat} {rest:List Txt} {op:Int} (h:Runs toks n (y6p::rest) k op): ∃m t,n=m+1∧toks[k]?=some t∧((fits [[123]] t=true∧Runs toks m ([123]::y8r::y5m::[125]::rest) k op)∨(fits [[123]] t=false∧(False))):=h.rule x04 (by decide+kernel)
theorem x48:tabG z0v=some ([([[64]],[nDIR,y07,y6o]),([[123]],[y6p])],false):=by kernel_rfl
theorem x8k {toks:List TokD} {n k:Nat} {rest:List Txt} {op:Int} (h:Runs toks n (z0v::rest) k op): ∃m t,n=m+1∧toks[k]?=some t∧((fits [[64]] t=true∧Runs toks m (nDIR::y07::y6o::rest) k op)∨(fits [[64]] t=false∧((fits [[123]] t=true∧Runs toks m (y6p::rest) k op)∨(fits [[123]] t=false∧(False))))):=h.rule x48 (by decide+kernel)
theorem x49:tabG z3n=some ([([[39,114,101,112,101,97,116,97,98,108,101]],[[39,114,101,112,101,97,116,97,98,108,101]]),([],[])],true):=by kernel_rfl
theorem x8l {toks:List TokD} {n k:Nat} {rest:List Txt} {op:Int} (h:Runs toks n (z3n::rest) k op): ∃m t,n=m+1∧toks[k]?=some t∧((fits [[39,114,101,112,101,97,116,97,98,108,101]] t=true∧Runs toks m ([39,114,101,112,101,97,116,97,98,108,101]::rest) k op)∨(fits [[39,114,101,112,101,97,116,97,98,108,101]] t=false∧((fits [] t=true∧Runs toks m (rest) k op)∨(fits [] t=false∧(Runs toks m rest k op))))):=h.rule x49 (by decide+kernel)
theorem x5a:tabG y5n=some ([([[124]],[[124],[46,112,108,97,99,101],y5n]),([],[])],true):=by kernel_rfl
theorem x8m {toks:List TokD} {n k:Nat} {rest:List Txt} {op:Int} (h:Runs toks n (y5n::rest) k op): ∃m t,n=m+1∧toks[k]?=some t∧((fits [[124]] t=true∧Runs toks m ([124]::[46,112,108,97,99,101]::y5n::rest) k op)∨(fits [[124]] t=false∧((fits [] t=true∧Runs toks m (rest) k op)∨(fits [] t=false∧(Runs toks m rest k op))))):=h.rule x5a (by decide+kernel)
theorem q1v:tabG y07=some ([([[64]],[nDIR,y07]),([],[])],true):=by kernel_rfl
theorem q4w {toks:List TokD} {n k:Nat} {rest:List Txt} {op:Int} (h:Runs toks n (y07::rest) k op): ∃m t,n=m+1∧toks[k]?=some t∧((fits [[64]] t=true∧Runs toks m (nDIR::y07::rest) k op)∨(fits [[64]] t=false∧((fits [] t=true∧Runs toks m (rest) k op)∨(fits [] t=false∧(Runs toks m rest k op))))):=h.rule q1v (by decide+kernel)
theorem q4x:tabG nDIR=some ([([[64]],[[64],[46,110,97,109,101],x7w])],false):=by kernel_rfl
theorem q62 {toks:List TokD} {n k:Nat} {rest:List Txt} {op:Int} (h:Runs toks n (nDIR::rest) k op): ∃m t,n=m+1∧toks[k]?=some t∧((fits [[64]] t=true∧Runs toks m ([64]::[46,110,97,109,101]::x7w::rest) k op)∨(fits [[64]] t=false∧(False))):=h.rule q4x (by decide+kernel)
theorem q1w:tabG x7w=some ([([[40]],[[40],nARG,z8l,[41]]),([],[])],true):=by kernel_rfl
theorem q4y {toks:List TokD} {n k:Nat} {rest:List Txt} {op:Int} (h:Runs toks n (x7w::rest) k op): ∃m t,n=m+1∧toks[k]?=some t∧((fits [[40]] t=true∧Runs toks m ([40]::nARG::z8l::[41]::rest) k op)∨(fits [[40]] t=false∧((fits [] t=true∧Runs toks m (rest) k op)∨(fits [] t=false∧(Runs toks m rest k op))))):=h.rule q1w (by decide+kernel)
theorem q1x:tabG z8l=some ([([[46,110,97,109,101]],[nARG,z8l]),([],[])],true):=by kernel_rfl
theorem q4z {toks:List TokD} {n k:Nat} {rest:List Txt} {op:Int} (h:Runs toks n (z8l::rest) k op): ∃m t,n=m+1∧toks[k]?=some t∧((fits [[46,110,97,109,101]] t=true∧Runs toks m (nARG::z8l::rest) k op)∨(fits [[46,110,97,109,101]] t=false∧((fits [] t=true∧Runs toks m (rest) k op)∨(fits [] t=false∧(Runs toks m rest k op))))):=h.rule q1x (by decide+kernel)
theorem q40:tabG nARG=some ([([[46,110,97,109,101]],[[46,110,97,109,101],[58],nLIT])],false):=by kernel_rfl
theorem q63 {toks:List TokD} {n k:Nat} {rest:List Txt} {op:Int} (h:Runs toks n (nARG::rest) k op): ∃m t,n=m+1∧toks[k]?=some t∧((fits [[46,110,97,109,101]] t=true∧Runs toks m ([46,110,97,109,101]::[58]::nLIT::rest) k op)∨(fits [[46,110,97,109,101]] t=false∧(False))):=h.rule q40 (by decide+kernel)
theorem q41:tabG nLIT=some ([([[46,110,97,109,101]],[[46,110,97,109,101]]),([[46,115,116,114]],[[46,115,116,114]]),([[46,110,117,109]],[[46,110,117,109]]),([[91]],[[91],x0u,[93]]),([[123]],[[123],x0v,[125]])],false):=by kernel_rfl
theorem q64 {toks:List TokD} {n k:Nat} {rest:List Txt} {op:Int} (h:Runs toks n (nLIT::rest) k op): ∃m t,n=m+1∧toks[k]?=some t∧((fits [[46,110,97,109,101]] t=true∧Runs toks m ([46,110,97,109,101]::rest) k op)∨(fits [[46,110,97,109,101]] t=false∧((fits [[46,115,116,114]] t=true∧Runs toks m ([46,115,116,114]::rest) k op)∨(fits [[46,115,116,114]] t=false∧((fits [[46,110,117,109]] t=true∧Runs toks m ([46,110,117,109]::rest) k op)∨(fits [[46,110,117,109]] t=false∧((fits [[91]] t=true∧Runs toks m ([91]::x0u::[93]::rest) k op)∨(fits [[91]] t=false∧((fits [[123]] t=true∧Runs toks m ([123]::x0v::[125]::rest) k op)∨(fits [[123]] t=false∧(False))))))))))):=h.rule q41 (by decide+kernel)
theorem q1y:tabG x0u=some ([([[46,110,97,109,101],[46,115,116,114],[46,110,117,109],[91],[123]],[nLIT,x0u]),([],[])],true):=by kernel_rfl
theorem q42 {toks:List TokD} {n k:Nat} {rest:List Txt} {op:Int} (h:Runs toks n (x0u::rest) k op): ∃m t,n=m+1∧toks[k]?=some t∧((fits [[46,110,97,109,101],[46,115,116,114],[46,110,117,109],[91],[123]] t=true∧Runs toks m (nLIT::x0u::rest) k op)∨(fits [[46,110,97,109,101],[46,115,116,114],[46,110,117,109],[91],[123]] t=false∧((fits [] t=true∧Runs toks m (rest) k op)∨(fits [] t=false∧(Runs toks m rest k op))))):=h.rule q1y (by decide+kernel)
theorem q1z:tabG x0v=some ([([[46,110,97,109,101]],[[46,110,97,109,101],[58],nLIT,x0v]),([],[])],true):=by kernel_rfl
theorem q43 {toks:List TokD} {n k:Nat} {rest:List Txt} {op:Int} (h:Runs toks n (x0v::rest) k op): ∃m t,n=m+1∧toks[k]?=some t∧((fits [[46,110,97,109,101]] t=true∧Runs toks m ([46,110,97,109,101]::[58]::nLIT::x0v::rest) k op)∨(fits [[46,110,97,109,101]] t=false∧((fits [] t=true∧Runs toks m (rest) k op)∨(fits [] t=false∧(Runs toks m rest k op))))):=h.rule q1z (by decide+kernel)
theorem q13:tabG z6x=some ([([[46,110,97,109,101],[91]],[z8m,x4n])],false):=by kernel_rfl
theorem q44 {toks:List TokD} {n k:Nat} {rest:List Txt} {op:Int} (h:Runs toks n (z6x::rest) k op): ∃m t,n=m+1∧toks[k]?=some t∧((fits [[46,110,97,109,101],[91]] t=true∧Runs toks m (z8m::x4n::rest) k op)∨(fits [[46,110,97,109,101],[91]] t=false∧(False))):=h.rule q13 (by decide+kernel)
theorem x8n:tabG z8m=some ([([[46,110,97,109,101]],[[46,110,97,109,101]]),([[91]],[[91],z6x,[93]])],false):=by kernel_rfl
theorem q15 {toks:List TokD} {n k:Nat} {rest:List Txt} {op:Int} (h:Runs toks n (z8m::rest) k op): ∃m t,n=m+1∧toks[k]?=some t∧((fits [[46,110,97,109,101]] t=true∧Runs toks m ([46,110,97,109,101]::rest) k op)∨(fits [[46,110,97,109,101]] t=false∧((fits [[91]] t=true∧Runs toks m ([91]::z6x::[93]::rest) k op)∨(fits [[91]] t=false∧(False))))):=h.rule x8n (by decide+kernel)
theorem q16:tabG x4n=some ([([[33]],[[33]]),([],[])],true):=by kernel_rfl
theorem q45 {toks:List TokD} {n k:Nat} {rest:List Txt} {op:Int} (h:Runs toks n (x4n::rest) k op): ∃m t,n=m+1∧toks[k]?=some t∧((fits [[33]] t=true∧Runs toks m ([33]::rest) k op)∨(fits [[33]] t=false∧((fits [] t=true∧Runs toks m (rest) k op)∨(fits [] t=false∧(Runs toks m rest k op))))):=h.rule q16 (by decide+kernel)
end Go.Proofs.YtbpgkkoeehopjaaGreat.gram
namespace Go.Proofs.YtbpgkkoeehopjaaGreat.acr
open tree gram rd dat lex
set_option maxRecDepth 100000
structure TokW (t:TokD):Prop where
 mark: ∀p,p∈([33,38,40,41,58,61,64,91,93,123,124,125]:Txt)→t.text=[p]→t.kind=2∨t.kind=6∨t.kind=7
 word: ∀w,w∈([[101,120,116,101,110,100],[105,109,112,108,101,109,101,110,116,115],[114,101,112,101,97,116,97,98,108,101],[111,110]]:List Txt)→t.text=w→t.kind=3∨t.kind=6∨t.kind=7
structure TokA (toks:List TokD):Prop extends TokE toks where
 wf: ∀(k:Nat) t,toks[k]?=some t→TokW t
theorem x05 {p:UInt8} (hp:p∈([33,38,40,41,58,61,64,91,93,123,124,125]:Txt)) (t:TokD):y1d [p] t=((t.kind==2)&&decide (t.text=[p])):=by
 simp only [Qbd,List.mem_nil_iff,or_false] at hp
 rcases hp with rfl|rfl|rfl|rfl|rfl|rfl|rfl|rfl|rfl|rfl|rfl|rfl<;>rfl
theorem y01 {t:TokD} (hW:TokW t) {p:UInt8} (hp:p∈([33,38,40,41,58,61,64,91,93,123,124,125]:Txt)):isF t [p]=y1d [p] t:=by
 rw [x05 hp];unfold isF;by_cases h:t.text=[p]
 ·have hk:=hW.mark p hp h;rw [Qa5 h]
  rcases hk with hk|hk|hk<;>rw [hk]<;>rfl
 ·rw [Qa4 h];simp
theorem q46 {w:Txt} (hw:w∈([[101,120,116,101,110,100],[105,109,112,108,101,109,101,110,116,115],[114,101,112,101,97,116,97,98,108,101],[111,110]]:List Txt)) (t:TokD):y1d (39::w) t=((t.kind==3)&&decide (t.text=w)):=by
 simp only [Qbd,List.mem_nil_iff,or_false] at hw
 rcases hw with rfl|rfl|rfl|rfl<;>rfl
theorem z0w {t:TokD} (hW:TokW t) {w:Txt} (hw:w∈([[101,120,116,101,110,100],[105,109,112,108,101,109,101,110,116,115],[114,101,112,101,97,116,97,98,108,101],[111,110]]:List Txt)):isF t w=y1d (39::w) t:=by
 rw [q46 hw];unfold isF;by_cases h:t.text=w
 ·have hk:=hW.word w hw h;rw [Qa5 h]
  rcases hk with hk|hk|hk<;>rw [hk]<;>rfl
 ·rw [Qa4 h];simp
theorem q17 {t:TokD} {s:Txt} {p:UInt8} (hp:p∈([33,38,40,41,58,61,64,91,93,123,124,125]:Txt)) (h:y1d [p] t=true) (hs:y1d s t=true):s=[p]:=by
 rw [x05 hp] at h;simp only [Qao,Qa7,decide_eq_true_eq] at h;obtain ⟨hk,ht⟩:=h;unfold y1d at hs;rw [hk] at hs;split at hs
 ·cases hs
 split at hs
 ·cases hs
 split at hs
 ·cases hs
 split at hs
 ·cases hs
 split at hs
 ·cases hs
 split at hs
 ·cases hs
 split at hs
 ·cases hs
 cases s with
 |nil=>cases hs
 |cons c r=>
  simp only at hs;split at hs
  ·cases hs
  ·simp only [Qao,decide_eq_true_eq] at hs;rw [←hs.2,ht]
theorem y7h {t:TokD} (hW:TokW t) {p:UInt8} (hp:p∈([33,38,40,41,58,61,64,91,93,123,124,125]:Txt)) {F:List Txt} (hF:fits F t=true) (hn:F.contains [p]=false):isF t [p]=false:=by
 rw [y01 hW hp]
 cases h:y1d [p] t with
 |false=>rfl
 |true=>
  obtain ⟨s,hs,hf⟩:=Qbh.1 hF;rw [q17 hp h hf] at hs;rw [List.contains_iff_mem.2 hs] at hn;cases hn
theorem y2f {t:TokD} {F:List Txt} {s:Txt} (h:fits F t=false) (hs:F.contains s=true):y1d s t=false:=by
 cases hf:y1d s t with
 |false=>rfl
 |true=>
  have:fits F t=true:=Qbh.2 ⟨s,List.contains_iff_mem.1 hs,hf⟩;rw [h] at this;cases this
section
variable {toks : List TokD}
theorem _root_.Go.Proofs.YtbpgkkoeehopjaaGreat.gram.Runs.tok {n:Nat} {s:Txt} {st:List Txt} {k:Nat} {op:Int} (h:Runs toks n (s::st) k op): ∃t,toks[k]?=some t:=by
 unfold Runs at h
 cases n with
 |zero=>cases h
 |succ m=>
  rw [runF] at h
  cases ht:toks[k]? with
  |none=>rw [ht] at h;cases h
  |some t=>exact ⟨t,rfl⟩
theorem _root_.Go.Proofs.YtbpgkkoeehopjaaGreat.gram.Runs.term (hE:TokA toks) {n:Nat} {s:Txt} {rest:List Txt} {k:Nat} {op:Int} (h:Runs toks n (s::rest) k op) (hs:(decide (s≠[])&&decide (s.length≤1000)&& !y31 s&&decide (s≠endT))=true) {t:TokD} (ht:toks[k]?=some t):
  ∃m,n=m+1∧y1d s t=true∧(y1u s=1→op<200)∧y0v toks.length k=k+1∧k+1<toks.length∧Runs toks m rest (k+1) (op+y1u s):=by
 simp only [Qao,decide_eq_true_eq,Bool.not_eq_true'] at hs;unfold Runs at h
 cases n with
 |zero=>cases h
 |succ m=>
  rw [runF,ht] at h;simp only at h;rw [if_neg (by rintro (h0|h0);exact hs.1.1.1 h0;have:=hs.1.1.2;omega),hs.1.2,if_neg (by decide)] at h
  cases hf:y1d s t with
  |false=>rw [hf,if_pos rfl] at h;simp at h
  |true=>
   rw [hf,if_neg (by decide)] at h;have hk:=z3j hf;have hlt:k<toks.length:=(Qac.1 ht).1
   have hl:k+1<toks.length:=by
    have h1:=hE.ends k t ht;have h2:=hk.2 hs.2
    have h3: ¬k+1=toks.length:=fun e=>by have:=h1.2 e;rcases this with h|h;exact h2 h;exact hk.1 h
    omega
   split at h
   ·simp at h
   ·rename_i hb
    try rw [if_pos hl] at h
    exact ⟨m,rfl,rfl,fun e=>by by_cases h2:op<200;exact h2;exact absurd ⟨e,by omega⟩ hb,by unfold y0v;rw [if_pos hl],hl,h⟩
theorem _root_.Go.Proofs.YtbpgkkoeehopjaaGreat.gram.Runs.t0 (hE:TokA toks) {n:Nat} {s:Txt} {rest:List Txt} {k:Nat} {op:Int} (h:Runs toks n (s::rest) k op) {t:TokD} (ht:toks[k]?=some t) (hs:(decide (s≠[])&&decide (s.length≤1000)&& !y31 s&&decide (s≠endT))=true:=by decide+kernel) (hb:y1u s=0:=by decide+kernel):
  ∃m,n=m+1∧y1d s t=true∧y0v toks.length k=k+1∧k+1<toks.length∧Runs toks m rest (k+1) op:=by
 obtain ⟨m,h1,h2,_,h4,h5,h6⟩:=h.term hE hs ht;rw [hb,Int.add_zero] at h6;exact ⟨m,h1,h2,h4,h5,h6⟩
theorem _root_.Go.Proofs.YtbpgkkoeehopjaaGreat.gram.Runs.topen (hE:TokA toks) {n:Nat} {s:Txt} {rest:List Txt} {k:Nat} {op:Int} (h:Runs toks n (s::rest) k op) {t:TokD} (ht:toks[k]?=some t) (hs:(decide (s≠[])&&decide (s.length≤1000)&& !y31 s&&decide (s≠endT))=true:=by decide+kernel) (hb:y1u s=1:=by decide+kernel):
  ∃m,n=m+1∧y1d s t=true∧y0v toks.length k=k+1∧k+1<toks.length∧op<200∧Runs toks m rest (k+1) (op+1):=by
 obtain ⟨m,h1,h2,h3,h4,h5,h6⟩:=h.term hE hs ht;rw [hb] at h6;exact ⟨m,h1,h2,h4,h5,h3 hb,h6⟩
theorem _root_.Go.Proofs.YtbpgkkoeehopjaaGreat.gram.Runs.tclose (hE:TokA toks) {n:Nat} {s:Txt} {rest:List Txt} {k:Nat} {op:Int} (h:Runs toks n (s::rest) k op) {t:TokD} (ht:toks[k]?=some t) (hs:(decide (s≠[])&&decide (s.length≤1000)&& !y31 s&&decide (s≠endT))=true:=by decide+kernel) (hb:y1u s= -1:=by decide+kernel):
  ∃m,n=m+1∧y1d s t=true∧y0v toks.length k=k+1∧k+1<toks.length∧Runs toks m rest (k+1) (op - 1):=by
 obtain ⟨m,h1,h2,h3,h4,h5,h6⟩:=h.term hE hs ht;rw [hb,←Int.sub_eq_add_neg] at h6;exact ⟨m,h1,h2,h4,h5,h6⟩
def Got {α:Type} (toks:List TokD) (n:Nat) (rest:List Txt) (op:Int) (k:Nat) (N:α→Nat) (x:Option (α×Nat)):Prop:=∃a k' m,x=some (a,k')∧Runs toks m rest k' op∧m<n∧N a+k≤k'
abbrev z6y:Txt:=[46,110,97,109,101]
abbrev tSTR:Txt:=[46,115,116,114]
abbrev tNUM:Txt:=[46,110,117,109]
theorem z3o {t:TokD} (h:y1d z6y t=true):t.kind=3:=by have:(t.kind==3)=true:=h;simpa using this
theorem x2t {t:TokD} (h:y1d tSTR t=true):t.kind=6∨t.kind=7:=by have:((t.kind==6)||(t.kind==7))=true:=h;simpa using this
theorem q18 {t:TokD} (h:y1d tNUM t=true):t.kind=4∨t.kind=5:=by have:((t.kind==4)||(t.kind==5))=true:=h;simpa using this
theorem z8o {t:TokD} {p:UInt8} (hp:p∈([33,38,40,41,58,61,64,91,93,123,124,125]:Txt)) (h:y1d [p] t=true):t.kind=2∧t.text=[p]:=by
 rw [x05 hp] at h;simpa using h
theorem x8o (hE:TokA toks) (L:Nat) (hL:toks.length≤L): ∀n,
  (∀(rest:List Txt) (k:Nat) (op:Int) (f:Nat),Runs toks n (nLIT::rest) k op→op≤200→200<op+f→Got toks n rest op k litN (litF toks L f k))∧
  (∀(rest:List Txt) (k:Nat) (op:Int) (f fu:Nat),Runs toks n (x0u::[93]::rest) k op→op≤200→200<op+f→toks.length<fu+k→Got toks n rest (op - 1) k (fun l=>litsN l+1) (z1l toks (litF toks L f) fu k))∧
  (∀(rest:List Txt) (k:Nat) (op:Int) (f fu:Nat),Runs toks n (x0v::[125]::rest) k op→op≤200→200<op+f→toks.length<fu+k→Got toks n rest (op - 1) k (fun l=>pairsN l+1) (y21 toks [125] (litF toks L f) fu k)):=by
 intro n
 induction n using Nat.strongRecOn with
 |_ n ih=>
  refine ⟨fun rest k op f h h1 h2=>?_,fun rest k op f fu h h1 h2 h3=>?_,fun rest k op f fu h h1 h2 h3=>?_⟩
  ·obtain ⟨m,t,rfl,ht,hA⟩:=q64 h;obtain ⟨f,rfl⟩: ∃g,f=g+1:=⟨f - 1,by omega⟩;rw [litF,ht,Option.bind_some];rcases hA with ⟨_,h⟩|⟨_,⟨_,h⟩|⟨_,⟨_,h⟩|⟨_,⟨_,h⟩|⟨_,⟨_,h⟩|⟨_,h⟩⟩⟩⟩⟩
   ·obtain ⟨m',rfl,hf,hn,hl,h⟩:=h.t0 hE ht;rw [if_pos (z3o hf),hn];exact ⟨_,_,m',rfl,h,by omega,by simp [litN,litsN,pairsN];omega⟩
   ·obtain ⟨m',rfl,hf,hn,hl,h⟩:=h.t0 hE ht;have hk:=x2t hf;rw [if_neg (by omega),if_neg (by omega),if_neg (by omega),if_pos hk,hn];exact ⟨_,_,m',rfl,h,by omega,by simp [litN,litsN,pairsN];omega⟩
   ·obtain ⟨m',rfl,hf,hn,hl,h⟩:=h.t0 hE ht;have hk:=q18 hf;rw [if_neg (by omega),hn];by_cases h4:t.kind=4
    ·rw [if_pos h4];exact ⟨_,_,m',rfl,h,by omega,by simp [litN,litsN,pairsN];omega⟩
    ·rw [if_neg h4,if_pos (by omega)];exact ⟨_,_,m',rfl,h,by omega,by simp [litN,litsN,pairsN];omega⟩
   ·obtain ⟨m',rfl,hf,hn,hl,hop,h⟩:=h.topen hE ht;have hk:=z8o (by decide) hf;rw [if_neg (by omega),if_neg (by omega),if_neg (by omega),if_neg (by omega),if_pos hk.2,hn];obtain ⟨a,k',m2,e,hr,hm,hN⟩:=(ih m' (by omega)).2.1 rest (k+1) (op+1) f L h (by omega) (by omega) (by omega);rw [e];refine ⟨_,_,m2,rfl,?_,by omega,by simp only [litN,pairsN] at hN ⊢;omega⟩;rw [Int.add_sub_cancel] at hr;exact hr
   ·obtain ⟨m',rfl,hf,hn,hl,hop,h⟩:=h.topen hE ht;have hk:=z8o (by decide) hf;rw [if_neg (by omega),if_neg (by omega),if_neg (by omega),if_neg (by omega),if_neg (by rw [hk.2];decide),hn];obtain ⟨a,k',m2,e,hr,hm,hN⟩:=(ih m' (by omega)).2.2 rest (k+1) (op+1) f L h (by omega) (by omega) (by omega);rw [e];refine ⟨_,_,m2,rfl,?_,by omega,by simp only [litN,litsN] at hN ⊢;omega⟩;rw [Int.add_sub_cancel] at hr;exact hr
   ·exact h.elim
  ·obtain ⟨m,t,rfl,ht,hA⟩:=q42 h;have hlt:k<toks.length:=(Qac.1 ht).1;obtain ⟨fu,rfl⟩: ∃g,fu=g+1:=⟨fu - 1,by omega⟩;have hW:=hE.wf k t ht;rw [z1l,ht,Option.bind_some]
   have hend:Runs toks m ([93]::rest) k op→Got toks (m+1) rest (op - 1) k (fun l=>litsN l+1) (if isF t [93]=true then some ([],k+1) else (litF toks L f k).bind fun q=>(z1l toks (litF toks L f) fu q.2).bind fun r=>some (q.1::r.1,r.2)):=fun h=>by
    obtain ⟨m',rfl,hf,hn,hl,h⟩:=h.tclose hE ht;rw [if_pos (by rw [y01 hW (by decide)];exact hf)];exact ⟨_,_,m',rfl,h,by omega,by simp [litsN];omega⟩
   rcases hA with ⟨hF,h⟩|⟨_,⟨_,h⟩|⟨_,h⟩⟩
   ·rw [if_neg (by rw [y7h hW (by decide) hF (by decide+kernel)];decide)];obtain ⟨a,k',m2,e,hr,hm,hN⟩:=(ih m (by omega)).1 _ k op f h h1 h2;rw [e,Option.bind_some];have hp:=y6e a;obtain ⟨b,k2,m3,e2,hr2,hm2,hN2⟩:=(ih m2 (by omega)).2.1 rest k' op f fu hr h1 h2 (by omega);rw [e2,Option.bind_some];exact ⟨_,_,m3,rfl,hr2,by omega,by simp only [litsN] at hN2 ⊢;omega⟩
   ·exact hend h
   ·exact hend h
  ·obtain ⟨m,t,rfl,ht,hA⟩:=q43 h;have hlt:k<toks.length:=(Qac.1 ht).1;obtain ⟨fu,rfl⟩: ∃g,fu=g+1:=⟨fu - 1,by omega⟩;have hW:=hE.wf k t ht;rw [y21,ht,Option.bind_some];rcases hA with ⟨hF,h⟩|⟨_,h⟩
   ·rw [if_neg (by rw [y7h hW (by decide) hF (by decide+kernel)];decide)];obtain ⟨m1,rfl,hf,hn,hl,h⟩:=h.t0 hE ht;obtain ⟨t1,ht1⟩:=h.tok;have hW1:=hE.wf _ t1 ht1;obtain ⟨m2,rfl,hf1,hn1,hl1,h⟩:=h.t0 hE ht1;rw [hn,ht1,Option.bind_some,if_pos (by rw [y01 hW1 (by decide)];exact hf1)];obtain ⟨a,k',m3,e,hr,hm,hN⟩:=(ih m2 (by omega)).1 _ (k+1+1) op f h h1 h2;rw [e,Option.bind_some];have hp:=y6e a;obtain ⟨b,k2,m4,e2,hr2,hm2,hN2⟩:=(ih m3 (by omega)).2.2 rest k' op f fu hr h1 h2 (by omega);rw [e2,Option.bind_some];exact ⟨_,_,m4,rfl,hr2,by omega,by simp only [pairsN,pairN] at hN2 ⊢;omega⟩
   ·have h:Runs toks m ([125]::rest) k op:=by rcases h with ⟨_,h⟩|⟨_,h⟩<;>exact h
    obtain ⟨m',rfl,hf,hn,hl,h⟩:=h.tclose hE ht;rw [if_pos (by rw [y01 hW (by decide)];exact hf)];exact ⟨_,_,m',rfl,h,by omega,by simp [pairsN];omega⟩
end
section
variable {toks : List TokD}
theorem x2u (hE:TokA toks) {n:Nat} {rest:List Txt} {k:Nat} {op:Int} {r:Txt×Txt} (h:Runs toks n (x4n::rest) k op) (hr:r.2.length≤2000):
  ∃r' k' m,x34 toks r k=some (r',k')∧Runs toks m rest k' op∧m<n∧k≤k'∧r'.2.length≤r.2.length+1:=by
 obtain ⟨m,t,rfl,ht,hA⟩:=q45 h;have hW:=hE.wf k t ht;unfold x34;rw [if_pos hr,ht];simp only;rcases hA with ⟨hF,h⟩|⟨hF,h⟩
 ·obtain ⟨m',rfl,hf,hn,hl,h⟩:=h.t0 hE ht;rw [if_pos (by rw [y01 hW (by decide)];exact hf)];exact ⟨_,_,m',rfl,h,by omega,by omega,by simp⟩
 ·have h:Runs toks m rest k op:=by rcases h with ⟨_,h⟩|⟨_,h⟩<;>exact h
  rw [if_neg (by rw [y01 hW (by decide),y2f hF (by decide+kernel)];decide)];exact ⟨_,_,m,rfl,h,by omega,by omega,by omega⟩
theorem x8p (hE:TokA toks): ∀(n:Nat) (rest:List Txt) (k:Nat) (op:Int) (f:Nat),Runs toks n (z6x::rest) k op→0≤op→op≤200→200<op+f→
  ∃r k' m,typF toks f k=some (r,k')∧Runs toks m rest k' op∧m<n∧k+1≤k'∧(r.2.length:Int)≤2*(200 - op)+1:=by
 intro n
 induction n using Nat.strongRecOn with
 |_ n ih=>
  intro rest k op f h h0 h1 h2;obtain ⟨m,t,rfl,ht,hA⟩:=q44 h;obtain ⟨f,rfl⟩: ∃g,f=g+1:=⟨f - 1,by omega⟩
  have h:Runs toks m (z8m::x4n::rest) k op:=by rcases hA with ⟨_,h⟩|⟨_,h⟩;exact h;exact h.elim
  obtain ⟨m,t',rfl,ht',hA⟩:=q15 h;rw [ht] at ht';injection ht' with ht';subst ht';have hW:=hE.wf k t ht;rw [typF,ht];simp only;rcases hA with ⟨hF,h⟩|⟨_,⟨hF,h⟩|⟨_,h⟩⟩
  ·obtain ⟨m1,rfl,hf,hn,hl,h⟩:=h.t0 hE ht;rw [if_neg (by rw [y7h hW (by decide) hF (by decide+kernel)];decide),hn];obtain ⟨r',k',m2,e,hr,hm,hk,hlen⟩:=x2u (r:=(t.text,[])) hE h (by simp);rw [e];refine ⟨r',k',m2,rfl,hr,by omega,by omega,?_⟩;simp only [List.length_nil] at hlen;omega
  ·obtain ⟨m1,rfl,hf,hn,hl,hop,h⟩:=h.topen hE ht;rw [if_pos (by rw [y01 hW (by decide)];exact hf)];obtain ⟨r,k',m2,e,hr,hm,hk,hlen⟩:=ih m1 (by omega) _ (k+1) (op+1) f h (by omega) (by omega) (by omega);rw [e];simp only;obtain ⟨t1,ht1⟩:=hr.tok;have hW1:=hE.wf _ t1 ht1;obtain ⟨m3,rfl,hf1,hn1,hl1,h⟩:=hr.tclose hE ht1;rw [Int.add_sub_cancel] at h;rw [ht1];simp only;rw [if_pos (by omega),if_pos (by rw [y01 hW1 (by decide)];exact hf1)];obtain ⟨r',k2,m4,e2,hr2,hm2,hk2,hlen2⟩:=x2u (r:=(r.1,r.2++[93])) hE h (by simp;omega);rw [e2];refine ⟨r',k2,m4,rfl,hr2,by omega,by omega,?_⟩;simp only [Qae,Qbj] at hlen2;omega
  ·exact h.elim
theorem q19 (hE:TokA toks) (L:Nat) (hL:toks.length≤L): ∀n,
  (∀(rest:List Txt) (k:Nat) (op:Int) (f fu:Nat),Runs toks n (z8l::[41]::rest) k op→op≤200→200<op+f→toks.length<fu+k→Got toks n rest (op - 1) k (fun l=>pairsN l+1) (y21 toks [41] (litF toks L f) fu k))∧
  (∀(rest:List Txt) (k:Nat) (op:Int) (f fu:Nat),Runs toks n (nARG::z8l::[41]::rest) k op→op≤200→200<op+f→toks.length<fu+k→Got toks n rest (op - 1) k (fun l=>pairsN l+1) (y21 toks [41] (litF toks L f) fu k)):=by
 intro n
 induction n using Nat.strongRecOn with
 |_ n ih=>
  refine ⟨fun rest k op f fu h h1 h2 h3=>?_,fun rest k op f fu h h1 h2 h3=>?_⟩
  ·obtain ⟨m,t,rfl,ht,hA⟩:=q4z h;have hlt:k<toks.length:=(Qac.1 ht).1;have hW:=hE.wf k t ht;rcases hA with ⟨hF,h⟩|⟨_,h⟩
   ·obtain ⟨a,k',m1,e,hr,hm,hN⟩:=(ih m (by omega)).2 rest k op f fu h h1 h2 h3;exact ⟨a,k',m1,e,hr,by omega,hN⟩
   ·have h:Runs toks m ([41]::rest) k op:=by rcases h with ⟨_,h⟩|⟨_,h⟩<;>exact h
    obtain ⟨fu,rfl⟩: ∃g,fu=g+1:=⟨fu - 1,by omega⟩;rw [y21,ht,Option.bind_some];obtain ⟨m',rfl,hf,hn,hl,h⟩:=h.tclose hE ht;rw [if_pos (by rw [y01 hW (by decide)];exact hf)];exact ⟨_,_,m',rfl,h,by omega,by simp [pairsN];omega⟩
  ·obtain ⟨m,t,rfl,ht,hA⟩:=q63 h;have hlt:k<toks.length:=(Qac.1 ht).1;have hW:=hE.wf k t ht;obtain ⟨fu,rfl⟩: ∃g,fu=g+1:=⟨fu - 1,by omega⟩;rw [y21,ht,Option.bind_some];rcases hA with ⟨hF,h⟩|⟨_,h⟩
   ·rw [if_neg (by rw [y7h hW (by decide) hF (by decide+kernel)];decide)];obtain ⟨m1,rfl,hf,hn,hl,h⟩:=h.t0 hE ht;obtain ⟨t1,ht1⟩:=h.tok;have hW1:=hE.wf _ t1 ht1;obtain ⟨m2,rfl,hf1,hn1,hl1,h⟩:=h.t0 hE ht1;rw [hn,ht1,Option.bind_some,if_pos (by rw [y01 hW1 (by decide)];exact hf1)];obtain ⟨a,k',m3,e,hr,hm,hN⟩:=(x8o hE L hL m2).1 _ (k+1+1) op f h h1 h2;rw [e,Option.bind_some];have hp:=y6e a;obtain ⟨b,k2,m4,e2,hr2,hm2,hN2⟩:=(ih m3 (by omega)).1 rest k' op f fu hr h1 h2 (by omega);rw [e2,Option.bind_some];exact ⟨_,_,m4,rfl,hr2,by omega,by simp only [pairsN,pairN] at hN2 ⊢;omega⟩
   ·exact h.elim
theorem x8q (hE:TokA toks) (L:Nat) (hL:toks.length≤L) {n:Nat} {rest:List Txt} {k:Nat} {op:Int} {f:Nat} (h:Runs toks n (x7w::rest) k op) (h1:op≤200) (h2:200<op+f):Got toks n rest op k pairsN (q1b toks L f k):=by
 obtain ⟨m,t,rfl,ht,hA⟩:=q4y h;have hlt:k<toks.length:=(Qac.1 ht).1;have hW:=hE.wf k t ht;unfold q1b;rw [ht,Option.bind_some];rcases hA with ⟨hF,h⟩|⟨hF,h⟩
 ·obtain ⟨m1,rfl,hf,hn,hl,hop,h⟩:=h.topen hE ht;rw [if_pos (by rw [y01 hW (by decide)];exact hf)];obtain ⟨a,k',m2,e,hr,hm,hN⟩:=(q19 hE L hL m1).2 rest (k+1) (op+1) f L h (by omega) (by omega) (by omega);rw [Int.add_sub_cancel] at hr;exact ⟨a,k',m2,e,hr,by omega,by (try simp only at hN ⊢);omega⟩
 ·have h:Runs toks m rest k op:=by rcases h with ⟨_,h⟩|⟨_,h⟩<;>exact h
  rw [if_neg (by rw [y01 hW (by decide),y2f hF (by decide+kernel)];decide)];exact ⟨_,_,m,rfl,h,by omega,by simp [pairsN]⟩
theorem x2v (hE:TokA toks) (L:Nat) (hL:toks.length≤L): ∀n,
  (∀(rest:List Txt) (k:Nat) (op:Int) (f fu:Nat),Runs toks n (y07::rest) k op→op≤200→200<op+f→toks.length<fu+k→Got toks n rest op k (sumN dirN) (y8l toks L f fu k))∧
  (∀(rest:List Txt) (k:Nat) (op:Int) (f fu:Nat),Runs toks n (nDIR::y07::rest) k op→op≤200→200<op+f→toks.length<fu+k→Got toks n rest op k (sumN dirN) (y8l toks L f fu k)):=by
 intro n
 induction n using Nat.strongRecOn with
 |_ n ih=>
  refine ⟨fun rest k op f fu h h1 h2 h3=>?_,fun rest k op f fu h h1 h2 h3=>?_⟩
  ·obtain ⟨m,t,rfl,ht,hA⟩:=q4w h;have hlt:k<toks.length:=(Qac.1 ht).1;have hW:=hE.wf k t ht;rcases hA with ⟨hF,h⟩|⟨hF,h⟩
   ·obtain ⟨a,k',m1,e,hr,hm,hN⟩:=(ih m (by omega)).2 rest k op f fu h h1 h2 h3;exact ⟨a,k',m1,e,hr,by omega,hN⟩
   ·have h:Runs toks m rest k op:=by rcases h with ⟨_,h⟩|⟨_,h⟩<;>exact h
    obtain ⟨fu,rfl⟩: ∃g,fu=g+1:=⟨fu - 1,by omega⟩;rw [y8l,ht,Option.bind_some,if_neg (by rw [y01 hW (by decide),y2f hF (by decide+kernel)];decide)];exact ⟨_,_,m,rfl,h,by omega,by simp [sumN]⟩
  ·obtain ⟨m,t,rfl,ht,hA⟩:=q62 h;have hlt:k<toks.length:=(Qac.1 ht).1;have hW:=hE.wf k t ht;obtain ⟨fu,rfl⟩: ∃g,fu=g+1:=⟨fu - 1,by omega⟩;rw [y8l,ht,Option.bind_some];rcases hA with ⟨hF,h⟩|⟨_,h⟩
   ·obtain ⟨m1,rfl,hf,hn,hl,h⟩:=h.t0 hE ht;rw [if_pos (by rw [y01 hW (by decide)];exact hf),hn];obtain ⟨t1,ht1⟩:=h.tok;obtain ⟨m2,rfl,hf1,hn1,hl1,h⟩:=h.t0 hE ht1;rw [ht1,Option.bind_some,hn1];obtain ⟨a,k',m3,e,hr,hm,hN⟩:=x8q hE L hL h h1 h2;rw [e,Option.bind_some];obtain ⟨b,k2,m4,e2,hr2,hm2,hN2⟩:=(ih m3 (by omega)).1 rest k' op f fu hr h1 h2 (by omega);rw [e2,Option.bind_some];exact ⟨_,_,m4,rfl,hr2,by omega,by simp only [sumN,dirN] at hN2 ⊢;omega⟩
   ·exact h.elim
theorem y2h (hE:TokA toks) (L:Nat) (hL:toks.length≤L) {n:Nat} {rest:List Txt} {k:Nat} {op:Int} {f:Nat} (h:Runs toks n (y07::rest) k op) (h1:op≤200) (h2:200<op+f) (hk:0<k):Got toks n rest op k (sumN dirN) (y4w toks L f k):=
 (x2v hE L hL n).1 rest k op f L h h1 h2 (by omega)
theorem y71 (hE:TokA toks) (L:Nat) (hL:toks.length≤L) {n:Nat} {rest:List Txt} {k:Nat} {op:Int} {f:Nat} (h:Runs toks n (nDIR::y07::rest) k op) (h1:op≤200) (h2:200<op+f) (hk:0<k):Got toks n rest op k (sumN dirN) (y4w toks L f k):=
 (x2v hE L hL n).2 rest k op f L h h1 h2 (by omega)
theorem z8p (hE:TokA toks) (mark:UInt8) (hp:mark∈([33,38,40,41,58,61,64,91,93,123,124,125]:Txt)) (hb:y1u [mark]=0) (item list:Txt) (hs:(decide (item≠[])&&decide (item.length≤1000)&& !y31 item&&decide (item≠endT))=true) (hbi:y1u item=0)
  (hin: ∀{n k:Nat} {rest:List Txt} {op:Int},Runs toks n (list::rest) k op→ ∃m t,n=m+1∧toks[k]?=some t∧((fits [[mark]] t=true∧Runs toks m ([mark]::item::list::rest) k op)∨(fits [[mark]] t=false∧((fits [] t=true∧Runs toks m rest k op)∨(fits [] t=false∧(Runs toks m rest k op)))))):
  ∀(n:Nat) (rest:List Txt) (k:Nat) (op:Int) (fu:Nat),Runs toks n (item::list::rest) k op→toks.length<fu+k→Got toks n rest op k (fun l=>l.length) (z1k toks [mark] fu k):=by
 intro n
 induction n using Nat.strongRecOn with
 |_ n ih=>
  intro rest k op fu h h1;obtain ⟨t,ht⟩:=h.tok;have hlt:k<toks.length:=(Qac.1 ht).1;obtain ⟨fu,rfl⟩: ∃g,fu=g+1:=⟨fu - 1,by omega⟩;obtain ⟨m1,rfl,hf,hn,hl,h⟩:=h.t0 hE ht hs hbi;obtain ⟨m2,t1,rfl,ht1,hA⟩:=hin h;have hW1:=hE.wf _ t1 ht1;rw [z1k,ht];simp only;rw [hn,ht1];simp only;rcases hA with ⟨hF,h⟩|⟨hF,h⟩
  ·obtain ⟨m3,rfl,hf1,hn1,hl1,h⟩:=h.t0 hE ht1 (by simp only [Qbd,List.mem_nil_iff,or_false] at hp;rcases hp with rfl|rfl|rfl|rfl|rfl|rfl|rfl|rfl|rfl|rfl|rfl|rfl<;>decide+kernel) hb;rw [if_pos (by rw [y01 hW1 hp];exact hf1)];obtain ⟨a,k',m4,e,hr,hm,hN⟩:=ih m3 (by omega) rest (k+1+1) op fu h (by omega);rw [e];exact ⟨_,_,m4,rfl,hr,by omega,by simp only [List.length_cons] at hN ⊢;omega⟩
  ·have h:Runs toks m2 rest (k+1) op:=by rcases h with ⟨_,h⟩|⟨_,h⟩<;>exact h
   rw [if_neg (by rw [y01 hW1 hp,y2f hF (by simp)];decide)];exact ⟨_,_,m2,rfl,h,by omega,by simp only [Qbj];omega⟩
theorem z0x (hE:TokA toks) (mark:UInt8) (hp:mark∈([33,38,40,41,58,61,64,91,93,123,124,125]:Txt)) (hb:y1u [mark]=0) (item list opt:Txt) (hs:(decide (item≠[])&&decide (item.length≤1000)&& !y31 item&&decide (item≠endT))=true) (hbi:y1u item=0)
  (hno: ∀t,y1d item t=true→t.kind=3)
  (hin: ∀{n k:Nat} {rest:List Txt} {op:Int},Runs toks n (list::rest) k op→ ∃m t,n=m+1∧toks[k]?=some t∧((fits [[mark]] t=true∧Runs toks m ([mark]::item::list::rest) k op)∨(fits [[mark]] t=false∧((fits [] t=true∧Runs toks m rest k op)∨(fits [] t=false∧(Runs toks m rest k op))))))
  (hopt: ∀{n k:Nat} {rest:List Txt} {op:Int},Runs toks n (opt::rest) k op→ ∃m t,n=m+1∧toks[k]?=some t∧((fits [[mark]] t=true∧Runs toks m ([mark]::rest) k op)∨(fits [[mark]] t=false∧((fits [] t=true∧Runs toks m rest k op)∨(fits [] t=false∧(Runs toks m rest k op))))))
  (L:Nat) (hL:toks.length≤L) {n:Nat} {rest:List Txt} {k:Nat} {op:Int} (hk:0<k) (h:Runs toks n (opt::item::list::rest) k op):Got toks n rest op k (fun l=>l.length) (y8y toks [mark] L k):=by
 obtain ⟨m,t,rfl,ht,hA⟩:=hopt h;have hW:=hE.wf _ t ht;unfold y8y;rw [ht];simp only;rcases hA with ⟨hF,h⟩|⟨hF,h⟩
 ·obtain ⟨m1,rfl,hf1,hn1,hl1,h⟩:=h.t0 hE ht (by simp only [Qbd,List.mem_nil_iff,or_false] at hp;rcases hp with rfl|rfl|rfl|rfl|rfl|rfl|rfl|rfl|rfl|rfl|rfl|rfl<;>decide+kernel) hb;rw [if_pos (by rw [y01 hW hp];exact hf1)];obtain ⟨a,k',m2,e,hr,hm,hN⟩:=z8p hE mark hp hb item list hs hbi hin m1 rest (k+1) op L h (by omega);exact ⟨a,k',m2,e,hr,by omega,by (try simp only at hN ⊢);omega⟩
 ·have h:Runs toks m (item::list::rest) k op:=by rcases h with ⟨_,h⟩|⟨_,h⟩<;>exact h
  rw [if_neg (by rw [y01 hW hp,y2f hF (by simp)];decide)];obtain ⟨a,k',m2,e,hr,hm,hN⟩:=z8p hE mark hp hb item list hs hbi hin m rest k op L h (by omega);exact ⟨a,k',m2,e,hr,by omega,hN⟩
theorem z19 {n:Nat} {st:List Txt} {k:Nat} {op:Int} (hE:TokA toks) {t:TokD} (ht:toks[k]?=some t) (h:Runs toks n (tSTR::st) k op): ∃p m,y9w toks k=some (p,k+1)∧n=m+1∧Runs toks m st (k+1) op:=by
 obtain ⟨m,rfl,hf,hn,hl,h⟩:=h.t0 hE ht;unfold y9w;rw [ht,Option.map_some,if_pos (x2t hf)];exact ⟨_,m,rfl,rfl,h⟩
theorem y50 {k:Nat} {t:TokD} (ht:toks[k]?=some t) (hf:y1d tSTR t=false):y9w toks k=some (y5k,k):=by
 unfold y9w;have:((t.kind==6)||(t.kind==7))=false:=hf;simp at this;rw [ht,Option.map_some,if_neg (by omega)]
theorem q3l (hE:TokA toks) (L:Nat) (hL:toks.length≤L) {n:Nat} {rest:List Txt} {k k0:Nat} {op:Int} {f:Nat} {p:NoteD} (hn0:y9w toks k0=some (p,k)) (hk0:k0≤k) (h:Runs toks n (y9d::rest) k op) (h0:0≤op) (h1:op≤200) (h2:200<op+f):
  Got toks n rest op k0 y1q (z47 toks L f k0):=by
 obtain ⟨m,t,rfl,ht,hA⟩:=x8b h;rcases hA with ⟨hF,h⟩|⟨_,h⟩
 ·obtain ⟨m1,rfl,hf,hn,hl,h⟩:=h.t0 hE ht;obtain ⟨t1,ht1⟩:=h.tok;have hW1:=hE.wf _ t1 ht1;obtain ⟨m2,rfl,hf1,hn1,hl1,h⟩:=h.t0 hE ht1;obtain ⟨r,k',m3,e,hr,hm,hN,hlen⟩:=x8p hE _ _ (k+1+1) op f h h0 h1 h2;obtain ⟨m4,t3,rfl,ht3,hA⟩:=x41 hr;have hW3:=hE.wf _ t3 ht3;unfold z47;rw [hn0,Option.bind_some,ht,Option.bind_some,hn,ht1,Option.bind_some,if_pos (by rw [y01 hW1 (by decide)];exact hf1),e,Option.bind_some,ht3,Option.bind_some];rcases hA with ⟨hF,h⟩|⟨hF,h⟩
  ·obtain ⟨m5,rfl,hf3,hn3,hl3,h⟩:=h.t0 hE ht3;rw [if_pos (by rw [y01 hW3 (by decide)];exact hf3)];obtain ⟨a,k2,m6,e2,hr2,hm2,hN2⟩:=(x8o hE L hL _).1 _ _ op f h h1 h2;rw [e2,Option.bind_some];obtain ⟨b,k3,m7,e3,hr3,hm3,hN3⟩:=y2h hE L hL hr2 h1 h2 (by omega);rw [e3,Option.bind_some];exact ⟨_,_,m7,rfl,hr3,by omega,by simp only [y1q];omega⟩
  ·have h:Runs toks m4 (y07::rest) k' op:=by rcases h with ⟨_,h⟩|⟨_,h⟩<;>exact h
   rw [if_neg (by rw [y01 hW3 (by decide),y2f hF (by decide+kernel)];decide),Option.bind_some];obtain ⟨b,k3,m7,e3,hr3,hm3,hN3⟩:=y2h hE L hL h h1 h2 (by omega);rw [e3,Option.bind_some];have hz:litN litZ=1:=rfl;exact ⟨_,_,m7,rfl,hr3,by omega,by simp only [y1q,hz];omega⟩
 ·exact h.elim
theorem x8r (hE:TokA toks) (L:Nat) (hL:toks.length≤L) {n:Nat} {rest:List Txt} {k:Nat} {op:Int} {f:Nat} (h:Runs toks n (y8r::rest) k op) (h0:0≤op) (h1:op≤200) (h2:200<op+f):
  Got toks n rest op k y1q (z47 toks L f k):=by
 obtain ⟨m,t,rfl,ht,hA⟩:=x2s h;rcases hA with ⟨hF,h⟩|⟨hF,⟨hF2,h⟩|⟨_,h⟩⟩
 ·obtain ⟨p,m1,e,em,h'⟩:=z19 hE ht h;subst em;obtain ⟨a,k2,m6,e2,hr2,hm2,hN2⟩:=q3l hE L hL e (by omega) h' h0 h1 h2;exact ⟨a,k2,m6,e2,hr2,by omega,hN2⟩
 ·obtain ⟨a,k2,m6,e2,hr2,hm2,hN2⟩:=q3l hE L hL (y50 ht (y2f hF (by decide+kernel))) (Qab _) h h0 h1 h2;exact ⟨a,k2,m6,e2,hr2,by omega,hN2⟩
 ·exact h.elim
theorem z5e (hE:TokA toks) (L:Nat) (hL:toks.length≤L) (cl:UInt8) (hc:cl=41∨cl=125): ∀n,
  (∀(rest:List Txt) (k:Nat) (op:Int) (f fu:Nat),Runs toks n (y5m::[cl]::rest) k op→0≤op→op≤200→200<op+f→toks.length<fu+k→Got toks n rest (op - 1) k (fun l=>sumN y1q l+1) (y4h toks [cl] L f fu k))∧
  (∀(rest:List Txt) (k:Nat) (op:Int) (f fu:Nat),Runs toks n (y8r::y5m::[cl]::rest) k op→0≤op→op≤200→200<op+f→toks.length<fu+k→Got toks n rest (op - 1) k (fun l=>sumN y1q l+1) (y4h toks [cl] L f fu k)):=by
 intro n
 induction n using Nat.strongRecOn with
 |_ n ih=>
  refine ⟨fun rest k op f fu h h0 h1 h2 h3=>?_,fun rest k op f fu h h0 h1 h2 h3=>?_⟩
  ·obtain ⟨m,t,rfl,ht,hA⟩:=x79 h;have hlt:k<toks.length:=(Qac.1 ht).1;have hW:=hE.wf k t ht;rcases hA with ⟨hF,h⟩|⟨hF,h⟩
   ·obtain ⟨a,k',m1,e,hr,hm,hN⟩:=(ih m (by omega)).2 rest k op f fu h h0 h1 h2 h3;exact ⟨a,k',m1,e,hr,by omega,hN⟩
   ·have h:Runs toks m ([cl]::rest) k op:=by rcases h with ⟨_,h⟩|⟨_,h⟩<;>exact h
    obtain ⟨fu,rfl⟩: ∃g,fu=g+1:=⟨fu - 1,by omega⟩;rw [y4h,ht,Option.bind_some];obtain ⟨m',rfl,hf,hn,hl,h⟩:=h.tclose hE ht (by rcases hc with rfl|rfl<;>decide+kernel) (by rcases hc with rfl|rfl<;>decide+kernel);rw [if_pos (by rw [y01 hW (by rcases hc with rfl|rfl<;>decide)];exact hf)];exact ⟨_,_,m',rfl,h,by omega,by simp [sumN];omega⟩
  ·obtain ⟨t,ht⟩:=h.tok;have hlt:k<toks.length:=(Qac.1 ht).1;have hW:=hE.wf k t ht
   have hno:isF t [cl]=false:=by
    obtain ⟨m,t',_,ht',hA⟩:=x2s h;rw [ht] at ht';injection ht' with ht';subst ht';rcases hA with ⟨hF,_⟩|⟨_,⟨hF,_⟩|⟨_,h⟩⟩
    ·exact y7h hW (by rcases hc with rfl|rfl<;>decide) hF (by rcases hc with rfl|rfl<;>decide+kernel)
    ·exact y7h hW (by rcases hc with rfl|rfl<;>decide) hF (by rcases hc with rfl|rfl<;>decide+kernel)
    ·exact h.elim
   obtain ⟨fu,rfl⟩: ∃g,fu=g+1:=⟨fu - 1,by omega⟩;rw [y4h,ht,Option.bind_some,if_neg (by rw [hno];decide)];obtain ⟨a,k',m3,e,hr,hm,hN⟩:=x8r hE L hL h h0 h1 h2;rw [e,Option.bind_some];have hp:=y2l a;obtain ⟨b,k2,m4,e2,hr2,hm2,hN2⟩:=(ih m3 (by omega)).1 rest k' op f fu hr h0 h1 h2 (by omega);rw [e2,Option.bind_some];exact ⟨_,_,m4,rfl,hr2,by omega,by simp only [sumN] at hN2 ⊢;omega⟩
theorem z3p (hE:TokA toks) (L:Nat) (hL:toks.length≤L) {n:Nat} {rest:List Txt} {k:Nat} {op:Int} {f:Nat} (h:Runs toks n (y7g::rest) k op) (h0:0≤op) (h1:op≤200) (h2:200<op+f):Got toks n rest op k (sumN y1q) (y3l toks [40] [41] L f k):=by
 obtain ⟨m,t,rfl,ht,hA⟩:=x78 h;have hlt:k<toks.length:=(Qac.1 ht).1;have hW:=hE.wf k t ht;unfold y3l;rw [ht,Option.bind_some];rcases hA with ⟨hF,h⟩|⟨hF,h⟩
 ·obtain ⟨m1,rfl,hf,hn,hl,hop,h⟩:=h.topen hE ht;rw [if_pos (by rw [y01 hW (by decide)];exact hf)];obtain ⟨a,k',m2,e,hr,hm,hN⟩:=(z5e hE L hL 41 (.inl rfl) m1).2 rest (k+1) (op+1) f L h (by omega) (by omega) (by omega) (by omega);rw [Int.add_sub_cancel] at hr;exact ⟨a,k',m2,e,hr,by omega,by (try simp only at hN ⊢);omega⟩
 ·have h:Runs toks m rest k op:=by rcases h with ⟨_,h⟩|⟨_,h⟩<;>exact h
  rw [if_neg (by rw [y01 hW (by decide),y2f hF (by decide+kernel)];decide)];exact ⟨_,_,m,rfl,h,by omega,by simp [sumN]⟩
theorem z3q (hE:TokA toks) (L:Nat) (hL:toks.length≤L) {n:Nat} {rest:List Txt} {k:Nat} {op:Int} {f:Nat} (h:Runs toks n (y6p::rest) k op) (h0:0≤op) (h1:op≤200) (h2:200<op+f):Got toks n rest op k (sumN y1q) (y3l toks [123] [125] L f k):=by
 obtain ⟨m,t,rfl,ht,hA⟩:=x47 h;have hlt:k<toks.length:=(Qac.1 ht).1;have hW:=hE.wf k t ht;unfold y3l;rw [ht,Option.bind_some];rcases hA with ⟨hF,h⟩|⟨hF,h⟩
 ·obtain ⟨m1,rfl,hf,hn,hl,hop,h⟩:=h.topen hE ht;rw [if_pos (by rw [y01 hW (by decide)];exact hf)];obtain ⟨a,k',m2,e,hr,hm,hN⟩:=(z5e hE L hL 125 (.inr rfl) m1).2 rest (k+1) (op+1) f L h (by omega) (by omega) (by omega) (by omega);rw [Int.add_sub_cancel] at hr;exact ⟨a,k',m2,e,hr,by omega,by (try simp only at hN ⊢);omega⟩
 ·exact h.elim
theorem z5f (hE:TokA toks) (L:Nat) (hL:toks.length≤L) {n:Nat} {rest:List Txt} {k:Nat} {op:Int} {f:Nat} (h:Runs toks n (y6o::rest) k op) (h0:0≤op) (h1:op≤200) (h2:200<op+f):Got toks n rest op k (sumN y1q) (y3l toks [123] [125] L f k):=by
 obtain ⟨m,t,rfl,ht,hA⟩:=x8j h;have hW:=hE.wf k t ht;rcases hA with ⟨hF,h⟩|⟨hF,h⟩
 ·obtain ⟨a,k',m2,e,hr,hm,hN⟩:=z3q hE L hL h h0 h1 h2;exact ⟨a,k',m2,e,hr,by omega,by (try simp only at hN ⊢);omega⟩
 ·have h:Runs toks m rest k op:=by rcases h with ⟨_,h⟩|⟨_,h⟩<;>exact h
  unfold y3l;rw [ht,Option.bind_some,if_neg (by rw [y01 hW (by decide),y2f hF (by decide+kernel)];decide)];exact ⟨_,_,m,rfl,h,by omega,by simp [sumN]⟩
end
section
variable {toks : List TokD}
theorem q3m (hE:TokA toks) (L:Nat) (hL:toks.length≤L) {n:Nat} {rest:List Txt} {k k0:Nat} {op:Int} {f:Nat} {p:NoteD} (hn0:y9w toks k0=some (p,k)) (hk0:k0≤k) (h:Runs toks n (y9c::rest) k op) (h0:0≤op) (h1:op≤200) (h2:200<op+f):
  Got toks n rest op k0 y19 (y5c toks L f k0):=by
 obtain ⟨m,t,rfl,ht,hA⟩:=x77 h;rcases hA with ⟨hF,h⟩|⟨_,h⟩
 ·obtain ⟨m1,rfl,hf,hn,hl,h⟩:=h.t0 hE ht;obtain ⟨a,k1,m2,e1,hr,hm1,hN1⟩:=z3p hE L hL h h0 h1 h2;obtain ⟨t2,ht2⟩:=hr.tok;have hW2:=hE.wf _ t2 ht2;obtain ⟨m3,rfl,hf2,hn2,hl2,h⟩:=hr.t0 hE ht2;obtain ⟨r,k',m4,e,hr,hm,hN,hlen⟩:=x8p hE _ _ (k1+1) op f h h0 h1 h2;obtain ⟨b,k3,m7,e3,hr3,hm3,hN3⟩:=y2h hE L hL hr h1 h2 (by omega);unfold y5c;rw [hn0,Option.bind_some,ht,Option.bind_some,hn,e1,Option.bind_some,ht2,Option.bind_some,if_pos (by rw [y01 hW2 (by decide)];exact hf2),e,Option.bind_some,e3,Option.bind_some];exact ⟨_,_,m7,rfl,hr3,by omega,by simp only [y19];omega⟩
 ·exact h.elim
theorem x8s (hE:TokA toks) (L:Nat) (hL:toks.length≤L) {n:Nat} {rest:List Txt} {k:Nat} {op:Int} {f:Nat} (h:Runs toks n (z1q::rest) k op) (h0:0≤op) (h1:op≤200) (h2:200<op+f):
  Got toks n rest op k y19 (y5c toks L f k):=by
 obtain ⟨m,t,rfl,ht,hA⟩:=x2r h;rcases hA with ⟨hF,h⟩|⟨hF,⟨hF2,h⟩|⟨_,h⟩⟩
 ·obtain ⟨p,m1,e,em,h'⟩:=z19 hE ht h;subst em;obtain ⟨a,k2,m6,e2,hr2,hm2,hN2⟩:=q3m hE L hL e (by omega) h' h0 h1 h2;exact ⟨a,k2,m6,e2,hr2,by omega,hN2⟩
 ·obtain ⟨a,k2,m6,e2,hr2,hm2,hN2⟩:=q3m hE L hL (y50 ht (y2f hF (by decide+kernel))) (Qab _) h h0 h1 h2;exact ⟨a,k2,m6,e2,hr2,by omega,hN2⟩
 ·exact h.elim
theorem q3n (hE:TokA toks) (L:Nat) (hL:toks.length≤L) {n:Nat} {rest:List Txt} {k k0:Nat} {op:Int} {f:Nat} {p:NoteD} (hn0:y9w toks k0=some (p,k)) (hk0:k0≤k) (h:Runs toks n (z3m::rest) k op) (h1:op≤200) (h2:200<op+f):
  Got toks n rest op k0 y2e (y7c toks L f k0):=by
 obtain ⟨m,t,rfl,ht,hA⟩:=q1t h;rcases hA with ⟨hF,h⟩|⟨_,h⟩
 ·obtain ⟨m1,rfl,hf,hn,hl,h⟩:=h.t0 hE ht;obtain ⟨b,k3,m7,e3,hr3,hm3,hN3⟩:=y2h hE L hL h h1 h2 (by omega);unfold y7c;rw [hn0,Option.bind_some,ht,Option.bind_some,hn,e3,Option.bind_some];exact ⟨_,_,m7,rfl,hr3,by omega,by simp only [y2e];omega⟩
 ·exact h.elim
theorem x8t (hE:TokA toks) (L:Nat) (hL:toks.length≤L) {n:Nat} {rest:List Txt} {k:Nat} {op:Int} {f:Nat} (h:Runs toks n (z8k::rest) k op) (h1:op≤200) (h2:200<op+f):
  Got toks n rest op k y2e (y7c toks L f k):=by
 obtain ⟨m,t,rfl,ht,hA⟩:=x8g h;rcases hA with ⟨hF,h⟩|⟨hF,⟨hF2,h⟩|⟨_,h⟩⟩
 ·obtain ⟨p,m1,e,em,h'⟩:=z19 hE ht h;subst em;obtain ⟨a,k2,m6,e2,hr2,hm2,hN2⟩:=q3n hE L hL e (by omega) h' h1 h2;exact ⟨a,k2,m6,e2,hr2,by omega,hN2⟩
 ·obtain ⟨a,k2,m6,e2,hr2,hm2,hN2⟩:=q3n hE L hL (y50 ht (y2f hF (by decide+kernel))) (Qab _) h h1 h2;exact ⟨a,k2,m6,e2,hr2,by omega,hN2⟩
 ·exact h.elim
theorem q2a (hE:TokA toks) {n:Nat} {rest:List Txt} {k:Nat} {op:Int} (h:Runs toks n (z8j::rest) k op):Got toks n rest op k (fun _=>1) (z2w toks k):=by
 obtain ⟨m,t,rfl,ht,hA⟩:=x71 h;rcases hA with ⟨hF,h⟩|⟨_,h⟩
 ·obtain ⟨m1,rfl,hf,hn,hl,h⟩:=h.t0 hE ht;obtain ⟨t1,ht1⟩:=h.tok;have hW1:=hE.wf _ t1 ht1;obtain ⟨m2,rfl,hf1,hn1,hl1,h⟩:=h.t0 hE ht1;obtain ⟨t2,ht2⟩:=h.tok;obtain ⟨m3,rfl,hf2,hn2,hl2,h⟩:=h.t0 hE ht2
  have hs:y1d tSTR t=false:=by
   have:((t.kind==3)&&y32 t.text y5s)=true:=hf;simp only [Qao,Qa7] at this
   show ((t.kind==6)||(t.kind==7))=false
   rw [this.1];rfl
  unfold z2w;rw [y50 ht hs,Option.bind_some,ht,Option.bind_some];simp only;rw [hn,ht1,Option.bind_some,if_pos (by rw [y01 hW1 (by decide)];exact hf1),ht2,Option.bind_some,hn2];exact ⟨_,_,m3,rfl,h,by omega,by show 1+k≤_;omega⟩
 ·exact h.elim
theorem x8u {α:Type} (hE:TokA toks) (L:Nat) (hL:toks.length≤L) (item list:Txt) (e:Nat→Option (α×Nat)) (N:α→Nat) (hN: ∀a,0<N a) (op:Int) (hop:op≤199)
  (hitem: ∀(n:Nat) (rest:List Txt) (k:Nat),Runs toks n (item::rest) k (op+1)→Got toks n rest (op+1) k N (e k))
  (hno: ∀(n:Nat) (rest:List Txt) (k:Nat) (op:Int) (t:TokD),Runs toks n (item::rest) k op→toks[k]?=some t→isF t [125]=false)
  (hin: ∀(n:Nat) (rest:List Txt) (k:Nat) (op:Int),Runs toks n (list::rest) k op→ ∃m t,n=m+1∧toks[k]?=some t∧(Runs toks m (item::list::rest) k op∨Runs toks m rest k op)): ∀n,
  (∀(rest:List Txt) (k fu:Nat),Runs toks n (list::[125]::rest) k (op+1)→toks.length<fu+k→Got toks n rest op k (fun l=>sumN N l+1) (y6c toks e fu k))∧
  (∀(rest:List Txt) (k fu:Nat),Runs toks n (item::list::[125]::rest) k (op+1)→toks.length<fu+k→Got toks n rest op k (fun l=>sumN N l+1) (y6c toks e fu k)):=by
 intro n
 induction n using Nat.strongRecOn with
 |_ n ih=>
  refine ⟨fun rest k fu h h3=>?_,fun rest k fu h h3=>?_⟩
  ·obtain ⟨m,t,rfl,ht,hA⟩:=hin _ _ _ _ h;have hlt:k<toks.length:=(Qac.1 ht).1;have hW:=hE.wf k t ht;rcases hA with h|h
   ·obtain ⟨a,k',m1,e',hr,hm,hN⟩:=(ih m (by omega)).2 rest k fu h h3;exact ⟨a,k',m1,e',hr,by omega,hN⟩
   ·obtain ⟨fu,rfl⟩: ∃g,fu=g+1:=⟨fu - 1,by omega⟩;rw [y6c,ht,Option.bind_some];obtain ⟨m',rfl,hf,hn,hl,h⟩:=h.tclose hE ht;rw [if_pos (by rw [y01 hW (by decide)];exact hf)];rw [Int.add_sub_cancel] at h;exact ⟨_,_,m',rfl,h,by omega,by simp [sumN];omega⟩
  ·obtain ⟨t,ht⟩:=h.tok;have hlt:k<toks.length:=(Qac.1 ht).1;obtain ⟨fu,rfl⟩: ∃g,fu=g+1:=⟨fu - 1,by omega⟩;rw [y6c,ht,Option.bind_some,if_neg (by rw [hno _ _ _ _ _ h ht];decide)];obtain ⟨a,k',m3,e1,hr,hm,hN1⟩:=hitem _ _ _ h;rw [e1,Option.bind_some];have hp:=hN a;obtain ⟨b,k2,m4,e2,hr2,hm2,hN2⟩:=(ih m3 (by omega)).1 rest k' fu hr (by omega);rw [e2,Option.bind_some];exact ⟨_,_,m4,rfl,hr2,by omega,by simp only [sumN] at hN2 ⊢;omega⟩
theorem z0y {α:Type} (hE:TokA toks) (L:Nat) (hL:toks.length≤L) (item list:Txt) (e:Nat→Option (α×Nat)) (N:α→Nat) (hN: ∀a,0<N a) (op:Int)
  (hitem:op≤199→ ∀(n:Nat) (rest:List Txt) (k:Nat),Runs toks n (item::rest) k (op+1)→Got toks n rest (op+1) k N (e k))
  (hno: ∀(n:Nat) (rest:List Txt) (k:Nat) (op:Int) (t:TokD),Runs toks n (item::rest) k op→toks[k]?=some t→isF t [125]=false)
  (hin: ∀(n:Nat) (rest:List Txt) (k:Nat) (op:Int),Runs toks n (list::rest) k op→ ∃m t,n=m+1∧toks[k]?=some t∧(Runs toks m (item::list::rest) k op∨Runs toks m rest k op))
  {n:Nat} {rest:List Txt} {k:Nat} (h:Runs toks n ([123]::item::list::[125]::rest) k op):Got toks n rest op k (fun l=>sumN N l) (y3c toks e L k):=by
 obtain ⟨t,ht⟩:=h.tok;have hlt:k<toks.length:=(Qac.1 ht).1;have hW:=hE.wf k t ht;obtain ⟨m1,rfl,hf,hn,hl,hop,h⟩:=h.topen hE ht;unfold y3c;rw [ht,Option.bind_some,if_pos (by rw [y01 hW (by decide)];exact hf)];obtain ⟨a,k',m2,e1,hr,hm,hN1⟩:=(x8u hE L hL item list e N hN op (by omega) (hitem (by omega)) hno hin m1).2 rest (k+1) L h (by omega);exact ⟨a,k',m2,e1,hr,by omega,by simp only at hN1 ⊢;omega⟩
theorem z6z {α:Type} (hE:TokA toks) (e:Nat→Option (α×Nat)) (L:Nat) {k:Nat} {t:TokD} (ht:toks[k]?=some t) (hf:y1d [123] t=false):y3c toks e L k=some ([],k):=by
 unfold y3c;rw [ht,Option.bind_some,if_neg (by rw [y01 (hE.wf k t ht) (by decide),hf];decide)]
theorem y95 (hE:TokA toks) {k:Nat} {t:TokD} {F:List Txt} (ht:toks[k]?=some t) (hF:fits F t=true) (hn:F.contains [125]=false):isF t [125]=false:=y7h (hE.wf k t ht) (by decide) hF hn
theorem z3r (hE:TokA toks) (L:Nat) (hL:toks.length≤L) {n:Nat} {rest:List Txt} {k:Nat} {op:Int} {f:Nat} (h:Runs toks n (y6m::rest) k op) (h0:0≤op) (h2:200<op+f):Got toks n rest op k (sumN y19) (y3c toks (y5c toks L f) L k):=by
 obtain ⟨m,t,rfl,ht,hA⟩:=x4v h;rcases hA with ⟨hF,h⟩|⟨_,h⟩
 ·obtain ⟨a,k',m1,e,hr,hm,hN⟩:=z0y hE L hL z1q y9b (y5c toks L f) y19 y2m op (fun ho n rest k h=>x8s hE L hL h (by omega) (by omega) (by omega))
   (fun n rest k op t h ht=>by
     obtain ⟨m,t',_,ht',hA⟩:=x2r h
     rw [ht] at ht';injection ht' with ht';subst ht'
     rcases hA with ⟨hF,_⟩|⟨_,⟨hF,_⟩|⟨_,h⟩⟩
     ·exact y95 hE ht hF (by decide+kernel)
     ·exact y95 hE ht hF (by decide+kernel)
     ·exact h.elim)
   (fun n rest k op h=>by
     obtain ⟨m,t,rfl,ht,hA⟩:=x75 h;rcases hA with ⟨_,h⟩|⟨_,⟨_,h⟩|⟨_,h⟩⟩
     ·exact ⟨m,t,rfl,ht,.inl h⟩
     ·exact ⟨m,t,rfl,ht,.inr h⟩
     ·exact ⟨m,t,rfl,ht,.inr h⟩) h
  exact ⟨a,k',m1,e,hr,by omega,hN⟩
 ·exact h.elim
theorem z0z (hE:TokA toks) (L:Nat) (hL:toks.length≤L) {n:Nat} {rest:List Txt} {k:Nat} {op:Int} {f:Nat} (h:Runs toks n (y3d::rest) k op) (h0:0≤op) (h2:200<op+f):Got toks n rest op k (sumN y19) (y3c toks (y5c toks L f) L k):=by
 obtain ⟨m,t,rfl,ht,hA⟩:=x74 h;rcases hA with ⟨hF,h⟩|⟨hF,h⟩
 ·obtain ⟨a,k',m1,e,hr,hm,hN⟩:=z3r hE L hL h h0 h2;exact ⟨a,k',m1,e,hr,by omega,hN⟩
 ·have h:Runs toks m rest k op:=by rcases h with ⟨_,h⟩|⟨_,h⟩<;>exact h
  rw [z6z hE _ L ht (y2f hF (by decide+kernel))];exact ⟨_,_,m,rfl,h,by omega,by simp [sumN]⟩
theorem z5g (hE:TokA toks) (L:Nat) (hL:toks.length≤L) {n:Nat} {rest:List Txt} {k:Nat} {op:Int} {f:Nat} (h:Runs toks n (y9e::rest) k op) (h0:0≤op) (h2:200<op+f):Got toks n rest op k (sumN y2e) (y3c toks (y7c toks L f) L k):=by
 obtain ⟨m,t,rfl,ht,hA⟩:=x8e h;rcases hA with ⟨hF,h⟩|⟨_,h⟩
 ·obtain ⟨a,k',m1,e,hr,hm,hN⟩:=z0y hE L hL z8k z3l (y7c toks L f) y2e (fun d=>Nat.succ_pos _) op (fun ho n rest k h=>x8t hE L hL h (by omega) (by omega))
   (fun n rest k op t h ht=>by
     obtain ⟨m,t',_,ht',hA⟩:=x8g h
     rw [ht] at ht';injection ht' with ht';subst ht'
     rcases hA with ⟨hF,_⟩|⟨_,⟨hF,_⟩|⟨_,h⟩⟩
     ·exact y95 hE ht hF (by decide+kernel)
     ·exact y95 hE ht hF (by decide+kernel)
     ·exact h.elim)
   (fun n rest k op h=>by
     obtain ⟨m,t,rfl,ht,hA⟩:=q1r h;rcases hA with ⟨_,h⟩|⟨_,⟨_,h⟩|⟨_,h⟩⟩
     ·exact ⟨m,t,rfl,ht,.inl h⟩
     ·exact ⟨m,t,rfl,ht,.inr h⟩
     ·exact ⟨m,t,rfl,ht,.inr h⟩) h
  exact ⟨a,k',m1,e,hr,by omega,hN⟩
 ·exact h.elim
theorem z8q (hE:TokA toks) (L:Nat) (hL:toks.length≤L) {n:Nat} {rest:List Txt} {k:Nat} {op:Int} {f:Nat} (h:Runs toks n (y94::rest) k op) (h0:0≤op) (h2:200<op+f):Got toks n rest op k (sumN y2e) (y3c toks (y7c toks L f) L k):=by
 obtain ⟨m,t,rfl,ht,hA⟩:=q1q h;rcases hA with ⟨hF,h⟩|⟨hF,h⟩
 ·obtain ⟨a,k',m1,e,hr,hm,hN⟩:=z5g hE L hL h h0 h2;exact ⟨a,k',m1,e,hr,by omega,hN⟩
 ·have h:Runs toks m rest k op:=by rcases h with ⟨_,h⟩|⟨_,h⟩<;>exact h
  rw [z6z hE _ L ht (y2f hF (by decide+kernel))];exact ⟨_,_,m,rfl,h,by omega,by simp [sumN]⟩
theorem x8v {α:Type}: ∀l:List α,sumN (fun _=>1) l=l.length
 |[]=>rfl
 |_::r=>by simp only [sumN,x8v r,List.length_cons];omega
theorem z3s (hE:TokA toks) (L:Nat) (hL:toks.length≤L) {n:Nat} {rest:List Txt} {k:Nat} {op:Int} (h:Runs toks n (y5z::rest) k op) (h0:0≤op):Got toks n rest op k (fun l=>l.length) (y3c toks (z2w toks) L k):=by
 obtain ⟨m,t,rfl,ht,hA⟩:=x2q h;rcases hA with ⟨hF,h⟩|⟨_,h⟩
 ·obtain ⟨a,k',m1,e,hr,hm,hN⟩:=z0y hE L hL z8j z3k (z2w toks) (fun _=>1) (fun _=>Nat.one_pos) op (fun ho n rest k h=>q2a hE h)
   (fun n rest k op t h ht=>by
     obtain ⟨m,t',_,ht',hA⟩:=x71 h
     rw [ht] at ht';injection ht' with ht';subst ht'
     rcases hA with ⟨hF,_⟩|⟨_,h⟩
     ·exact y95 hE ht hF (by decide+kernel)
     ·exact h.elim)
   (fun n rest k op h=>by
     obtain ⟨m,t,rfl,ht,hA⟩:=q1o h;rcases hA with ⟨_,h⟩|⟨_,⟨_,h⟩|⟨_,h⟩⟩
     ·exact ⟨m,t,rfl,ht,.inl h⟩
     ·exact ⟨m,t,rfl,ht,.inr h⟩
     ·exact ⟨m,t,rfl,ht,.inr h⟩) h
  exact ⟨a,k',m1,e,hr,by omega,by simp only at hN;rw [x8v] at hN;exact hN⟩
 ·exact h.elim
theorem x5b (hE:TokA toks) (L:Nat) (hL:toks.length≤L) {n:Nat} {rest:List Txt} {k:Nat} {op:Int} (h:Runs toks n (y89::rest) k op) (h0:0≤op):Got toks n rest op k (fun l=>l.length) (y3c toks (z2w toks) L k):=by
 obtain ⟨m,t,rfl,ht,hA⟩:=x7y h;rcases hA with ⟨hF,h⟩|⟨hF,h⟩
 ·obtain ⟨a,k',m1,e,hr,hm,hN⟩:=z3s hE L hL h h0;exact ⟨a,k',m1,e,hr,by omega,hN⟩
 ·have h:Runs toks m rest k op:=by rcases h with ⟨_,h⟩|⟨_,h⟩<;>exact h
  rw [z6z hE _ L ht (y2f hF (by decide+kernel))];exact ⟨_,_,m,rfl,h,by omega,by simp⟩
theorem z3t (hE:TokA toks) (L f:Nat) (hL:0<L) {k:Nat} {t:TokD} (ht:toks[k]?=some t) {F:List Txt} (hF:fits F t=true) (hn:F.contains [64]=false):y4w toks L f k=some ([],k):=by
 obtain ⟨fu,rfl⟩: ∃g,L=g+1:=⟨L - 1,by omega⟩;unfold y4w;rw [y8l,ht,Option.bind_some,if_neg (by rw [y7h (hE.wf k t ht) (by decide) hF hn];decide)]
theorem x5c {t:TokD} (h:y1d [46,112,108,97,99,101] t=true):t.kind=3:=by
 have:((t.kind==3)&&y32 t.text y4n)=true:=h;simp only [Qao,Qa7] at this;exact this.1
theorem z3u (hE:TokA toks) (L:Nat) (hL:toks.length≤L) {n:Nat} {rest:List Txt} {k:Nat} {op:Int} (h:Runs toks n (y6l::rest) k op):Got toks n rest op k (fun l=>l.length) (optF toks [105,109,112,108,101,109,101,110,116,115] [38] L k):=by
 obtain ⟨m,t,rfl,ht,hA⟩:=x4s h;have hW:=hE.wf _ t ht;rcases hA with ⟨hF,h⟩|⟨_,h⟩
 ·obtain ⟨m1,rfl,hf,hn,hl,h⟩:=h.t0 hE ht;unfold optF;rw [ht,Option.bind_some,if_pos (by rw [z0w hW (by decide)];exact hf)];obtain ⟨a,k',m2,e,hr,hm,hN⟩:=z0x hE 38 (by decide) (by decide+kernel) z6y y9a nAMP (by decide+kernel) (by decide+kernel) (fun t h=>z3o h) x73 q61 L hL (by omega) h;exact ⟨a,k',m2,e,hr,by omega,by simp only at hN ⊢;omega⟩
 ·exact h.elim
theorem z3v (hE:TokA toks) (L:Nat) {k:Nat} {t:TokD} (ht:toks[k]?=some t) (hf:y1d [39,105,109,112,108,101,109,101,110,116,115] t=false):optF toks [105,109,112,108,101,109,101,110,116,115] [38] L k=some ([],k):=by
 unfold optF;rw [ht,Option.bind_some,if_neg (by rw [z0w (hE.wf k t ht) (by decide),hf];decide)]
theorem x5d (hE:TokA toks) (L:Nat) (hL:toks.length≤L) {n:Nat} {rest:List Txt} {k:Nat} {op:Int} (h:Runs toks n (y5l::rest) k op):Got toks n rest op k (fun l=>l.length) (optF toks [105,109,112,108,101,109,101,110,116,115] [38] L k):=by
 obtain ⟨m,t,rfl,ht,hA⟩:=x72 h;rcases hA with ⟨hF,h⟩|⟨hF,h⟩
 ·obtain ⟨a,k',m2,e,hr,hm,hN⟩:=z3u hE L hL h;exact ⟨a,k',m2,e,hr,by omega,hN⟩
 ·have h:Runs toks m rest k op:=by rcases h with ⟨_,h⟩|⟨_,h⟩<;>exact h
  rw [z3v hE L ht (y2f hF (by decide+kernel))];exact ⟨_,_,m,rfl,h,by omega,by simp⟩
theorem z1r (hE:TokA toks) (L:Nat) (hL:toks.length≤L) {n:Nat} {rest:List Txt} {k:Nat} {op:Int} (h:Runs toks n (y42::rest) k op):Got toks n rest op k (fun l=>l.length) (optF toks [61] [124] L k):=by
 obtain ⟨m,t,rfl,ht,hA⟩:=x02 h;have hW:=hE.wf _ t ht;rcases hA with ⟨hF,h⟩|⟨_,h⟩
 ·obtain ⟨m1,rfl,hf,hn,hl,h⟩:=h.t0 hE ht;unfold optF;rw [ht,Option.bind_some,if_pos (by rw [y01 hW (by decide)];exact hf)];obtain ⟨a,k',m2,e,hr,hm,hN⟩:=z0x hE 124 (by decide) (by decide+kernel) z6y y6n nBAR (by decide+kernel) (by decide+kernel) (fun t h=>z3o h) x43 q3k L hL (by omega) h;exact ⟨a,k',m2,e,hr,by omega,by simp only at hN ⊢;omega⟩
 ·exact h.elim
theorem z3w (hE:TokA toks) (L:Nat) (hL:toks.length≤L) {n:Nat} {rest:List Txt} {k:Nat} {op:Int} (h:Runs toks n (y4j::rest) k op):Got toks n rest op k (fun l=>l.length) (optF toks [61] [124] L k):=by
 obtain ⟨m,t,rfl,ht,hA⟩:=x42 h;rcases hA with ⟨hF,h⟩|⟨hF,h⟩
 ·obtain ⟨a,k',m2,e,hr,hm,hN⟩:=z1r hE L hL h;exact ⟨a,k',m2,e,hr,by omega,hN⟩
 ·have h:Runs toks m rest k op:=by rcases h with ⟨_,h⟩|⟨_,h⟩<;>exact h
  unfold optF;rw [ht,Option.bind_some,if_neg (by rw [y01 (hE.wf k t ht) (by decide),y2f hF (by decide+kernel)];decide)];exact ⟨_,_,m,rfl,h,by omega,by simp⟩
section body
variable (hE : TokA toks) (L : Nat) (hL : toks.length ≤ L) (f : Nat) (h2 : 200 < f) (hd : NoteD × Bool × TokD × Nat) {k0 : Nat} (hk0 : k0 + 1 ≤ hd.2.2.2)
include hE hL h2 hk0
theorem z3x {n:Nat} {st:List Txt} {rest:List Txt} (h:Runs toks n (st++rest) hd.2.2.2 0) (hst:st=[y07,y5z]∨st=[nDIR,y07,y89]∨st=[y5z]):Got toks n rest 0 k0 defN (y8z toks L f hd):=by
 unfold y8z
 have fin: ∀n k1 ds,Got toks n rest 0 k1 (fun l=>l.length) (y3c toks (z2w toks) L k1)→y4w toks L f hd.2.2.2=some (ds,k1)→sumN dirN ds+hd.2.2.2≤k1→Got toks n rest 0 k0 defN ((y4w toks L f hd.2.2.2).bind fun d=>(y3c toks (z2w toks) L d.2).bind fun r=>some ((⟨1,hd.2.1,hd.1,[],[],d.1,[],[],[],[],r.1,false,[],hd.2.2.1.line,hd.2.2.1.col⟩:DefD),r.2)):=by
  rintro n k1 ds ⟨a,k',m1,e,hr,hm,hN⟩ hds hsz;rw [hds,Option.bind_some,e,Option.bind_some];exact ⟨_,_,m1,rfl,hr,hm,by simp only [defN,sumN,List.length_nil] at hN ⊢;omega⟩
 rcases hst with rfl|rfl|rfl
 ·obtain ⟨a,k',m1,e,hr,hm,hN⟩:=y2h hE L hL h (by omega) (by omega:200<(0:Int)+(f:Nat)) (by omega:0<hd.2.2.2);have hg:=z3s hE L hL hr (Int.le_refl _);obtain ⟨x,y,z,g1,g2,g3,g4⟩:=fin _ _ _ hg e hN;exact ⟨x,y,z,g1,g2,by omega,g4⟩
 ·obtain ⟨a,k',m1,e,hr,hm,hN⟩:=y71 hE L hL h (by omega) (by omega:200<(0:Int)+(f:Nat)) (by omega:0<hd.2.2.2);have hg:=x5b hE L hL hr (Int.le_refl _);obtain ⟨x,y,z,g1,g2,g3,g4⟩:=fin _ _ _ hg e hN;exact ⟨x,y,z,g1,g2,by omega,g4⟩
 ·have hg:=z3s hE L hL h (Int.le_refl _);obtain ⟨m,t,_,ht,hA⟩:=x2q h;rcases hA with ⟨hF,_⟩|⟨_,hA⟩
  ·have hlt:=(Qac.1 ht).1;exact fin _ _ _ hg (z3t hE L f (by omega) ht hF (by decide+kernel)) (by simp [sumN])
  ·exact hA.elim
theorem z8r {n:Nat} {st:List Txt} {rest:List Txt} (h:Runs toks n (z6y::(st++rest)) hd.2.2.2 0) (hst:st=[y07]∨st=[nDIR,y07]):Got toks n rest 0 k0 defN (y80 toks L f hd):=by
 obtain ⟨t,ht⟩:=h.tok;obtain ⟨m1,rfl,hf,hn,hl,h⟩:=h.t0 hE ht;unfold y80;rw [ht,Option.bind_some,hn]
 have hg:Got toks m1 rest 0 (hd.2.2.2+1) (sumN dirN) (y4w toks L f (hd.2.2.2+1)):=by
  rcases hst with rfl|rfl
  ·exact y2h hE L hL h (by omega) (by omega) (by omega)
  ·exact y71 hE L hL h (by omega) (by omega) (by omega)
 obtain ⟨a,k',m2,e,hr,hm,hN⟩:=hg;rw [e,Option.bind_some];exact ⟨_,_,m2,rfl,hr,by omega,by simp only [defN,sumN,List.length_nil] at hN ⊢;omega⟩
theorem y96 (kind:Int) {n:Nat} {st:List Txt} {rest:List Txt} (h:Runs toks n (z6y::(st++rest)) hd.2.2.2 0) (hst:st=[y5l,y07,y3d]∨st=[y4i]):Got toks n rest 0 k0 defN (y4c kind toks L f hd):=by
 obtain ⟨t,ht⟩:=h.tok;obtain ⟨m1,rfl,hf,hn,hl,h⟩:=h.t0 hE ht
 have hg: ∃is k1 ds k2,optF toks [105,109,112,108,101,109,101,110,116,115] [38] L (hd.2.2.2+1)=some (is,k1)∧y4w toks L f k1=some (ds,k2)∧is.length+(hd.2.2.2+1)≤k1∧sumN dirN ds+k1≤k2∧Got toks m1 rest 0 k2 (sumN y19) (y3c toks (y5c toks L f) L k2):=by
  rcases hst with rfl|rfl
  ·obtain ⟨a,k1,m2,e,hr,hm,hN⟩:=x5d hE L hL h;obtain ⟨b,k2,m3,e2,hr2,hm2,hN2⟩:=y2h hE L hL hr (by omega) (by omega:200<(0:Int)+(f:Nat)) (by omega);obtain ⟨x,y,z,g1,g2,g3,g4⟩:=z0z hE L hL hr2 (Int.le_refl _) (by omega:200<(0:Int)+(f:Nat));exact ⟨a,k1,b,k2,e,e2,hN,hN2,x,y,z,g1,g2,by omega,g4⟩
  ·obtain ⟨m2,t2,rfl,ht2,hA⟩:=x4q h;rcases hA with ⟨hF,h⟩|⟨hF0,⟨hF,h⟩|⟨_,⟨hF,h⟩|⟨_,hA⟩⟩⟩
   ·obtain ⟨a,k1,m2,e,hr,hm,hN⟩:=z3u hE L hL h;obtain ⟨b,k2,m3,e2,hr2,hm2,hN2⟩:=y2h hE L hL hr (by omega) (by omega:200<(0:Int)+(f:Nat)) (by omega);obtain ⟨x,y,z,g1,g2,g3,g4⟩:=z0z hE L hL hr2 (Int.le_refl _) (by omega:200<(0:Int)+(f:Nat));exact ⟨a,k1,b,k2,e,e2,hN,hN2,x,y,z,g1,g2,by omega,g4⟩
   ·obtain ⟨b,k2,m3,e2,hr2,hm2,hN2⟩:=y71 hE L hL h (by omega) (by omega:200<(0:Int)+(f:Nat)) (by omega);obtain ⟨x,y,z,g1,g2,g3,g4⟩:=z0z hE L hL hr2 (Int.le_refl _) (by omega:200<(0:Int)+(f:Nat));exact ⟨[],_,b,k2,z3v hE L ht2 (y2f hF0 (by decide+kernel)),e2,by simp,hN2,x,y,z,g1,g2,by omega,g4⟩
   ·obtain ⟨x,y,z,g1,g2,g3,g4⟩:=z3r hE L hL h (Int.le_refl _) (by omega:200<(0:Int)+(f:Nat));exact ⟨[],_,[],_,z3v hE L ht2 (y2f hF0 (by decide+kernel)),z3t hE L f (by omega) ht2 hF (by decide+kernel),by simp,by simp [sumN],x,y,z,g1,g2,by omega,g4⟩
   ·exact hA.elim
 obtain ⟨is,k1,ds,k2,e1,e2,hN1,hN2,a,k',m2,e,hr,hm,hN⟩:=hg;unfold y4c;rw [ht,Option.bind_some,hn,e1,Option.bind_some,e2,Option.bind_some,e,Option.bind_some];exact ⟨_,_,m2,rfl,hr,by omega,by simp only [defN,sumN,List.length_nil] at hN ⊢;omega⟩
theorem x2w {n:Nat} {st:List Txt} {rest:List Txt} (h:Runs toks n (z6y::(st++rest)) hd.2.2.2 0) (hst:st=[y07,y4j]∨st=[z0u]):Got toks n rest 0 k0 defN (z2x toks L f hd):=by
 obtain ⟨t,ht⟩:=h.tok;obtain ⟨m1,rfl,hf,hn,hl,h⟩:=h.t0 hE ht
 have hg: ∃ds k2,y4w toks L f (hd.2.2.2+1)=some (ds,k2)∧sumN dirN ds+(hd.2.2.2+1)≤k2∧Got toks m1 rest 0 k2 (fun l=>l.length) (optF toks [61] [124] L k2):=by
  rcases hst with rfl|rfl
  ·obtain ⟨b,k2,m3,e2,hr2,hm2,hN2⟩:=y2h hE L hL h (by omega) (by omega:200<(0:Int)+(f:Nat)) (by omega);obtain ⟨x,y,z,g1,g2,g3,g4⟩:=z3w hE L hL hr2;exact ⟨b,k2,e2,hN2,x,y,z,g1,g2,by omega,g4⟩
  ·obtain ⟨m2,t2,rfl,ht2,hA⟩:=x8c h;rcases hA with ⟨hF,h⟩|⟨_,⟨hF,h⟩|⟨_,hA⟩⟩
   ·obtain ⟨b,k2,m3,e2,hr2,hm2,hN2⟩:=y71 hE L hL h (by omega) (by omega:200<(0:Int)+(f:Nat)) (by omega);obtain ⟨x,y,z,g1,g2,g3,g4⟩:=z3w hE L hL hr2;exact ⟨b,k2,e2,hN2,x,y,z,g1,g2,by omega,g4⟩
   ·obtain ⟨x,y,z,g1,g2,g3,g4⟩:=z1r hE L hL h;exact ⟨[],_,z3t hE L f (by omega) ht2 hF (by decide+kernel),by simp [sumN],x,y,z,g1,g2,by omega,g4⟩
   ·exact hA.elim
 obtain ⟨ds,k2,e2,hN2,a,k',m2,e,hr,hm,hN⟩:=hg;unfold z2x;rw [ht,Option.bind_some,hn,e2,Option.bind_some,e,Option.bind_some];exact ⟨_,_,m2,rfl,hr,by omega,by simp only [defN,sumN,List.length_nil] at hN ⊢;omega⟩
theorem x8w {n:Nat} {st:List Txt} {rest:List Txt} (h:Runs toks n (z6y::(st++rest)) hd.2.2.2 0) (hst:st=[y07,y94]∨st=[z5d]):Got toks n rest 0 k0 defN (x0l toks L f hd):=by
 obtain ⟨t,ht⟩:=h.tok;obtain ⟨m1,rfl,hf,hn,hl,h⟩:=h.t0 hE ht
 have hg: ∃ds k2,y4w toks L f (hd.2.2.2+1)=some (ds,k2)∧sumN dirN ds+(hd.2.2.2+1)≤k2∧Got toks m1 rest 0 k2 (sumN y2e) (y3c toks (y7c toks L f) L k2):=by
  rcases hst with rfl|rfl
  ·obtain ⟨b,k2,m3,e2,hr2,hm2,hN2⟩:=y2h hE L hL h (by omega) (by omega:200<(0:Int)+(f:Nat)) (by omega);obtain ⟨x,y,z,g1,g2,g3,g4⟩:=z8q hE L hL hr2 (Int.le_refl _) (by omega:200<(0:Int)+(f:Nat));exact ⟨b,k2,e2,hN2,x,y,z,g1,g2,by omega,g4⟩
  ·obtain ⟨m2,t2,rfl,ht2,hA⟩:=q1u h;rcases hA with ⟨hF,h⟩|⟨_,⟨hF,h⟩|⟨_,hA⟩⟩
   ·obtain ⟨b,k2,m3,e2,hr2,hm2,hN2⟩:=y71 hE L hL h (by omega) (by omega:200<(0:Int)+(f:Nat)) (by omega);obtain ⟨x,y,z,g1,g2,g3,g4⟩:=z8q hE L hL hr2 (Int.le_refl _) (by omega:200<(0:Int)+(f:Nat));exact ⟨b,k2,e2,hN2,x,y,z,g1,g2,by omega,g4⟩
   ·obtain ⟨x,y,z,g1,g2,g3,g4⟩:=z5g hE L hL h (Int.le_refl _) (by omega:200<(0:Int)+(f:Nat));exact ⟨[],_,z3t hE L f (by omega) ht2 hF (by decide+kernel),by simp [sumN],x,y,z,g1,g2,by omega,g4⟩
   ·exact hA.elim
 obtain ⟨ds,k2,e2,hN2,a,k',m2,e,hr,hm,hN⟩:=hg;unfold x0l;rw [ht,Option.bind_some,hn,e2,Option.bind_some,e,Option.bind_some];exact ⟨_,_,m2,rfl,hr,by omega,by simp only [defN,sumN,List.length_nil] at hN ⊢;omega⟩
theorem x2x {n:Nat} {st:List Txt} {rest:List Txt} (h:Runs toks n (z6y::(st++rest)) hd.2.2.2 0) (hst:st=[y07,y6o]∨st=[z0v]):Got toks n rest 0 k0 defN (z2y toks L f hd):=by
 obtain ⟨t,ht⟩:=h.tok;obtain ⟨m1,rfl,hf,hn,hl,h⟩:=h.t0 hE ht
 have hg: ∃ds k2,y4w toks L f (hd.2.2.2+1)=some (ds,k2)∧sumN dirN ds+(hd.2.2.2+1)≤k2∧Got toks m1 rest 0 k2 (sumN y1q) (y3l toks [123] [125] L f k2):=by
  rcases hst with rfl|rfl
  ·obtain ⟨b,k2,m3,e2,hr2,hm2,hN2⟩:=y2h hE L hL h (by omega) (by omega:200<(0:Int)+(f:Nat)) (by omega);obtain ⟨x,y,z,g1,g2,g3,g4⟩:=z5f hE L hL hr2 (Int.le_refl _) (by omega) (by omega:200<(0:Int)+(f:Nat));exact ⟨b,k2,e2,hN2,x,y,z,g1,g2,by omega,g4⟩
  ·obtain ⟨m2,t2,rfl,ht2,hA⟩:=x8k h;rcases hA with ⟨hF,h⟩|⟨_,⟨hF,h⟩|⟨_,hA⟩⟩
   ·obtain ⟨b,k2,m3,e2,hr2,hm2,hN2⟩:=y71 hE L hL h (by omega) (by omega:200<(0:Int)+(f:Nat)) (by omega);obtain ⟨x,y,z,g1,g2,g3,g4⟩:=z5f hE L hL hr2 (Int.le_refl _) (by omega) (by omega:200<(0:Int)+(f:Nat));exact ⟨b,k2,e2,hN2,x,y,z,g1,g2,by omega,g4⟩
   ·obtain ⟨x,y,z,g1,g2,g3,g4⟩:=z3q hE L hL h (Int.le_refl _) (by omega) (by omega:200<(0:Int)+(f:Nat));exact ⟨[],_,z3t hE L f (by omega) ht2 hF (by decide+kernel),by simp [sumN],x,y,z,g1,g2,by omega,g4⟩
   ·exact hA.elim
 obtain ⟨ds,k2,e2,hN2,a,k',m2,e,hr,hm,hN⟩:=hg;unfold z2y;rw [ht,Option.bind_some,hn,e2,Option.bind_some,e,Option.bind_some];exact ⟨_,_,m2,rfl,hr,by omega,by simp only [defN,sumN,List.length_nil] at hN ⊢;omega⟩
theorem q65 {n:Nat} {rest:List Txt} (h:Runs toks n ([64]::z6y::y7g::z3n::[39,111,110]::nBAR::[46,112,108,97,99,101]::y5n::rest) hd.2.2.2 0):Got toks n rest 0 k0 defN (dirF toks L f hd):=by
 obtain ⟨t,ht⟩:=h.tok;have hW:=hE.wf _ t ht;obtain ⟨m1,rfl,hf,hn,hl,h⟩:=h.t0 hE ht;obtain ⟨t3,ht3⟩:=h.tok;obtain ⟨m2,rfl,hf3,hn3,hl3,h⟩:=h.t0 hE ht3;obtain ⟨a,k1,m3,e1,hr,hm1,hN1⟩:=z3p hE L hL h (Int.le_refl _) (by omega) (by omega:200<(0:Int)+(f:Nat))
 have hrep: ∃k2 m4 t5,toks[k1]?=some t5∧(if isF t5 [114,101,112,101,97,116,97,98,108,101]=true then k1+1 else k1)=k2∧k1≤k2∧m4<m3∧Runs toks m4 ([39,111,110]::nBAR::[46,112,108,97,99,101]::y5n::rest) k2 0:=by
  obtain ⟨m4,t5,rfl,ht5,hA⟩:=x8l hr;have hW5:=hE.wf _ t5 ht5;rcases hA with ⟨hF,h⟩|⟨hF,h⟩
  ·obtain ⟨m5,rfl,hf5,hn5,hl5,h⟩:=h.t0 hE ht5;exact ⟨k1+1,m5,t5,ht5,if_pos (by rw [z0w hW5 (by decide)];exact hf5),by omega,by omega,h⟩
  ·have h:Runs toks m4 ([39,111,110]::nBAR::[46,112,108,97,99,101]::y5n::rest) k1 0:=by rcases h with ⟨_,h⟩|⟨_,h⟩<;>exact h
   exact ⟨k1,m4,t5,ht5,if_neg (by rw [z0w hW5 (by decide),y2f hF (by decide+kernel)];decide),by omega,by omega,h⟩
 obtain ⟨k2,m4,t5,ht5,hk2,hle,hm4,h⟩:=hrep;obtain ⟨t6,ht6⟩:=h.tok;have hW6:=hE.wf _ t6 ht6;obtain ⟨m5,rfl,hf6,hn6,hl6,h⟩:=h.t0 hE ht6;obtain ⟨b,k3,m6,e2,hr2,hm2,hN2⟩:=z0x hE 124 (by decide) (by decide+kernel) [46,112,108,97,99,101] y5n nBAR (by decide+kernel) (by decide+kernel) (fun t h=>x5c h) x8m q3k L hL (by omega) h;unfold dirF;rw [ht,Option.bind_some,if_pos (by rw [y01 hW (by decide)];exact hf),ht3,Option.bind_some,hn3,e1,Option.bind_some,ht5,Option.bind_some,hk2,ht6,Option.bind_some,if_pos (by rw [z0w hW6 (by decide)];exact hf6),e2,Option.bind_some];exact ⟨_,_,m6,rfl,hr2,by omega,by simp only [defN,sumN,List.length_nil] at hN1 hN2 ⊢;omega⟩
end body
end
end Go.Proofs.YtbpgkkoeehopjaaGreat.acr
