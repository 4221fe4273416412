/- Proved: of no definitions, of a nil type system and of the built-in definitions of the chapter, the types and directives are just those of the chapter, in its order, at the zero place (TypesysBuiltIn); conditions: arguments up to the sizes of the Upto form. -/
import Derived.Test.YtbpgkkoeehopjaaGreatP4
import Derived.Test.YtbpgkkoeehopjaaGreatP9
import Derived.Test.YtbpgkkoeehopjaaGreatP12
import Derived.Test.YtbpgkkoeehopjaaGreatP15
import Derived.Test.YtbpgkkoeehopjaaGreatP16
import Derived.Lib.TrimAscii
import Derived.KernelRfl
import Derived.Deep.QuietTactic
import Derived.BigQuiet
import Derived.WalkKit
import Derived.ProofKit
import Derived.OpenShut
import Derived.JoinedCond
set_option linter.unusedVariables false
set_option linter.unusedSimpArgs false
namespace Go.Proofs.YtbpgkkoeehopjaaGreat.lex
open Go.RowKit words enc utf dec ln lines tree gram
theorem y5k (s:List Int) (k i:Nat):s[k+i]?=(s.drop k)[i]?:=(Qbc ..).symm
theorem x85 (s:List Int) (k:Nat): ∀f i,y8g s f (k+i)=(y8g (s.drop k) f i).map (k+ ·)
 |0,i=>rfl
 |f+1,i=>by
  rw [y8g,y8g,y5k]
  cases (s.drop k)[i]? with
  |none=>rfl
  |some c=>
   dsimp only;split
   ·exact x85 s k f (i+1)
   ·rfl
theorem q2v (s:List Int) (k:Nat): ∀f i,comF s f (k+i)=(comF (s.drop k) f i).map (k+ ·)
 |0,i=>rfl
 |f+1,i=>by
  rw [comF,comF,y5k]
  cases (s.drop k)[i]? with
  |none=>rfl
  |some c=>
   dsimp only;split
   ·exact q2v s k f (i+1)
   ·rfl
theorem x86 (s:List Int) (k:Nat): ∀f i,behF s f (k+i)=(behF (s.drop k) f i).map (k+ ·)
 |0,i=>rfl
 |f+1,i=>by
  rw [behF,behF,y5k]
  cases (s.drop k)[i]? with
  |none=>rfl
  |some c=>
   dsimp only;split
   ·exact x86 s k f (i+1)
   ·split
    ·rw [q2v s k f i]
     cases comF (s.drop k) f i with
     |none=>rfl
     |some j=>exact x86 s k f j
    ·rfl
theorem z1k (s:List Int) (k i:Nat) (c:Int):y2e s (k+i) c=y2e (s.drop k) i c:=by
 unfold y2e;rw [y5k s k i,Nat.add_assoc k i 1,y5k s k (i+1),Nat.add_assoc k i 2,y5k s k (i+2)]
theorem q13 (s:List Int) (k i:Nat):y70 s (k+i)=(y70 (s.drop k) i).map (k+ ·):=by
 unfold y70;rw [y5k]
 cases (s.drop k)[i]? with
 |none=>rfl
 |some c=>
  dsimp only [Option.map];rw [z1k];split
  ·rfl
  ·split<;>rfl
theorem x87 (s:List Int) (k i:Nat): ∀f j,quoF s (k+i) f (k+j)=(quoF (s.drop k) i f j).map (k+ ·)
 |0,j=>rfl
 |f+1,j=>by
  rw [quoF,quoF,y5k,Nat.add_assoc,y5k]
  cases (s.drop k)[j]? with
  |none=>rfl
  |some c=>
   dsimp only;split
   ·split
    ·rfl
    ·split
     ·cases (s.drop k)[j+1]? with
      |none=>rfl
      |some d=>
       dsimp only;split
       ·rfl
       ·exact x87 s k i f (j+2)
     ·exact x87 s k i f (j+1)
   ·rfl
theorem x88 (s:List Int) (k i:Nat): ∀f j,blkF s (k+i) f (k+j)=(blkF (s.drop k) i f j).map (k+ ·)
 |0,j=>rfl
 |f+1,j=>by
  rw [blkF,blkF,y5k,Nat.add_assoc k j 1,z1k s k (j+1),z1k s k j]
  cases (s.drop k)[j]? with
  |none=>rfl
  |some c=>
   dsimp only;split
   ·rfl
   ·split
    ·exact x88 s k i f (j+4)
    ·split
     ·rfl
     ·exact x88 s k i f (j+1)
theorem x0c (k:Nat): ∀(l:List Int) (m:Nat) (st:Int) (e:Nat) (f:Int),y15 l (k+m) st (k+e) f=(k+(y15 l m st e f).1,k+(y15 l m st e f).2.1,(y15 l m st e f).2.2)
 |[],m,st,e,f=>rfl
 |c::r,m,st,e,f=>by
  rw [y15,y15];split
  ·rfl
  ·split
   ·exact x0c k r (m+1) _ (m+1) _
   ·exact x0c k r (m+1) _ e f
theorem q6p (s:List Int) (k i:Nat):numF s (k+i)=(k+(numF (s.drop k) i).1,(numF (s.drop k) i).2):=by
 unfold numF
 have e:y7v s (k+i)=(k+(y7v (s.drop k) i).1,k+(y7v (s.drop k) i).2.1,(y7v (s.drop k) i).2.2):=by
  unfold y7v;rw [x0c,List.drop_drop]
 rw [e,y5k];dsimp only
 cases (s.drop k)[(y7v (s.drop k) i).1]? with
 |none=>rfl
 |some z=>
  dsimp only;simp only [Nat.add_left_cancel_iff]
  split<;>rfl
theorem q4q (s:List Int) {k:Nat} (hk:k≤s.length) (f i:Nat):z6r s f (k+i)=(z6r (s.drop k) f i).map fun r=>(k+r.1,r.2):=by
 unfold z6r;rw [z1k,Nat.add_assoc k i 3,Nat.add_assoc k i 1,x88 s k i f (i+3),x87 s k i f (i+1)];split
 ·cases blkF (s.drop k) i f (i+3) with
  |none=>rfl
  |some j=>
   simp only [Option.map_some,Nat.add_left_cancel_iff];by_cases hj:j=i
   ·rw [if_pos hj,if_pos hj];rfl
   ·rw [if_neg hj,if_neg hj,Qav]
    have e1:k+j - 3 - (k+(i+3))=j - 3 - (i+3):=by omega
    by_cases h:i+6≤j∧j≤s.length - k
    ·rw [if_pos h,if_pos (show k+i+6≤k+j∧k+j≤s.length by omega),e1,List.drop_drop]
     split<;>rfl
    ·rw [if_neg h,if_neg (show ¬(k+i+6≤k+j∧k+j≤s.length) by omega)];rfl
 ·cases quoF (s.drop k) i f (i+1) with
  |none=>rfl
  |some j=>
   simp only [Option.map_some,Nat.add_left_cancel_iff];by_cases hj:j=i
   ·rw [if_pos hj,if_pos hj];rfl
   ·rw [if_neg hj,if_neg hj,Qav]
    have e1:k+j - 1 - (k+(i+1))=j - 1 - (i+1):=by omega
    by_cases h:i+2≤j∧j≤s.length - k
    ·rw [if_pos h,if_pos (show k+i+2≤k+j∧k+j≤s.length by omega),e1,List.drop_drop]
     split<;>rfl
    ·rw [if_neg h,if_neg (show ¬(k+i+2≤k+j∧k+j≤s.length) by omega)];rfl
theorem q6q (s:List Int) {k:Nat} (hk:k≤s.length) (f i:Nat):oneF s f (k+i)=(oneF (s.drop k) f i).map fun r=>(k+r.1,r.2):=by
 unfold oneF;rw [y5k,x85,q6p,q4q s hk,q13]
 cases (s.drop k)[i]? with
 |none=>rfl
 |some c=>
  dsimp only;split
  ·rfl
  ·split
   ·cases y8g (s.drop k) f i<;>rfl
   ·split
    ·rfl
    ·split
     ·rfl
     ·cases y70 (s.drop k) i with
      |none=>rfl
      |some j=>
       simp only [Option.map_some];by_cases h:i<j
       ·rw [if_pos h,if_pos (by omega)];rfl
       ·rw [if_neg h,if_neg (by omega)];rfl
def keyT (t:TokD):Int×Txt×Txt:=(t.kind,t.text,t.value)
def lexT (B:Nat):Nat→List Int→Option (List (Int×Txt×Txt))
 |0,_=>none
 |f+1,s=>match behF s B 0 with
  |none=>none
  |some a=>match oneF (s.drop a) B 0 with
   |none=>none
   |some r=>if a+r.1≤s.length∧a+1≤s.length then
     (if r.2.1=0∨r.2.1=1 then some [(r.2.1,(encS ((s.drop a).take r.1)).data.toList,r.2.2)]
     else (lexT B f (s.drop (a+r.1))).map fun l=>(r.2.1,(encS ((s.drop a).take r.1)).data.toList,r.2.2)::l) else none
theorem x89 {zs s:List Int} (B:Nat) (hz:zs.length+1=s.length) (hs:s.length≤3000000): ∀f i,i≤s.length→(z07 zs s B f i).map (·.map keyT)=lexT B f (s.drop i)
 |0,i,hi=>rfl
 |f+1,i,hi=>by
  rw [z07,lexT,y9d];have e:=x86 s i B 0;rw [Nat.add_zero] at e;rw [e]
  cases behF (s.drop i) B 0 with
  |none=>rfl
  |some a=>
   simp only [Option.map_some];by_cases ha:i+a≤s.length
   ·have e2:=q6q s ha B 0;rw [Nat.add_zero] at e2;rw [e2,List.drop_drop]
    cases oneF (s.drop (i+a)) B 0 with
    |none=>rfl
    |some r=>
     simp only [Option.map_some,Qav,Nat.add_sub_cancel_left];by_cases h:a+r.1≤s.length - i∧a+1≤s.length - i
     ·rw [if_pos h,if_pos (by omega)];simp only;by_cases hk:r.2.1=0∨r.2.1=1
      ·rw [if_pos hk,if_pos hk];rfl
      ·rw [if_neg hk,if_neg hk,if_neg (by omega),List.drop_drop,←Nat.add_assoc];have ih:=x89 B hz hs f (i+a+r.1) (by omega);rw [←ih];simp only [Int.toNat_natCast]
       cases z07 zs s B f (i+a+r.1)<;>rfl
     ·rw [if_neg h,if_neg (by omega)];rfl
   ·have e3:s[i+a]?=none:=Qbg (by omega)
    have e4:oneF s B (i+a)=none:=by unfold oneF;rw [e3]
    have e5:oneF ((s.drop i).drop a) B 0=none:=by unfold oneF;rw [List.drop_drop,←y5k,Nat.add_zero,e3]
    rw [e4,e5];rfl
end Go.Proofs.YtbpgkkoeehopjaaGreat.lex
namespace Go.Proofs.YtbpgkkoeehopjaaGreat.hp
open Go.RowKit Go.Lib words enc utf lex gram rd tree dat ty acr tot
theorem z4w: ∀l:List UInt8,(∀b∈l,b.toNat<128)→decF l=(l.map fun b=>(b.toNat:Int),l.length)
 |[],_=>rfl
 |b::r,h=>by
  have hb:=h b (Qaz ..);have hd:=decodeL_ascii b r hb
  have hg: ¬Bad (b::r):=by unfold Bad;rw [hd];intro h;have:=h.1;dsimp only at this;omega
  rw [y89 (by simp) hg,hd];have ih:=z4w r (fun x hx=>h x (Qa2 _ hx));simp only [List.drop_succ_cons,List.drop_zero,ih,List.map_cons,List.length_cons,Nat.add_comm]
def z3h (src:Txt):List Int:=(src.map fun b=>Go.Proofs.YtbpgkkoeehopjaaGreat.lex.seen (b.toNat:Int))++[-2]
theorem q4r {src:Txt} {tr:List (Int×Txt×Txt)} (ha:src.all (fun b=>decide (b.toNat<128))=true) (hlen:src.length≤2200000) (hl:lexT (src.length+3) (src.length+3) (z3h src)=some tr): ∃toks,y3f src=some toks∧toks.map keyT=tr:=by
 have hd:=z4w src (fun b hb=>Qa6 (Qbi.1 ha b hb))
 have hk:y4r (decF src).1 (decide ((decF src).2=src.length))=z3h src:=by
  rw [hd];simp [y4r,z3h,Function.comp_def]
 have h:=x89 (zs:=(decF src).1) (s:=z3h src) (src.length+3) (by rw [hd];simp [z3h]) (by simp [z3h];omega) (src.length+3) 0 (Qak _);rw [List.drop_zero,hl] at h;obtain ⟨toks,h1,h2⟩:=Option.map_eq_some_iff.1 h;refine ⟨toks,?_,h2⟩;unfold y3f;rw [hk];exact h1
def mkT (tr:List (Int×Txt×Txt)) (p:Nat→Int×Int×Int×Int):List TokD:=tr.zipIdx.map fun q=>⟨q.1.1,(p q.2).1,(p q.2).2.1,(p q.2).2.2.1,(p q.2).2.2.2,q.1.2.1,q.1.2.2⟩
theorem q7a (toks:List TokD): ∃p,toks=mkT (toks.map keyT) p:=by
 refine ⟨fun i=>match toks[i]? with|some t=>(t.line,t.col,t.start,t.stop)|none=>(0,0,0,0),?_⟩;unfold mkT;apply Qby;intro i;simp only [Qbz,List.getElem?_zipIdx,Nat.zero_add]
 cases h:toks[i]? with
 |none=>rfl
 |some t=>simp only [Option.map_some,h,keyT]
def x18 (toks:List TokD) (f:List DefD→Bool):Bool:=decide (runF rulesG nfG bfG toks 200 800000000 [nDOC] 0 0=some (0,0,0))&&match y3w toks 3000000 300 3000000 0 with
 |some l=>f l
 |none=>false
theorem x9a {src:Txt} {tr:List (Int×Txt×Txt)} (f:List DefD→Bool) (ha:src.all (fun b=>decide (b.toNat<128))=true) (hlen:src.length≤2200000) (hl:lexT (src.length+3) (src.length+3) (z3h src)=some tr) (hf: ∀p,x18 (mkT tr p) f=true):f (y57 src)=true:=by
 obtain ⟨toks,h1,h2⟩:=q4r ha hlen hl;obtain ⟨p,hp⟩:=q7a toks;have h:=hf p;rw [←h2,←hp] at h;unfold x18 at h;rw [Qao] at h;unfold y57;rw [h1];dsimp only;rw [if_pos (Qa6 h.1)];have h3:=h.2
 cases hq:y3w toks 3000000 300 3000000 0 with
 |none=>rw [hq] at h3;cases h3
 |some l=>rw [hq] at h3;exact h3
set_option maxRecDepth 100000
def srcT:Txt:=((((([115,99,97,108,97,114,32,73,110,116,32,115,99,97,108,97,114,32,70,108,111,97,116,32,115,99,97,108,97,114,32,83,116,114,105,110,103,32,115].append [99,97,108,97,114,32,66,111,111,108,101,97,110,32,115,99,97,108,97,114,32,73,68,32,116,121,112,101,32,95,95,83,99,104,101,109,97,123,100]).append ([101,115,99,114,105,112,116,105,111,110,58,83,116,114,105,110,103,32,116,121,112,101,115,58,91,95,95,84,121,112,101,33,93,33,32,113,117,101,114].append [121,84,121,112,101,58,95,95,84,121,112,101,33,32,109,117,116,97,116,105,111,110,84,121,112,101,58,95,95,84,121,112,101,32,115,117,98,115,99,114])).append (([105,112,116,105,111,110,84,121,112,101,58,95,95,84,121,112,101,32,100,105,114,101,99,116,105,118,101,115,58,91,95,95,68,105,114,101,99,116,105].append [118,101,33,93,33,125,32,116,121,112,101,32,95,95,84,121,112,101,123,107,105,110,100,58,95,95,84,121,112,101,75,105,110,100,33,32,110,97,109]).append ([101,58,83,116,114,105,110,103,32,100,101,115,99,114,105,112,116,105,111,110,58,83,116,114,105,110,103,32,115,112,101,99,105,102,105,101,100,66,121].append [85,82,76,58,83,116,114,105,110,103,32,102,105,101,108,100,115,40,105,110,99,108,117,100,101,68,101,112,114,101,99,97,116,101,100,58,66,111,111,108]))).append ((([101,97,110,61,102,97,108,115,101,41,58,91,95,95,70,105,101,108,100,33,93,32,105,110,116,101,114,102,97,99,101,115,58,91,95,95,84,121,112].append [101,33,93,32,112,111,115,115,105,98,108,101,84,121,112,101,115,58,91,95,95,84,121,112,101,33,93,32,101,110,117,109,86,97,108,117,101,115,40]).append ([105,110,99,108,117,100,101,68,101,112,114,101,99,97,116,101,100,58,66,111,111,108,101,97,110,61,102,97,108,115,101,41,58,91,95,95,69,110,117].append [109,86,97,108,117,101,33,93,32,105,110,112,117,116,70,105,101,108,100,115,58,91,95,95,73,110,112,117,116,86,97,108,117,101,33,93,32,111,102,84])).append (([121,112,101,58,95,95,84,121,112,101,125,32,101,110,117,109,32,95,95,84,121,112,101,75,105,110,100,123,83,67,65,76,65,82,32,79,66,74,69].append [67,84,32,73,78,84,69,82,70,65,67,69,32,85,78,73,79,78,32,69,78,85,77,32,73,78,80,85,84,95,79,66,74,69,67,84,32,76,73]).append ([83,84,32,78,79,78,95,78,85,76,76,125,32,116,121,112,101,32,95,95,70,105,101,108,100,123,110,97,109,101,58,83,116,114,105,110,103,33,32].append [100,101,115,99,114,105,112,116,105,111,110,58,83,116,114,105,110,103,32,97,114,103,115,58,91,95,95,73,110,112,117,116,86,97,108,117,101,33,93,33])))).append (((([32,116,121,112,101,58,95,95,84,121,112,101,33,32,105,115,68,101,112,114,101,99,97,116,101,100,58,66,111,111,108,101,97,110,33,32,100,101,112].append [114,101,99,97,116,105,111,110,82,101,97,115,111,110,58,83,116,114,105,110,103,125,32,116,121,112,101,32,95,95,73,110,112,117,116,86,97,108,117]).append ([101,123,110,97,109,101,58,83,116,114,105,110,103,33,32,100,101,115,99,114,105,112,116,105,111,110,58,83,116,114,105,110,103,32,116,121,112,101,58].append [95,95,84,121,112,101,33,32,100,101,102,97,117,108,116,86,97,108,117,101,58,83,116,114,105,110,103,125,32,116,121,112,101,32,95,95,69,110,117,109])).append (([86,97,108,117,101,123,110,97,109,101,58,83,116,114,105,110,103,33,32,100,101,115,99,114,105,112,116,105,111,110,58,83,116,114,105,110,103,32,105].append [115,68,101,112,114,101,99,97,116,101,100,58,66,111,111,108,101,97,110,33,32,100,101,112,114,101,99,97,116,105,111,110,82,101,97,115,111,110,58]).append ([83,116,114,105,110,103,125,32,116,121,112,101,32,95,95,68,105,114,101,99,116,105,118,101,123,110,97,109,101,58,83,116,114,105,110,103,33,32,100].append [101,115,99,114,105,112,116,105,111,110,58,83,116,114,105,110,103,32,108,111,99,97,116,105,111,110,115,58,91,95,95,68,105,114,101,99,116,105,118,101]))).append ((([76,111,99,97,116,105,111,110,33,93,33,32,97,114,103,115,58,91,95,95,73,110,112,117,116,86,97,108,117,101,33,93,33,32,105,115,82,101,112].append [101,97,116,97,98,108,101,58,66,111,111,108,101,97,110,33,125,32,101,110,117,109,32,95,95,68,105,114,101,99,116,105,118,101,76,111,99,97,116]).append ([105,111,110,123,81,85,69,82,89,32,77,85,84,65,84,73,79,78,32,83,85,66,83,67,82,73,80,84,73,79,78,32,70,73,69,76,68,32,70].append [82,65,71,77,69,78,84,95,68,69,70,73,78,73,84,73,79,78,32,70,82,65,71,77,69,78,84,95,83,80,82,69,65,68,32,73,78,76,73,78])).append (([69,95,70,82,65,71,77,69,78,84,32,86,65,82,73,65,66,76,69,95,68,69,70,73,78,73,84,73,79,78,32,83,67,72,69,77,65,32,83].append [67,65,76,65,82,32,79,66,74,69,67,84,32,70,73,69,76,68,95,68,69,70,73,78,73,84,73,79,78,32,65,82,71,85,77,69,78,84,95]).append ([68,69,70,73,78,73,84,73,79,78,32,73,78,84,69,82,70,65,67,69,32,85,78,73,79,78,32,69,78,85,77,32,69,78,85,77,95,86,65].append [76,85,69,32,73,78,80,85,84,95,79,66,74,69,67,84,32,73,78,80,85,84,95,70,73,69,76,68,95,68,69,70,73,78,73,84,73,79,78,125])))))
def srcM:Txt:=((([100,105,114,101,99,116,105,118,101,32,64,115,107,105,112,40,105,102,58,66,111,111,108,101,97,110,33,41,32,111,110,32,70,73].append [69,76,68,124,70,82,65,71,77,69,78,84,95,83,80,82,69,65,68,124,73,78,76,73,78,69,95,70,82,65,71,77,69,78,84]).append ([32,100,105,114,101,99,116,105,118,101,32,64,105,110,99,108,117,100,101,40,105,102,58,66,111,111,108,101,97,110,33,41,32,111,110].append [32,70,73,69,76,68,124,70,82,65,71,77,69,78,84,95,83,80,82,69,65,68,124,73,78,76,73,78,69,95,70,82,65,71,77])).append (([69,78,84,32,100,105,114,101,99,116,105,118,101,32,64,100,101,112,114,101,99,97,116,101,100,40,114,101,97,115,111,110,58,83].append [116,114,105,110,103,61,34,78,111,32,108,111,110,103,101,114,32,115,117,112,112,111,114,116,101,100,34,41,32,111,110,32,70,73,69]).append ([76,68,95,68,69,70,73,78,73,84,73,79,78,124,69,78,85,77,95,86,65,76,85,69,32,100,105,114,101,99,116,105,118,101,32].append [64,115,112,101,99,105,102,105,101,100,66,121,40,117,114,108,58,83,116,114,105,110,103,33,41,32,111,110,32,83,67,65,76,65,82])))
def trM:List (Int×Txt×Txt):=(lexT (srcM.length+3) (srcM.length+3) (z3h srcM)).getD []
theorem lexM:lexT (srcM.length+3) (srcM.length+3) (z3h srcM)=some trM:=by kernel_rfl
theorem parM (p:Nat→Int×Int×Int×Int):x18 (mkT trM p) (fun l=>y2d (z0r false) givenDirsD l)=true:=by kernel_rfl
def trT:List (Int×Txt×Txt):=(lexT (srcT.length+3) (srcT.length+3) (z3h srcT)).getD []
theorem q7b:lexT (srcT.length+3) (srcT.length+3) (z3h srcT)=some trT:=by kernel_rfl
theorem parT (p:Nat→Int×Int×Int×Int):x18 (mkT trT p) (fun l=>y2d (z0r false) givenT l)=true:=by kernel_rfl
end Go.Proofs.YtbpgkkoeehopjaaGreat.hp
namespace Go.Proofs.YtbpgkkoeehopjaaGreat.hp
open Go.RowKit lex gram rd tree dat ty
set_option maxRecDepth 100000
def q6r (d:DefD):Prop:=d.ext=false∧((d.kind=8∧d.name∈y0a givenDirsD)∨(d.kind≠8∧d.kind≠1∧d.name∈y0a givenT))
theorem z3i {defs:List DefD} (h: ∀d∈defs,q6r d):y0w defs=y0w []:=by
 have h1:bare defs=([],[]):=y22 (Q:=fun p:List DefD×List DefD=>p=([],[])) defs ([],[]) (fun p d hd hp=>by
  subst hp;obtain ⟨he,⟨hk,hn⟩|⟨hk,hk1,hn⟩⟩:=h d hd
  ·unfold Go.Proofs.YtbpgkkoeehopjaaGreat.ty.step1;rw [if_pos hk];dsimp only;rw [if_pos hn]
  ·unfold Go.Proofs.YtbpgkkoeehopjaaGreat.ty.step1;rw [if_neg hk];split
   ·simp only [if_pos hn]
   ·rfl) rfl
 have h2:y2j defs=y2j []:=by unfold y2j;rw [h1];rfl
 have h3:y0i defs=y0i []:=y22 (Q:=fun l:List DefD=>l=y0i []) defs (y2j defs) (fun l d hd hl=>by
  unfold Go.Proofs.YtbpgkkoeehopjaaGreat.ty.step2;split
  ·exact hl
  ·split
   ·exact hl
   ·rw [if_neg (fun h2=>by rw [(h d hd).1] at h2;cases h2.1)];exact hl) h2
 have h4:y21 defs=y21 []:=by unfold y21;rw [h1];rfl
 have h5:y2b defs (y0i [])=y2b [] (y0i []):=by
  unfold y2b
  rw [List.find?_eq_none.2 (fun d hd=>by
   have hk:d.kind≠1:=by obtain ⟨he,⟨hk,hn⟩|⟨hk,hk1,hn⟩⟩:=h d hd;omega;exact hk1
   simp [y2k,hk])]
  rfl
 unfold y0w;rw [h3,h4,h5]
theorem z1l {l m:List DefD} (h:y2d (z0r false) l m=true) {i:Nat} {x:DefD} (hx:m[i]?=some x): ∃d,l[i]?=some d∧y2d (z0r false) [d] [x]=true∧d.name=x.name∧d.kind=x.kind∧d.ext=x.ext:=by
 obtain ⟨hl,hat⟩:=y28 h
 have hi:i<l.length:=by rw [hl];exact (Qac.1 hx).1
 have hd:l[i]?=some l[i]:=Qad hi;have he:=hat hd hx;refine ⟨_,hd,by simp [y2d,he],?_⟩;simp only [z0r,Qao,Qa7] at he;exact ⟨he.1.1.1.2,he.1.1.1.1.1.1,he.1.1.1.1.1.2⟩
def q4s (d:DefD):Prop:=d.line=0∧d.col=0∧ ∀f∈d.fields,f.line=0∧f.col=0
instance (d:DefD):Decidable (q4s d):=inferInstanceAs (Decidable (_∧_))
theorem x4w: ∀d∈givenT,d.ext=false∧d.kind≠8∧d.kind≠1:=by decide+kernel
theorem x0d: ∀d∈givenDirsD,d.ext=false∧d.kind=8:=by decide+kernel
theorem x4x: ∀d∈givenT,q4s d:=by decide+kernel
theorem x0e: ∀d∈givenDirsD,q4s d:=by decide+kernel
theorem q15:(y0w []).types=givenT:=by kernel_rfl
theorem q4t:(y0w []).dirs=givenDirsD:=by kernel_rfl
theorem x9b:(y0w []).schema={z1a with kind:=1}:=by kernel_rfl
theorem q4u:srcT.all (fun b=>decide (b.toNat<128))=true:=by decide+kernel
theorem q4v:srcM.all (fun b=>decide (b.toNat<128))=true:=by decide+kernel
theorem q4w:srcT.length≤2200000:=by decide+kernel
theorem q4x:srcM.length≤2200000:=by decide+kernel
theorem q2w:y2d (z0r false) givenT (y57 srcT)=true:=x9a (fun l=>y2d (z0r false) givenT l) q4u q4w q7b parT
theorem q2x:y2d (z0r false) givenDirsD (y57 srcM)=true:=x9a (fun l=>y2d (z0r false) givenDirsD l) q4v q4x lexM parM
theorem q4y:y0w (y57 srcT)=y0w []:=z3i fun x hx=>by
 obtain ⟨i,hi⟩:=Qbp.1 hx;obtain ⟨d,hd,_,hn,hk,he⟩:=z1l q2w hi;have h:=x4w d (Qaf hd);exact ⟨he▸h.1,.inr ⟨hk▸h.2.1,hk▸h.2.2,hn▸List.mem_map_of_mem (Qaf hd)⟩⟩
theorem q4z:y0w (y57 srcM)=y0w []:=z3i fun x hx=>by
 obtain ⟨i,hi⟩:=Qbp.1 hx;obtain ⟨d,hd,_,hn,hk,he⟩:=z1l q2x hi;have h:=x0d d (Qaf hd);exact ⟨he▸h.1,.inl ⟨hk▸h.2,hn▸List.mem_map_of_mem (Qaf hd)⟩⟩
theorem x9c {ts:List DefD} (hn:(y0a ts).Nodup) {i:Nat} {d:DefD} (h:ts[i]?=some d):y2t ts d.name=some d:=by
 unfold y2t;rw [y7o hn h];exact h
open words enc dec held
attribute [local go_sem ↓] Go.wp_at_zero Go.wp_at_succ
abbrev sv (x:Txt):Value:=.string (str x)
theorem x19 {K:World}: ∀{l:List Txt} {vs:List Value},RL K (y1c l) vs→vs=l.map sv
 |[],vs,h=>h.nil_inv
 |x::l,vs,h=>by
  obtain ⟨r,rfl,h'⟩:=DatL.lit_inv (show RL K (str' x::y1c l) vs from h);rw [x19 h'];rfl
set_option maxHeartbeats 4000000 in
theorem z8o (defs:List DefD) (n c:Nat) (A:Option Addr) (w0 w K:World) (M:List Ent) (H:Hp w0 w K M) (hn:defs.length=n) (hd:RD K (.list n (y0s defs)) (.slice A n c)) (hm:n≤20000000):
  Calls Tryz.prog 63 #[.slice A n c] w fun e w'=>∃A' c',e= .returned (.slice A' n c')∧Hp w0 w' K (.row 9 1 (.slice A' n c') n ((defs.map (·.name)).map sv)::M):=by
 obtain ⟨k0,hk0,k0z,k0s,k0b⟩:=info_parts z17;have HN:=hide hn;clear hn;go_enter Tryz.func63,Tryz.ntmps63
 go_wp2_with fail
 go_loopw [3,8] (fun v i wr=>∃(k:Nat) (vs:List Value),k≤n∧i= .int .i64 k∧Hp w0 wr K (.row 9 1 v k vs::M)∧RL K (y1c ((defs.take k).map (·.name))) vs) (fun _ i _=>n - (intOf i).toNat)
 case atStart=>exact ⟨0,[],Qak _,rfl,H.nilRow 9 1,.nil (Qab _)⟩
 case round=>
  clear H;obtain ⟨k,vs,hk,rfl,H,hvs⟩:=hrel;obtain ⟨Av,cv,rfl,_,_⟩:=H.slice (i:=0) rfl;by_cases hlt:k<n
  ·have hkI:(k:Int)<(n:Int):=by omega
   obtain ⟨x,hx⟩: ∃x,defs[k]?=some x:=⟨_,Qad (by rw [HN.out];exact hlt)⟩;have HE:=hide (y1j hx);obtain ⟨ad,xs,rfl,hxd,_,hat⟩:=y5y (m:=17) (f:=defL) y05 H hd hx (by omega);clear hx;obtain ⟨A6,c6,A7,c7,A8,c8,A9,c9,A10,c10,A11,c11,A12,c12,A14,c14,rfl,-,-,-,-,-,-,-,-⟩:=y0c hxd;have hsz:(Tryz.prog.info? 43).map (·.size)=some 17:=y4u
   go_upto_region 6 with (first
    |(at_builtin;refine ap1 1 e27 H (us:=[.string (str x.name)]) ?_ (h1:=(by simp [Value.oneCell']));clear H;intro v2A v2c w2 v2l v2m H;dsimp only [List.set,List.nil_append] at H;have:=H.c 0 5)
    |((with_reducible show wpList _ _ _ (_::_) _ _);refine y0d (by rfl) 43 (.tmp 10) (by rfl) (ad.add (k*17)) (by simp [Act.eval,Act.put]) _ _ hat Tryz.underlying43 rfl hsz ?_)
    |((with_reducible refine isL ?_);first
     |(refine al z43 5 H ?_;clear H;intro w1 g5 H;have:=H.c 0 5)
     |(refine sA 5 0 H ?_;clear H;intro w3 H;have:=H.c 0 5)))
   replace H:=H.sub (Qai _ (Qaa _ (Qam _)))
   go_wp2_with fail
   go_roundw
   case rel=>exact ⟨k+1,_,by omega,by go_num,H,by rw [HE.out,Qas];exact z9c hvs⟩
   case measure=>simp [intOf];omega
  ·obtain rfl:n=k:=by omega
   have htk:defs.take n=defs:=by rw [←HN.out];exact List.take_length
   rw [htk] at hvs;clear htk;rw [x19 hvs] at H
   go_wp2_with fail
   go_ret;exact ⟨_,_,rfl,H⟩
theorem q40 (v:Value) (D:TysD) (w0 w K:World) (M:List Ent) (H:Hp w0 w K M) (hv:Tp K v D) (hW:TyW D):
  Calls Tryz.prog 15 #[v] w fun e w'=>∃K' A' c',e= .returned (.slice A' D.types.length c')∧Sat K' K∧Hp w0 w' K' (.row 9 1 (.slice A' D.types.length c') D.types.length ((y0a D.types).map sv)::M):=by
 have hl:=x7k D.types;have hN:=hW.nT;go_enter Tryz.func15,Tryz.ntmps15;have hK:=Sat.refl K
 go_wp2_with (first
  |(go_at_call 64;refine (z0e _ D _ _ K M H hv).mono ?_;clear H;rintro e w5 ⟨K5,g5,rfl,hle,H,hT5⟩;replace hK:=hle.trans hK;obtain ⟨ga,gd,gf,go,sch,VT,VD,OB,T⟩:=hT5;have h17:=H.kcell T.a.box T.a.c17;obtain ⟨Aty,ct,hVT,-,-⟩:=y25 T.a.types;subst hVT)
  |(go_at_call 63;refine (z8o D.types D.types.length _ _ _ _ _ M H rfl T.a.types (by omega)).mono ?_;clear H;rintro e w6 ⟨A6,c6,rfl,H⟩))
 go_ret;exact ⟨_,_,_,rfl,hK,H⟩
theorem z8p (v:Value) (D:TysD) (w0 w K:World) (M:List Ent) (H:Hp w0 w K M) (hv:Tp K v D) (hW:TyW D):
  Calls Tryz.prog 16 #[v] w fun e w'=>∃K' A' c',e= .returned (.slice A' D.dirs.length c')∧Sat K' K∧Hp w0 w' K' (.row 9 1 (.slice A' D.dirs.length c') D.dirs.length ((y0a D.dirs).map sv)::M):=by
 have hl:=x7k D.dirs;have hN:=hW.nD;go_enter Tryz.func16,Tryz.ntmps16;have hK:=Sat.refl K
 go_wp2_with (first
  |(go_at_call 64;refine (z0e _ D _ _ K M H hv).mono ?_;clear H;rintro e w5 ⟨K5,g5,rfl,hle,H,hT5⟩;replace hK:=hle.trans hK;obtain ⟨ga,gd,gf,go,sch,VT,VD,OB,T⟩:=hT5;have h19:=H.kcell T.a.box T.a.c19;obtain ⟨Aty,ct,hVT,-,-⟩:=y25 T.a.dirs;subst hVT)
  |(go_at_call 63;refine (z8o D.dirs D.dirs.length _ _ _ _ _ M H rfl T.a.dirs (by omega)).mono ?_;clear H;rintro e w6 ⟨A6,c6,rfl,H⟩))
 go_ret;exact ⟨_,_,_,rfl,hK,H⟩
set_option maxHeartbeats 40000000
section
variable {w0 w K : World} {M : List Ent} {g : Nat}
theorem x2a {n c:Nat} {A:Option Addr} {l:List Txt} (H:Hp w0 w K (.row 9 1 (.slice A n c) n (l.map sv)::M)): ∃K',Sat K' K∧Hp w0 w K' M∧RD K' (.list n (y1c l)) (.slice A n c):=
 H.freezeRow (x6q l)
theorem q41 (v:Value) (D:TysD) (H:Hp w0 w K M) (hv:Tp K v D) (hW:TyW D):
  Calls Tryz.prog 15 #[v] w fun e w'=>∃K' A' c',e= .returned (.slice A' D.types.length c')∧Sat K' K∧Hp w0 w' K' M∧RD K' (.list D.types.length (y1c (y0a D.types))) (.slice A' D.types.length c'):=
 (q40 v D w0 w K M H hv hW).mono fun e w' ⟨K',A',c',he,hle,H⟩=>by
   obtain ⟨K2,hle2,H,hd⟩:=x2a H;exact ⟨K2,A',c',he,hle2.trans hle,H,hd⟩
theorem q6s (v:Value) (D:TysD) (H:Hp w0 w K M) (hv:Tp K v D) (hW:TyW D):
  Calls Tryz.prog 16 #[v] w fun e w'=>∃K' A' c',e= .returned (.slice A' D.dirs.length c')∧Sat K' K∧Hp w0 w' K' M∧RD K' (.list D.dirs.length (y1c (y0a D.dirs))) (.slice A' D.dirs.length c'):=
 (z8p v D w0 w K M H hv hW).mono fun e w' ⟨K',A',c',he,hle,H⟩=>by
   obtain ⟨K2,hle2,H,hd⟩:=x2a H;exact ⟨K2,A',c',he,hle2.trans hle,H,hd⟩
theorem x0f (v:Value) (x:Txt) (D:TysD) (H:Hp w0 w K M) (hv:Tp K v D) (hW:TyW D) {o:Bool} {d:DefD} (h1:(y2t D.dirs x).isSome=o) (h2:(y2t D.dirs x).getD z1a=d):
  Calls Tryz.prog 22 #[v,.string (str x)] w fun e w'=>∃K' cs,e= .returned (.tuple #[.agg cs,.bool o])∧Sat K' K∧Hp w0 w' K' M∧RL K' (defL d) cs.toList:=by
 refine (z9m v x D w0 w K M H hv hW).mono ?_;rintro e w' ⟨K',v',rfl,hle,H,cs,rfl,hd⟩;rw [h1];rw [h2] at hd;exact ⟨K',cs,rfl,hle,H,hd⟩
theorem q16 (v:Value) (D:TysD) {d:DefD} (H:Hp w0 w K M) (hv:Tp K v D) (hW:TyW D) (hD:D.schema=d):
  Calls Tryz.prog 18 #[v] w fun e w'=>∃K' cs,e= .returned (.agg cs)∧Sat K' K∧Hp w0 w' K' M∧RL K' (defL d) cs.toList:=
 (q03 v D d w0 w K M H hv hW hD).mono fun e w' ⟨K',v',he,hle,H,cs,hv,hd⟩=>⟨K',cs,by rw [he,hv],hle,H,hd⟩
theorem q6t (v:Value) (op:Int) (D:TysD) (H:Hp w0 w K M) (hv:Tp K v D) (hW:TyW D) {r:Txt} (hr:z7p D.schema.roots op=r):
  Calls Tryz.prog 17 #[v,.int .i64 op] w fun e w'=>∃K',e= .returned (.string (str r))∧Sat K' K∧Hp w0 w' K' M:=by subst hr;exact q2e v op D w0 w K M H hv hW
end
instance sc24:Sc Tryz.prog 24:=⟨⟨_,Tryz.underlying24,rfl⟩⟩
section
variable {P : Program} {w0 w K K' : World} {M N : List Ent} {ops : Array Oper} {Q : Exit → Act → World → Prop} {F : List Nat} {fuel : Nat} {listed : Array Bool} {a a' : Act} {oi : Oper}
theorem x9d {ty:TypeId} {fs:Array Field} {k:Nat} {f:Field} {d:TypeDesc} {cs:Array Value} {v:Value} (hu:P.underlying ty=some (.struct fs)) (hf:fs[k]?=some f) (hd:P.underlying f.type=some d) (hs:d.isRow=false) (hc:cs[f.offset]?=some v):(Instr.field ty (.agg cs) k).run P w= .ok v w:=by
 have hagg:(isAgg f.type).run P w= .ok false w:=by
  unfold isAgg;rw [Sem.run_bind,run_underlying hd w]
  cases d<;>simp_all
 unfold Instr.field;rw [Sem.run_bind,run_underlying hu w];simp only [Result.andThen_ok,hf];unfold part;simp [asAgg,Sem.run_bind,hagg,hc]
theorem rG (i:Nat) {f:FuncId} {xs:Array Value} {R:Ending→World→Prop} (hC:Calls P f xs w R) (h: ∀e w',R e w'→ ∃v a',e= .returned v∧a.put oi.dst v=a'∧Ov w0 K M w'∧AnyL P .any ops Q (Ov w0 K M) F fuel (listed.setIfInBounds i true) a' w') (hr:Region.ready .any ops listed=[i]:=by kernel_rfl)
  (hi:ops[i]?=some oi:=by (simp only [List.getElem?_toArray,List.getElem?_cons_zero,List.getElem?_cons_succ];try rfl)) (hrun:(execOp a.eval oi).run P w= .ok (.enter f xs) w:=by (go_simp;try with_reducible rfl)) (hw:Region.wanted oi (yielded ops a.tmps)=true:=by rfl):AnyL P .any ops Q (Ov w0 K M) F (fuel+1) listed a w:=
 held.step hr hi fun Kq hKq=>by
  rw [if_pos hw];unfold Oper.wp;rw [hrun,Oper.upon_enter];refine hC.mono fun e w' hR=>?_;obtain ⟨v,a',rfl,ha,hS,hW⟩:=h e w' hR;exact hKq.out _ _ (fun _=>hS) (fun _=>by rw [ha];exact hW)
end
section
theorem fld10 (u0 u1 u2 u3 u4 u5 u6 u7 u8 u9 u10 u11 u12 u13 u14 u15 u16:Value) (w:World):(Instr.field 43 (.agg #[u0,u1,u2,u3,u4,u5,u6,u7,u8,u9,u10,u11,u12,u13,u14,u15,u16]) 10).run Tryz.prog w= .ok u12 w:=x9d Tryz.underlying43 rfl Tryz.underlying39 rfl rfl
theorem fld0 (u0 u1 u2 u3 u4 u5 u6 u7 u8 u9 u10 u11 u12 u13 u14 u15 u16:Value) (w:World):(Instr.field 43 (.agg #[u0,u1,u2,u3,u4,u5,u6,u7,u8,u9,u10,u11,u12,u13,u14,u15,u16]) 0).run Tryz.prog w= .ok u0 w:=x9d Tryz.underlying43 rfl Tryz.underlying31 rfl rfl
attribute [local go_sem] fld10 fld0
variable {w0 w K : World} {M : List Ent}
theorem q2y {l:List Txt} {n c k:Nat} {A:Option Addr} (h:RD K (.list n (y1c l)) (.slice A n c)) (hk:k<l.length): ∃ad x,A=some ad∧l[k]?=some x∧At K (ad.add k) [.string (str x)]:=by
 obtain ⟨ad,vs,h1,h2,_,_,h5,h6⟩:=y43 (m:=1) (f:=fun x=>[str' x]) (fun _=>rfl) (y4n l▸h) (Qad hk) (by omega);obtain ⟨r0,rfl,h0⟩:=h2.lit_inv;obtain rfl:=h0.nil_inv;rw [Nat.mul_one] at h5 h6;exact ⟨ad,_,h1,Qad hk,h5,h6⟩
theorem q6u {l:List Value} {n c k:Nat} {A:Option Addr} (h:RD K (.list n (l.flatMap fun v=>[Leaf.lit v])) (.slice A n c)) (hk:k<l.length): ∃ad x,A=some ad∧l[k]?=some x∧At K (ad.add k) [x]:=by
 obtain ⟨ad,vs,h1,h2,_,_,h5,h6⟩:=y43 (m:=1) (f:=fun v=>[Leaf.lit v]) (fun _=>rfl) h (Qad hk) (by omega);obtain ⟨r0,rfl,h0⟩:=h2.lit_inv;obtain rfl:=h0.nil_inv;rw [Nat.mul_one] at h5 h6;exact ⟨ad,_,h1,Qad hk,h5,h6⟩
theorem q17: ∀d∈givenT,y0k [d]≤9000000:=by decide+kernel
theorem x9e: ∀d∈givenDirsD,y0k [d]≤9000000:=by decide+kernel
theorem BuiltIn_walk (name:Txt) (wi:World):
  Calls Tryz.prog 3 #[.string (str name)] wi fun e w'=>e= .returned (.bool true)∧Below wi.heap.size wi w':=by
 have H:=Hp.start wi;have hrT:=fun {w1 K M} (H:Hp wi w1 K M)=>z59 H srcT q4w;have hrM:=fun {w1 K M} (H:Hp wi w1 K M)=>z59 H srcM q4x;have eT:=q2w;have eM:=q2x;have bT:=q4y;have bM:=q4z;have nT:=x8w srcT q4w;have nM:=x8w srcM q4x
 have l1:srcT.length≤2000:=by decide+kernel
 have l2:srcM.length≤2000:=by decide+kernel
 obtain ⟨B,hB⟩: ∃B,y57 srcT=B:=⟨_,rfl⟩;obtain ⟨C,hC⟩: ∃B,y57 srcM=B:=⟨_,rfl⟩;rw [hB] at eT bT nT;rw [hC] at eM bM nM;simp only [hB] at hrT;simp only [hC] at hrM;have hBl:B.length=13:=(y28 eT).1.symm.trans (by kernel_rfl);have hCl:C.length=4:=(y28 eM).1.symm.trans (by kernel_rfl);simp only [hBl] at hrT;simp only [hCl] at hrM;have hW:=z5v [] (by decide);have hb0:=fun {w1 K M} (H:Hp wi w1 K M)=>y7p [] 0 0 none wi w1 K M H rfl RD.z (by decide);have hbT:=fun {w1 K M} {A:Option Addr} {c:Nat} (H:Hp wi w1 K M) (hd:RD K (.list 13 (y0s B)) (.slice A 13 c))=>y7p B 13 c A wi w1 K M H hBl hd (by omega);have hbM:=fun {w1 K M} {A:Option Addr} {c:Nat} (H:Hp wi w1 K M) (hd:RD K (.list 4 (y0s C)) (.slice A 4 c))=>y7p C 4 c A wi w1 K M H hCl hd (by omega);simp only [bT] at hbT;simp only [bM] at hbM;have HT:=hide eT;have HM:=hide eM;have HBL:=hide hBl;have HCL:=hide hCl;have m1:=True.intro;have m2:=True.intro;have m3:=True.intro;clear eT eM bT bM nT nM l1 l2 hB hC hBl hCl;go_enter Tryz.func3,Tryz.ntmps3
 go_upto_region 5 with (first|(go_at_call 13;clear m1;refine (hrT H).mono ?_;clear H hrT;rintro e w ⟨K1,A1,c1,rfl,hle,H,hd⟩)|(go_at_call 13;clear m2;refine (hrM H).mono ?_;clear H hrM;rintro e w ⟨K2,A2,c2,rfl,hle2,H,he⟩;replace hd:=hd.sat hle2))
 clear hle hle2
 go_upto_region 6 with (first|(go_at_call 14;(first|((with_reducible refine (hb0 H).mono ?_);clear H hb0;rintro e w ⟨K3,g3,rfl,hle,H,hT⟩;have hv3:=hT.tp;replace hd:=hd.sat hle;replace he:=he.sat hle;clear hT hle)|((with_reducible refine (hbT H hd).mono ?_);clear H hbT;rintro e w ⟨K4,g4,rfl,hle,H,hT⟩;have hv4:=hT.tp;replace hd:=hd.sat hle;replace he:=he.sat hle;replace hv3:=hv3.sat hle;clear hT hle)|((with_reducible refine (hbM H he).mono ?_);clear H hbM;rintro e w ⟨K5,g5,rfl,hle,H,hT⟩;have hv5:=hT.tp;replace hd:=hd.sat hle;replace he:=he.sat hle;replace hv3:=hv3.sat hle;replace hv4:=hv4.sat hle;clear hT hle)))|(refine oA 38 H ?_ (hd:=dbS (cs:=[.pointer (some ⟨g3,0,none⟩),.pointer none,.pointer (some ⟨g4,0,none⟩),.pointer (some ⟨g5,0,none⟩)]) (hcs:=by kernel_rfl));clear H;intro w g38 H))
 obtain ⟨L,hL⟩: ∃L,([.pointer (some ⟨g3,0,none⟩),.pointer none,.pointer (some ⟨g4,0,none⟩),.pointer (some ⟨g5,0,none⟩)]:List Value)=L:=⟨_,rfl⟩;have hq9:=H.freezeBox (n:=4) (ls:=L.flatMap fun v=>[Leaf.lit v]) (by rw [←hL];exact .lit (.lit (.lit (.lit RL.z)))) (by simp [maxLen]);clear H;obtain ⟨K6,hle,H,hl⟩:=hq9;obtain ⟨A38,hA38⟩: ∃A:Option Addr,some ⟨g38,0,none⟩=A:=⟨_,rfl⟩;rw [hA38] at hl ⊢;clear hA38
 have HTP:Hid (∀v∈L,Tp K6 v (y0w [])):=by
  show ∀v∈L,_
  rw [←hL];intro v hv;simp only [Qbd,List.mem_nil_iff,or_false] at hv;rcases hv with rfl|rfl|rfl|rfl
  ·exact hv3.sat hle
  ·exact .inl ⟨rfl,rfl⟩
  ·exact hv4.sat hle
  ·exact hv5.sat hle
 have HLL:Hid (L.length=4):=by show _=_;rw [←hL];rfl
 replace hd:=hd.sat hle;replace he:=he.sat hle;clear hv3 hv4 hv5 hle hL m3;obtain ⟨D,hD⟩: ∃D,y0w []=D:=⟨_,rfl⟩
 have ety:D.types=givenT:=by rw [←hD];exact q15
 have edi:D.dirs=givenDirsD:=by rw [←hD];exact q4t
 have esc:D.schema={z1a with kind:=1}:=by rw [←hD];exact x9b
 rw [hD] at HTP hW;have hNa:=fun {w K M} (v:Value) (H:Hp wi w K M) (hv:Tp K v D)=>q41 v D H hv hW;have hDa:=fun {w K M} (v:Value) (H:Hp wi w K M) (hv:Tp K v D)=>q6s v D H hv hW;have hRo: ∀{w:World} {K:World} {M:List Ent} (v:Value) (H:Hp wi w K M) (hv:Tp K v D),Calls Tryz.prog 17 #[v,.int .i64 1] w fun e w'=>∃K',e= .returned (.string ⟨#[]⟩)∧Sat K' K∧Hp wi w' K' M:=fun {w K M} v H hv=>q6t v 1 D H hv hW (r:=[]) (by rw [esc];rfl);obtain ⟨S,hS⟩: ∃s,D.schema=s:=⟨_,rfl⟩
 have hSk:S.kind=1:=by rw [←hS,esc]
 have hSr:S.roots.length=0:=by rw [←hS,esc];rfl
 have hSc:=fun {w K M} (v:Value) (H:Hp wi w K M) (hv:Tp K v D)=>q16 v D H hv hW hS;have hTy:=fun {w K M} (v:Value) (x:Txt) (o:Bool) (d:DefD) (H:Hp wi w K M) (hv:Tp K v D) (h1:(y2t givenT x).isSome=o) (h2:(y2t givenT x).getD z1a=d)=>x84 v x D H hv hW (o:=o) (d:=d) (by rw [ety];exact h1) (by rw [ety];exact h2);have hDi:=fun {w K M} (v:Value) (x:Txt) (o:Bool) (d:DefD) (H:Hp wi w K M) (hv:Tp K v D) (h1:(y2t givenDirsD x).isSome=o) (h2:(y2t givenDirsD x).getD z1a=d)=>x0f v x D H hv hW (o:=o) (d:=d) (by rw [edi];exact h1) (by rw [edi];exact h2);have nod:=hide (show (y0a givenT).Nodup by have:=hW.nd;rwa [ety] at this);have ndd:=hide (show (y0a givenDirsD).Nodup by have:=hW.ndd;rwa [edi] at this)
 have e13:givenT.length=13:=by kernel_rfl
 have e4:givenDirsD.length=4:=by kernel_rfl
 simp only [ety,e13] at hNa;simp only [edi,e4] at hDa;clear hW ety edi esc hD hS e13 e4
 go_wp2_with fail
 go_loopw [40] (fun i wr=>∃(q:Nat) (K7:World),q≤4∧i= .int .i64 q∧Sat K7 K6∧Hp wi wr K7 []) (fun i _=>4 - (intOf i).toNat)
 case atStart=>exact ⟨0,K6,Qak _,rfl,Sat.refl _,H⟩
 case round=>
  clear H;obtain ⟨q,K7,hq,rfl,H0,H⟩:=hrel;have hlq:=hl.sat H0;by_cases hlt:q<4
  ·obtain ⟨ad,v,rfl,hx,hat⟩:=q6u hlq (by rw [HLL.out];exact hlt);obtain ⟨hqI,hwr⟩:=wr_k hlt (by omega);have hv:=(HTP.out v (Qaf hx)).sat H0;replace hd:=hd.sat H0;replace he:=he.sat H0;clear hx hlq
   go_upto_region 11 with (first|(refine oL H ?_)|(refine oP H ?_;clear H;intro w _ H)|(go_at_call 15;refine (hNa v H hv).mono ?_;clear H;rintro e w ⟨K8,An,cn,rfl,hle,H,hn⟩;replace hv:=hv.sat hle;replace hd:=hd.sat hle;replace he:=he.sat hle;replace H0:=hle.trans H0;clear hle hat)|(go_at_call 16;refine (hDa v H hv).mono ?_;clear H;rintro e w ⟨K9,Ad,cd,rfl,hle,H,hm⟩;replace hv:=hv.sat hle;replace hd:=hd.sat hle;replace he:=he.sat hle;replace hn:=hn.sat hle;replace H0:=hle.trans H0;clear hle)|(go_at_call 17;refine (hRo v H hv).mono ?_;clear H;rintro e w ⟨K9,rfl,hle,H⟩;replace hv:=hv.sat hle;replace hd:=hd.sat hle;replace he:=he.sat hle;replace hn:=hn.sat hle;replace hm:=hm.sat hle;replace H0:=hle.trans H0;clear hle)|(go_at_call 18;refine (hSc v H hv).mono ?_;clear H;rintro e w ⟨K9,cs,rfl,hle,H,hs⟩;obtain ⟨B6,b6,B7,b7,B8,b8,B9,b9,B10,b10,B11,b11,B12,b12,B14,b14,hcs,-⟩:=y0c hs;rw [hSk,hSr] at hcs;obtain rfl:cs= #[_,_,_,_,_,_,_,_,_,_,_,_,_,_,_,_,_]:=Qal.1 hcs;clear hcs hs;replace hv:=hv.sat hle;replace hd:=hd.sat hle;replace he:=he.sat hle;replace hn:=hn.sat hle;replace hm:=hm.sat hle;replace H0:=hle.trans H0;clear hle))
   go_wp2_with fail
   go_loopw [76] (fun i wr=>∃(k:Nat) (K10:World),k≤13∧i= .int .i64 k∧Sat K10 K9∧Hp wi wr K10 []) (fun i _=>13 - (intOf i).toNat)
   case atStart=>exact ⟨0,K9,Qak _,rfl,Sat.refl _,H⟩
   case round=>
    clear H;obtain ⟨k,K10,hk,rfl,H1,H⟩:=hrel;have hdk:=hd.sat H1;have hnk:=hn.sat H1;replace hv:=hv.sat H1;by_cases hlt:k<13
    ·obtain ⟨x,ad1,us,hx,rfl,hxl,hat⟩:=el_k (m:=17) (f:=defL) y05 hdk (by rw [HBL.out];exact hlt) (by decide);obtain ⟨hkI,hwrk⟩:=wr_k hlt (by omega);obtain ⟨G,hG,hGe,hGn,-,-⟩:=z1l HT.out hx;obtain ⟨hl0,hc0,hf0⟩:=x4x G (Qaf hG);have hGN:=q17 G (Qaf hG)
     have hG8:G.fields.length≤9000000:=by have h7:=y0x y3h G.fields;simp only [y0k,sumN,defN] at hGN;omega
     have hlk:=x9c nod.out hG;rw [hGn] at hlk;obtain ⟨ad2,y,rfl,hy,hat2⟩:=q2y hnk (by rw [Qay];exact (Qac.1 hG).1)
     obtain rfl:y=x.name:=by rw [Qbz,hG] at hy;exact (Option.some.inj hy).symm.trans hGn
     have hTx:=fun {w K M} (H:Hp wi w K M) hv=>hTy v x.name true G H hv (by rw [hlk];rfl) (by rw [hlk];rfl);obtain ⟨A6,a6,A7,a7,A8,a8,A9,a9,A10,a10,A11,a11,A12,a12,A14,a14,rfl,-⟩:=y0c hxl;have HGE:=hide hGe;clear hx hG hGn hlk hy hdk hnk hGe
     go_upto_region 15 with (first|(refine oL H ?_)|(refine oA 11 H ?_;clear H;intro w g11 H)|(refine oA 12 H ?_;clear H;intro w g12 H)|(refine oP H ?_;clear H;intro w _ H)|(go_at_call 19;refine (hTx H hv).mono ?_;clear H hTx;rintro e w ⟨K11,cs,rfl,hle,H,hd7⟩;obtain ⟨B6,b6,B7,b7,B8,b8,B9,b9,B10,b10,B11,b11,B12,b12,B14,b14,hcs,-,-,h8,-⟩:=y0c hd7;rw [hl0,hc0] at hcs;obtain rfl:cs= #[_,_,_,_,_,_,_,_,_,_,_,_,_,_,_,_,_]:=Qal.1 hcs;clear hcs hat;replace hat2:=At.sat hat2 hle;replace hxl:=hxl.sat hle;replace H1:=hle.trans H1;clear hle))
     have hGe:=HGE.out;refine rB [] H ?_;clear H;intro w H;refine rT 0 H ?_;refine rT 1 H ?_;refine rT 2 H ?_;refine rT 3 H ?_;refine rT 4 H ?_;refine rT 5 H ?_;refine rT 6 H ?_;refine rT 7 H ?_;refine rT 8 H ?_;refine rT 9 H ?_;refine rT 10 H ?_;refine rT 11 H ?_;refine rT 12 H ?_;refine rT 13 H ?_;refine rT 14 H ?_;refine rT 15 H ?_;refine rT 16 H ?_;refine rT 17 H ?_;refine rT 18 H ?_;refine rT 20 H ?_;refine rG 19 (x1y G hd7 H) ?_;clear H;rintro e w ⟨K12,ga,rfl,h1,H,d1⟩;refine rX H ?_;refine rG 21 (x1y x (hxl.sat h1) H) ?_;clear H;rintro e w ⟨K13,gb,rfl,h2,H,d2⟩;have h21:=h2.trans h1;replace d1:=d1.sat h2;refine rX H ?_;refine rG 22 (z3e false hGN hGe d1 d2 H) ?_;clear H;rintro e w ⟨rfl,H⟩;refine rX H ?_;refine rT 23 H ?_;refine rT 24 H ?_;refine rE ?_;replace H1:=h21.trans H1;replace h8:=h8.sat h21;clear hd7 hxl hat2 hGe HGE hGN d1 d2 h1 h2 h21;obtain ⟨nf,hnf⟩: ∃n,G.fields.length=n:=⟨_,rfl⟩;rw [hnf] at h8 H ⊢
     have hnf9:nf≤9000000:=by have h7:=hG8;omega
     have HNF:=hide hnf;have HF0:=hide hf0;clear hnf hf0 hG8
     go_wp2_with (refine oL H ?_)
     go_loopw [116] (fun i wr=>∃(j:Nat),j≤nf∧i= .int .i64 j∧Hp wi wr K13 [.box g12 [.int .i64 G.kind,.bool G.ext,.bool G.note.has,.bool G.note.block,.string (str G.note.text),.string (str G.name),.slice B6 G.ifaces.length b6,.slice B7 G.dirs.length b7,.slice B8 nf b8,.slice B9 G.inputs.length b9,.slice B10 G.members.length b10,.slice B11 G.values.length b11,.slice B12 G.roots.length b12,.bool G.rep,.slice B14 G.places.length b14,.int .i64 0,.int .i64 0] 43]) (fun i _=>nf - (intOf i).toNat)
     case atStart=>exact ⟨0,Qak _,rfl,H.fin⟩
     case round=>
      clear H;obtain ⟨j,hj,rfl,H⟩:=hrel;by_cases hlt:j<nf
      ·obtain ⟨y,ad8,us,hy,rfl,hyl,hat8⟩:=el_k (m:=10) (f:=y2y) (fun _=>rfl) h8 (by rw [HNF.out];exact hlt) (by decide);obtain ⟨hjI,hwrj⟩:=wr_k hlt hnf9;obtain ⟨hyl0,hyc0⟩:=HF0.out y (Qaf hy);obtain ⟨⟨nh,nb,nt⟩,dn,args,⟨tn,tw⟩,xs,dl,dc⟩:=y;obtain rfl:dl=0:=hyl0;obtain rfl:dc=0:=hyc0;obtain ⟨Aa,ca,Ad,cd,rfl,-,-⟩:=y4k hyl;clear hy hyl
       go_wp2_with (first|(refine oL H ?_)|(refine oA 15 H ?_;clear H;intro w g15 H)|(refine oP H ?_;clear H;intro w _ H))
       go_roundw
       case rel=>exact ⟨j+1,by omega,by go_num,H.fin⟩
       case measure=>simp [intOf];omega
      ·obtain rfl:nf=j:=by omega
       go_wp2_with fail
       go_roundw
       case rel=>exact ⟨k+1,_,by omega,by go_num,H1,H.fin⟩
       case measure=>simp [intOf];omega
    ·have hkI: ¬((k:Int)<13):=by omega
     clear hlt hk;have hmk:=hm.sat H1;have hnk:=hn.sat H1;have hek:=he.sat H1;clear hdk
     go_wp2_with fail
     go_loopw [128] (fun i wr=>∃(k:Nat) (K20:World),k≤4∧i= .int .i64 k∧Sat K20 K10∧Hp wi wr K20 []) (fun i _=>4 - (intOf i).toNat)
     case atStart=>exact ⟨0,K10,Qak _,rfl,Sat.refl _,H⟩
     case round=>
      clear H;obtain ⟨k,K20,hk,rfl,H2,H⟩:=hrel;have hd2:=hek.sat H2;have hn2:=hmk.sat H2;replace hv:=hv.sat H2;by_cases hlt:k<4
      ·obtain ⟨x,ad1,us,hx,rfl,hxl,hat⟩:=el_k (m:=17) (f:=defL) y05 hd2 (by rw [HCL.out];exact hlt) (by decide);obtain ⟨hkI,hwrk⟩:=wr_k hlt (by omega);obtain ⟨G,hG,hGe,hGn,-,-⟩:=z1l HM.out hx;obtain ⟨hl0,hc0,-⟩:=x0e G (Qaf hG);have hGN:=x9e G (Qaf hG);have hlk:=x9c ndd.out hG;rw [hGn] at hlk;obtain ⟨ad2,y,rfl,hy,hat2⟩:=q2y hn2 (by rw [Qay];exact (Qac.1 hG).1)
       obtain rfl:y=x.name:=by rw [Qbz,hG] at hy;exact (Option.some.inj hy).symm.trans hGn
       have hTx:=fun {w K M} (H:Hp wi w K M) hv=>hDi v x.name true G H hv (by rw [hlk];rfl) (by rw [hlk];rfl);obtain ⟨A6,a6,A7,a7,A8,a8,A9,a9,A10,a10,A11,a11,A12,a12,A14,a14,rfl,-⟩:=y0c hxl;have HGE:=hide hGe;clear hx hG hGn hlk hy hd2 hn2 hGe
       go_upto_region 28 with (first|(refine oL H ?_)|(refine oA 17 H ?_;clear H;intro w g11 H)|(refine oA 18 H ?_;clear H;intro w g12 H)|(refine oP H ?_;clear H;intro w _ H)|(go_at_call 22;refine (hTx H hv).mono ?_;clear H hTx;rintro e w ⟨K11,cs,rfl,hle,H,hd7⟩;obtain ⟨B6,b6,B7,b7,B8,b8,B9,b9,B10,b10,B11,b11,B12,b12,B14,b14,hcs,-⟩:=y0c hd7;rw [hl0,hc0] at hcs;obtain rfl:cs= #[_,_,_,_,_,_,_,_,_,_,_,_,_,_,_,_,_]:=Qal.1 hcs;clear hcs hat;replace hat2:=At.sat hat2 hle;replace hxl:=hxl.sat hle;replace H2:=hle.trans H2;clear hle))
       have hGe:=HGE.out;refine rB [] H ?_;clear H;intro w H;refine rT 0 H ?_;refine rT 1 H ?_;refine rT 2 H ?_;refine rT 3 H ?_;refine rT 4 H ?_;refine rT 5 H ?_;refine rT 6 H ?_;refine rT 7 H ?_;refine rT 8 H ?_;refine rT 9 H ?_;refine rT 10 H ?_;refine rT 11 H ?_;refine rT 12 H ?_;refine rT 13 H ?_;refine rT 14 H ?_;refine rT 15 H ?_;refine rT 16 H ?_;refine rT 17 H ?_;refine rT 18 H ?_;refine rT 20 H ?_;refine rG 19 (x1y G hd7 H) ?_;clear H;rintro e w ⟨K12,ga,rfl,h1,H,d1⟩;refine rX H ?_;refine rG 21 (x1y x (hxl.sat h1) H) ?_;clear H;rintro e w ⟨K13,gb,rfl,h2,H,d2⟩;have h21:=h2.trans h1;replace d1:=d1.sat h2;refine rX H ?_;refine rG 22 (z3e false hGN hGe d1 d2 H) ?_;clear H;rintro e w ⟨rfl,H⟩;refine rX H ?_;refine rT 23 H ?_;refine rT 24 H ?_;refine rE ?_;replace H2:=h21.trans H2
       go_wp2_with fail
       go_roundw
       case rel=>exact ⟨k+1,_,by omega,by go_num,H2,H.fin⟩
       case measure=>simp [intOf];omega
      ·obtain rfl:k=4:=by omega
       have hnj:=hnk.sat H2;obtain ⟨o,ho⟩: ∃b,(y2t givenT name).isSome=b:=⟨_,rfl⟩;obtain ⟨d,hd9⟩: ∃d,(y2t givenT name).getD z1a=d:=⟨_,rfl⟩;have hTx:=fun {w K M} (H:Hp wi w K M) hv=>hTy v name o d H hv ho hd9
       have hon:decide (name∈y0a givenT)=o:=by
        rw [←ho];unfold y2t
        cases hq:y1u givenT name with
        |none=>exact Qa4 (y7m hq)
        |some i=>
         obtain ⟨e,he1,he2⟩:=y1o hq;rw [Option.bind_some,he1];exact Qa5 (he2▸List.mem_map_of_mem (Qaf he1))
       have hA:=fun {w K M} (H:Hp wi w K M) hd=>y9u (w0:=wi) (w:=w) (K:=K) (M:=M) (A:=An) (c:=cn) name (l:=y0a givenT) (n:=13) (by kernel_rfl) (by omega) hd H;simp only [hon] at hA
       have hoo:(o !=o)=false:=by cases o<;>rfl
       rw [y4n] at hnj;clear hd9 ho hon
       go_wp2_with (first|(refine oA 20 H ?_;clear H;intro w g20 H)|(refine oP H ?_;clear H;intro w _ H)|(go_at_call 19;refine (hTx H hv).mono ?_;clear H hTx;rintro e w ⟨K11,cs,rfl,hle,H,hd7⟩;obtain ⟨B6,b6,B7,b7,B8,b8,B9,b9,B10,b10,B11,b11,B12,b12,B14,b14,hcs,-⟩:=y0c hd7;obtain rfl:cs= #[_,_,_,_,_,_,_,_,_,_,_,_,_,_,_,_,_]:=Qal.1 hcs;clear hcs hd7;replace H2:=hle.trans H2;replace hnj:=hnj.sat hle;clear hle)|(go_at_call 23;refine (hA H hnj).mono ?_;rintro e w9 ⟨rfl,hw9⟩;subst w9))
       go_roundw
       case rel=>exact ⟨q+1,_,by omega,by go_num,H2.trans (H1.trans H0),H.fin⟩
       case measure=>simp [intOf];omega
  ·obtain rfl:q=4:=by omega
   go_wp2_with fail
   go_ret;exact ⟨rfl,H.bel⟩
end
end Go.Proofs.YtbpgkkoeehopjaaGreat.hp
namespace Go.Proofs.YtbpgkkoeehopjaaGreat.typesysBuiltIn
open Go.ChangeMaps (open_string shut_string)
open Go.ChangeShapes Go.WideShapes Go.ChangeAt Go.RowKit words tree gram rd dat opn hp frame
set_option maxRecDepth 100000
theorem own:ownKnob Tryz.prog.godebug=none:=by kernel_rfl
theorem laidOut:laidOutB Tryz.prog=true:=by kernel_rfl
theorem bound {H:Type} {l:List (DataW H)} (hk:Rows.uptoSmall H l=true):Rows.uptoBulkAll l≤1048576:=Qa6 hk
theorem lo_in {w:World} {t:Leaf} {v:Value} (h:Reads w (Lo w.heap.size) t v):RD w t v:=⟨h.keep (fun b hb=>⟨Qak _,hb⟩) (fun _ _=>rfl),Qab _⟩
theorem contract (H:Type) (enc:TypeId×Value→H) (W:World) (base:Nat) (args:Array Value) (ds gs:List (DataW H)) (before:List MemPlace)
  (hval: ∀(j:Nat) t v,Tryz.f3.params[j]?=some t→args[j]?=some v→Value.okWide Tryz.prog W .any base t v)
  (hW:DataW.Whole enc Tryz.prog Tryz.f3.params.toList Rows.typesysBuiltInSpec.vars false W args.toList ds gs before) (hk:Rows.uptoSmall H (ds++gs)=true):
  Calls Tryz.prog 3 args W fun e W'=>∃v,e= .returned v∧Rows.typesysBuiltInSpec.post enc Tryz.prog Tryz.f3 false true false false W args v W':=by
 have hW':=hW;obtain ⟨p,q,hA0,hV,rfl,hfz,hnd⟩:=hW;have hA:DataW.TrodAll enc Tryz.prog W 0 (fun _=>true) true Tryz.f3.params.toList args.toList ds p:=hA0;rw [Tryz.params3] at hA hval;obtain ⟨v0,vs0,d0,ds0,p0,q0,hargs,rfl,rfl,h0,r0⟩:=trodAll_cons hA;obtain ⟨rfl,rfl,rfl⟩:=trodAll_nil r0
 obtain rfl:args= #[v0]:=by cases args;simp_all
 obtain ⟨rfl,rfl⟩:=trodVars_none hV;have hbulk:=bound hk;simp only [List.append_nil,Rows.uptoBulkAll] at hbulk;clear hk hA0;simp only [List.append_nil] at hW'
 have fin: ∀(e:Ending) (W':World),(e= .returned (.bool true)∧Below W.heap.size W W')→ ∃v,e= .returned v∧Rows.typesysBuiltInSpec.post enc Tryz.prog Tryz.f3 false true false false W #[v0] v W':=fun e W' ⟨he,hb⟩=>by
  subst he;refine ⟨_,rfl,law_post rfl rfl rfl rfl laidOut ?_ (by kernel_rfl) Tryz.underlying4 hW' hb⟩;rw [Tryz.params3];intro t ht;simp only [Qbd,List.mem_nil_iff,or_false] at ht;subst ht;exact ⟨by kernel_rfl,Qa6 (by kernel_rfl)⟩
 obtain ⟨s0,rfl,rfl,-,-⟩:=open_string Tryz.underlying9 (hval 0 9 v0 rfl rfl) h0;obtain ⟨name,hx0⟩: ∃x:Txt,x=s0.data.toList:=⟨_,rfl⟩
 have es0:s0=str name:=by rw [hx0];exact (str_of s0).symm
 subst es0;rw [str_data] at hbulk
 have hl_name:name.length≤1048576:=by simp only [Rows.uptoBulk] at hbulk;omega
 exact (BuiltIn_walk name W).mono fun e W' h=>fin e W' h
set_option maxRecDepth 100000 in
theorem lifted (os:Os) (started:os.Started) (H:Type) (enc:TypeId×Value→H) (F:Stop.Interp):
  ReturnsInHanded {} Tryz.checked os 3 .any ((Rows.OpenSpec.upto Rows.typesysBuiltInSpec).pre6 enc Tryz.prog Tryz.f3 Rows.typesysBuiltInUptoRow.domain false) (((Rows.OpenSpec.upto Rows.typesysBuiltInSpec).at F).post enc Tryz.prog Tryz.f3 false true false false):=by
 refine returnsInHanded_of_cond (C:=Tryz.checked) (s:=Rows.OpenSpec.upto Rows.typesysBuiltInSpec) (k:=Rows.uptoSmall) rfl own started (by kernel_rfl) Tryz.func3
  (OpenSpec.witness (enc:=enc) (C:=Tryz.checked) (s:=Rows.OpenSpec.upto Rows.typesysBuiltInSpec) (k:=Rows.uptoSmall) rfl false ⟨#[], #[.string .empty],[]⟩ 8 (by kernel_rfl) (by kernel_rfl) (by kernel_rfl)
    (x:=([.lit (.string [])],[],[])) (by kernel_rfl) rfl (by kernel_rfl)) ?_
 intro W base args ds gs before hval hW _ hk _;exact contract H enc W base args ds gs before hval hW hk
theorem and_tt {a b:Bool} (h:a=true) (h':b=true):(a&&b)=true:=by rw [h,h'];rfl
set_option maxHeartbeats 64000000 in
theorem closed:joinedFacts Tryz.prog 3 Tryz.f3 (Rows.OpenSpec.upto Rows.typesysBuiltInSpec).bare Rows.typesysBuiltInUptoRow=true:=by
 unfold joinedFacts
 repeat' (with_reducible refine and_tt ?_ ?_)
 all_goals (as_aux_lemma=>kernel_rfl)
theorem inst:Tryz.f3.isInstance Tryz.prog Rows.typesysBuiltInUptoRow.origin Rows.typesysBuiltInUptoRow.targs:=Qa6 (by kernel_rfl)
theorem proved:Rows.TypesysBuiltInUptoSaid:=
 OpenClaim.holds_of_cond 3 Tryz.f3 rfl rfl rfl rfl rfl rfl rfl ⟨rfl,rfl,rfl,rfl,rfl⟩ rfl rfl rfl rfl rfl (by kernel_rfl) Tryz.func3 closed
  inst (by unfold Func.isWrapper;first|(rw [if_pos (by decide+kernel)];kernel_rfl)|(rw [if_neg (by decide+kernel)];exact ⟨rfl,rfl⟩))
  (fun os started H enc _ F=>lifted os started H enc F)
#print axioms proved
end Go.Proofs.YtbpgkkoeehopjaaGreat.typesysBuiltIn
