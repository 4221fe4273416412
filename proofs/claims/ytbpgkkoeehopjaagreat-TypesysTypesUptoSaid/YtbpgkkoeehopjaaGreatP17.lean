/- Proved: for every source and every name the type system that is built and that of the document answer the same types, directives, names, roots and schema (TypesysTypes); conditions: arguments up to the sizes of the Upto form. -/
import Derived.Test.YtbpgkkoeehopjaaGreatP1
import Derived.Test.YtbpgkkoeehopjaaGreatP4
import Derived.Test.YtbpgkkoeehopjaaGreatP9
import Derived.Test.YtbpgkkoeehopjaaGreatP15
import Derived.Test.YtbpgkkoeehopjaaGreatP16
import Derived.Test.YtbpgkkoeehopjaaGreatRows
import Derived.ChangeArms
import Derived.ProofKit
import Derived.OpenShut
import Derived.Deep.Matrix
import Derived.SizedLaws
import Derived.WalkKit
import Derived.JoinedCond
set_option linter.unusedVariables false
set_option linter.unusedSimpArgs false
namespace Go.Proofs.YtbpgkkoeehopjaaGreat.hp
open Go.RowKit words enc tree gram lex rd dec dat held ty
set_option maxRecDepth 100000
set_option maxHeartbeats 40000000
attribute [local go_sem ↓] Go.wp_at_zero Go.wp_at_succ
section
variable {w0 w K : World} {M : List Ent} {g : Nat} {s : DefD} {ts ds : List DefD}
theorem q51 (op:Int) (hT:RfK K g s ts ds) (hN:defN s≤9000000) (H:Hp w0 w K M) {r:Txt} (hr:z0f s.roots op=r):
  Calls Tryz.prog 84 #[.pointer (some ⟨g,0,none⟩),.int .i64 op] w fun e w'=>e= .returned (.string (str r))∧w'=w:=by
 obtain ⟨o,AT,AD,cT,cD,sch,hb,hs,-,-⟩:=hT;obtain ⟨A6,c6,A7,c7,A8,c8,A9,c9,A10,c10,A11,c11,A12,c12,A14,c14,rfl,-,-,-,-,-,-,hd,-⟩:=y0c hs;have hb:K.heap[g]?=some (.cells _ _ _):=hb
 have hl:s.roots.length≤9000000:=by unfold defN at hN;omega
 obtain ⟨rs,hrs⟩: ∃n,s.roots=n:=⟨_,rfl⟩;rw [hrs] at hb hd hl hr;obtain ⟨n,hn⟩: ∃n,rs.length=n:=⟨_,rfl⟩;rw [hn] at hb hd hl;have HN:=hide hn;have HR:=hide hr;clear hn hr hrs hs hN;go_enter Tryz.func84,Tryz.ntmps84
 go_wp2_with fail
 go_loopw [5] (fun i wr=>∃k:Nat,k≤n∧i= .int .i64 k∧Hid ((rs.take k).find? (fun r=>r.op==op)=none)∧wr=w) (fun i _=>n - (intOf i).toNat)
 case atStart=>exact ⟨0,Qak _,rfl,rfl,rfl⟩
 case round=>
  obtain ⟨k,hk,rfl,hno,rfl⟩:=hrel;by_cases hlt:k<n
  ·obtain ⟨d,ad,us,hx,rfl,hxl,hat⟩:=el_k (m:=4) (f:=y9v) (fun _=>rfl) hd (by rw [HN.out];exact hlt) (by decide);obtain ⟨hkI,hwr⟩:=wr_k hlt hl;obtain ⟨r0,rfl,h0⟩:=hxl.lit_inv;obtain ⟨r1,rfl,h1⟩:=h0.lit_inv;obtain ⟨r2,rfl,h2⟩:=h1.lit_inv;obtain ⟨r3,rfl,h3⟩:=h2.lit_inv;obtain rfl:=h3.nil_inv;have htk:=y0k hx;clear hxl h0 h1 h2 h3;by_cases he:(d.op==op)=true
   ·have hr:r=d.type:=by
     rw [←HR.out];unfold z0f;rw [←List.take_append_drop (k+1) rs,Qby,htk,Qby,hno.out];simp [he]
    subst hr;clear hx htk hno HR
    go_wp2_with (refine oL H ?_)
    go_ret;exact ⟨rfl,rfl⟩
   ·replace he:(d.op==op)=false:=by simpa using he
    have HNX:Hid ((rs.take (k+1)).find? (fun r=>r.op==op)=none):=by
     show _=_
     rw [htk,Qby,hno.out];simp [he]
    clear hx htk hno
    go_wp2_with (refine oL H ?_)
    go_roundw
    case rel=>exact ⟨k+1,by omega,by go_num,HNX,trivial⟩
    case measure=>simp [intOf];omega
  ·obtain rfl:n=k:=by omega
   have hno:=hno.out;rw [Qaj (by rw [HN.out];exact Qab _)] at hno
   have hr:r=[]:=by rw [←HR.out];unfold z0f;rw [hno];rfl
   subst hr;clear hno HR
   go_wp2_with (refine oL H ?_)
   go_ret;exact ⟨rfl,rfl⟩
end
section
variable {w0 w K : World} {M : List Ent}
theorem z1w {l:List Txt} {n c1 c2:Nat} {A1 A2:Option Addr} (hl:l.length=n) (hn:n≤9000000) (h1:RD K (.list n (y0p l)) (.slice A1 n c1)) (h2:RD K (.list n (y0p l)) (.slice A2 n c2)) (H:Hp w0 w K M):
  Calls Tryz.prog 26 #[.slice A1 n c1,.slice A2 n c2] w fun e w'=>e= .returned (.bool true)∧Hp w0 w' K M:=by
 have HN:=hide hl;clear hl;go_enter Tryz.func26,Tryz.ntmps26
 go_wp2_with fail
 go_loopw [13] (fun i wr=>∃j:Nat,j≤n∧i= .int .i64 j∧Hp w0 wr K M) (fun i _=>n - (intOf i).toNat)
 case atStart=>exact ⟨0,Qak _,rfl,H⟩
 case round=>
  clear H;obtain ⟨j,hj,rfl,H⟩:=hrel;by_cases hlt:j<n
  ·obtain ⟨ad,x,rfl,hx,hat⟩:=y5i h1 (by rw [HN.out];exact hlt);obtain ⟨ad2,y,rfl,hy,hat2⟩:=y5i h2 (by rw [HN.out];exact hlt)
   obtain rfl:y=x:=by rw [hx] at hy;injection hy with hy;exact hy.symm
   obtain ⟨hjI,hwr⟩:=wr_k hlt hn;clear hx hy
   go_upto_region 6 with fail
   refine rB [] H ?_;clear H;intro w H;refine rT 0 H ?_;refine rT 1 H ?_;refine rT 2 H ?_;refine rT 3 H ?_;refine rT 4 H ?_;refine rT 5 H ?_;refine rT 6 H ?_;refine rT 7 H ?_;refine rT 8 H ?_;refine rE ?_
   go_wp2_with fail
   go_roundw
   case rel=>exact ⟨j+1,by omega,by go_num,H⟩
   case measure=>simp [intOf];omega
  ·obtain rfl:n=j:=by omega
   go_wp2_with fail
   go_ret;exact ⟨rfl,H⟩
end
theorem q34 {ts:List DefD} {x:Txt} {d:DefD} (h:(y3w ts x).getD z1z=d) (hN:y0e ts≤8000000):defN d≤9000000:=by
 subst h
 cases hq:y3w ts x with
 |none=>simp only [Option.getD_none];exact Qa6 (by kernel_rfl)
 |some d=>
  obtain ⟨_,i,hi,_⟩:=q24 (show q2o ts x=some d from hq);have:=y7p hi;simp only [Option.getD_some];omega
section
variable {w0 w K : World} {M : List Ent} {g : Nat}
theorem z1e (d:DefD) {cs es:Array Value} (hn:defN d≤9000000) (hd:RL K (defL d) cs.toList) (he:RL K (defL d) es.toList) (H:Hp w0 w K M):
  Calls Tryz.prog 46 #[.agg cs,.agg es] w fun e w'=>∃K',e= .returned (.bool true)∧Sat K' K∧Hp w0 w' K' M:=by
 obtain ⟨A6,c6,A7,c7,A8,c8,A9,c9,A10,c10,A11,c11,A12,c12,A14,c14,hcs,-⟩:=y0c hd;obtain rfl:cs= #[_,_,_,_,_,_,_,_,_,_,_,_,_,_,_,_,_]:=Qal.1 hcs;obtain ⟨B6,b6,B7,b7,B8,b8,B9,b9,B10,b10,B11,b11,B12,b12,B14,b14,hes,-⟩:=y0c he;obtain rfl:es= #[_,_,_,_,_,_,_,_,_,_,_,_,_,_,_,_,_]:=Qal.1 hes
 have hn1:y0e [d]≤9000000:=by simp only [y0e,sumN];omega
 have hq:y3r (x0q true) [d] [d]=true:=y1t (x4l true) [d];clear hcs hes;go_enter Tryz.func46,Tryz.ntmps46
 go_upto_region 1 with (first|(refine oA 2 H ?_;clear H;intro w g2 H)|(refine oA 3 H ?_;clear H;intro w g3 H))
 refine rB [] H ?_;clear H;intro w H;refine rT 0 H ?_;refine rT 2 H ?_;refine rC 1 (q3j d hd H) ?_;clear H;rintro e w ⟨K1,g5,rfl,h1,H,d1⟩;refine rX H ?_;refine rC 3 (q3j d (he.sat h1) H) ?_;clear H;rintro e w ⟨K2,g6,rfl,h2,H,d2⟩;have h21:=h2.trans h1;refine rX H ?_;refine rC 4 (x0r true hn1 hq (d1.sat h2) d2 H) ?_;clear H;rintro e w ⟨rfl,H⟩;refine rX H ?_;refine rT 5 H ?_;refine rE ?_
 go_wp2_with fail
 go_ret;exact ⟨rfl,K2,h21,H.fin⟩
theorem z2f {n c:Nat} {A:Option Addr} {l:List Txt} (H:Hp w0 w K (.row 9 1 (.slice A n c) n (l.map sv)::M)): ∃K',Sat K' K∧Hp w0 w K' M∧RD K' (.list n (y0p l)) (.slice A n c):=
 H.freezeRow (y7o l)
theorem q52 (v:Value) (D:TysD) (H:Hp w0 w K M) (hv:Tp K v D) (hW:TyW D):
  Calls Tryz.prog 15 #[v] w fun e w'=>∃K' A' c',e= .returned (.slice A' D.types.length c')∧Sat K' K∧Hp w0 w' K' M∧RD K' (.list D.types.length (y0p (y0a D.types))) (.slice A' D.types.length c'):=
 (q5w v D w0 w K M H hv hW).mono fun e w' ⟨K',A',c',he,hle,H⟩=>by
   obtain ⟨K2,hle2,H,hd⟩:=z2f H;exact ⟨K2,A',c',he,hle2.trans hle,H,hd⟩
theorem q7v (v:Value) (D:TysD) (H:Hp w0 w K M) (hv:Tp K v D) (hW:TyW D):
  Calls Tryz.prog 16 #[v] w fun e w'=>∃K' A' c',e= .returned (.slice A' D.dirs.length c')∧Sat K' K∧Hp w0 w' K' M∧RD K' (.list D.dirs.length (y0p (y0a D.dirs))) (.slice A' D.dirs.length c'):=
 (z9u v D w0 w K M H hv hW).mono fun e w' ⟨K',A',c',he,hle,H⟩=>by
   obtain ⟨K2,hle2,H,hd⟩:=z2f H;exact ⟨K2,A',c',he,hle2.trans hle,H,hd⟩
theorem q3c {s:DefD} {ts ds:List DefD} (hT:RfK K g s ts ds) (hN:y0e ts≤9000000) (H:Hp w0 w K M):
  Calls Tryz.prog 29 #[.pointer (some ⟨g,0,none⟩)] w fun e w'=>∃K' A' c',e= .returned (.slice A' ts.length c')∧Sat K' K∧Hp w0 w' K' M∧RD K' (.list ts.length (y0p (y0a ts))) (.slice A' ts.length c'):=
 (z9y hT hN H).mono fun e w' ⟨A',c',he,H⟩=>by
   obtain ⟨K2,hle2,H,hd⟩:=z2f H;exact ⟨K2,A',c',he,hle2,H,hd⟩
theorem q53 {s:DefD} {ts ds:List DefD} (hT:RfK K g s ts ds) (hN:y0e ds≤9000000) (H:Hp w0 w K M):
  Calls Tryz.prog 53 #[.pointer (some ⟨g,0,none⟩)] w fun e w'=>∃K' A' c',e= .returned (.slice A' ds.length c')∧Sat K' K∧Hp w0 w' K' M∧RD K' (.list ds.length (y0p (y0a ds))) (.slice A' ds.length c'):=
 (y8t hT hN H).mono fun e w' ⟨A',c',he,H⟩=>by
   obtain ⟨K2,hle2,H,hd⟩:=z2f H;exact ⟨K2,A',c',he,hle2,H,hd⟩
end
section
variable {w0 w K : World} {M : List Ent}
theorem x1s (v:Value) (x:Txt) (D:TysD) (H:Hp w0 w K M) (hv:Tp K v D) (hW:TyW D) {o:Bool} {d:DefD} (h1:(y3w D.dirs x).isSome=o) (h2:(y3w D.dirs x).getD z1z=d):
  Calls Tryz.prog 22 #[v,.string (str x)] w fun e w'=>∃K' cs,e= .returned (.tuple #[.agg cs,.bool o])∧Sat K' K∧Hp w0 w' K' M∧RL K' (defL d) cs.toList:=by
 refine (x1j v x D w0 w K M H hv hW).mono ?_;rintro e w' ⟨K',v',rfl,hle,H,cs,rfl,hd⟩;rw [h1];rw [h2] at hd;exact ⟨K',cs,rfl,hle,H,hd⟩
theorem q3d (v:Value) (D:TysD) {d:DefD} (H:Hp w0 w K M) (hv:Tp K v D) (hW:TyW D) (hD:D.schema=d):
  Calls Tryz.prog 18 #[v] w fun e w'=>∃K' cs,e= .returned (.agg cs)∧Sat K' K∧Hp w0 w' K' M∧RL K' (defL d) cs.toList:=
 (q2y v D d w0 w K M H hv hW hD).mono fun e w' ⟨K',v',he,hle,H,cs,hv,hd⟩=>⟨K',cs,by rw [he,hv],hle,H,hd⟩
theorem q7w (v:Value) (op:Int) (D:TysD) (H:Hp w0 w K M) (hv:Tp K v D) (hW:TyW D) {r:Txt} (hr:z0f D.schema.roots op=r):
  Calls Tryz.prog 17 #[v,.int .i64 op] w fun e w'=>∃K',e= .returned (.string (str r))∧Sat K' K∧Hp w0 w' K' M:=by subst hr;exact q3z v op D w0 w K M H hv hW
theorem z92 (v:Value) (g:Nat) (name:Txt) (D:TysD) (H:Hp w0 w K M) (hv:Tp K v D) (hT:RfK K g D.schema D.types D.dirs) (hW:TyW D):
  Calls Tryz.prog 39 #[v,.pointer (some ⟨g,0,none⟩),.string (str name)] w fun e w'=>∃K',e= .returned (.bool true)∧Sat K' K∧Hp w0 w' K' M:=by
 obtain ⟨s,hs⟩: ∃s,D.schema=s:=⟨_,rfl⟩;obtain ⟨ts,hts⟩: ∃s,D.types=s:=⟨_,rfl⟩;obtain ⟨ds,hds⟩: ∃s,D.dirs=s:=⟨_,rfl⟩;have hsN:=hW.nS;have hT8:y0e D.types≤8000000:=Qah hW.nT (by omega);have hD8:y0e D.dirs≤8000000:=Qah hW.nD (by omega);have hNa:=fun {w K M} (H:Hp w0 w K M) (hv:Tp K v D)=>q52 v D H hv hW;have hDa:=fun {w K M} (H:Hp w0 w K M) (hv:Tp K v D)=>q7v v D H hv hW;have hTy:=fun (w K:World) (M:List Ent) (x:Txt) (o:Bool) (d:DefD) (H:Hp w0 w K M) (hv:Tp K v D)=>q7u v x D H hv hW (o:=o) (d:=d);have hDi:=fun (w K:World) (M:List Ent) (x:Txt) (o:Bool) (d:DefD) (H:Hp w0 w K M) (hv:Tp K v D)=>x1s v x D H hv hW (o:=o) (d:=d);have hRo:=fun (w K:World) (M:List Ent) (op:Int) (r:Txt) (H:Hp w0 w K M) (hv:Tp K v D)=>q7w v op D H hv hW (r:=r);have hSc:=fun {w K M} (H:Hp w0 w K M) (hv:Tp K v D)=>q3d v D H hv hW hs;rw [hs,hts,hds] at hT;rw [hs] at hsN;rw [hts] at hT8;rw [hds] at hD8;simp only [hts] at hNa hTy;simp only [hds] at hDa hDi;simp only [hs] at hRo
 have hT9:y0e ts≤9000000:=by omega
 have hD9:y0e ds≤9000000:=by omega
 have htl:=z5z hT9;have hdl:=z5z hD9;have htn:(y0a ts).length=ts.length:=Qay ..;have hdn:(y0a ds).length=ds.length:=Qay ..;clear hs hts hds hW;have H0:=Sat.refl K;replace hTy:=hide hTy;replace hDi:=hide hDi;replace hRo:=hide hRo;go_enter Tryz.func39,Tryz.ntmps39
 go_upto_region 3 with (first|(go_at_call 15;refine (hNa H hv).mono ?_;clear H hNa;rintro e w ⟨K8,A7,c7,rfl,hle7,H,hd7⟩;replace hv:=hv.sat hle7;replace hT:=hT.sat hle7;replace H0:=hle7.trans H0;clear hle7)|(go_at_call 29;refine (q3c hT hT9 H).mono ?_;clear H;rintro e w ⟨K8,A8,c8,rfl,hle7,H,hd8⟩;replace hd7:=hd7.sat hle7;replace hv:=hv.sat hle7;replace hT:=hT.sat hle7;replace H0:=hle7.trans H0;clear hle7)|(go_at_call 26;(first|((with_reducible refine (z1w htn htl hd7 hd8 H).mono ?_);clear htn)|((with_reducible refine (z1w hdn hdl hd7 hd8 H).mono ?_);clear hdn));clear H;rintro e w ⟨rfl,H⟩;clear hd7 hd8)|(go_at_call 16;refine (hDa H hv).mono ?_;clear H hDa;rintro e w ⟨K8,A7,c7,rfl,hle7,H,hd7⟩;replace hv:=hv.sat hle7;replace hT:=hT.sat hle7;replace H0:=hle7.trans H0;clear hle7)|(go_at_call 53;refine (q53 hT hD9 H).mono ?_;clear H;rintro e w ⟨K8,A8,c8,rfl,hle7,H,hd8⟩;replace hd7:=hd7.sat hle7;replace hv:=hv.sat hle7;replace hT:=hT.sat hle7;replace H0:=hle7.trans H0;clear hle7)|(go_at_call 18;refine (hSc H hv).mono ?_;clear H hSc;rintro e w ⟨K8,cs7,rfl,hle7,H,hd7⟩;replace hv:=hv.sat hle7;replace hT:=hT.sat hle7;replace H0:=hle7.trans H0;clear hle7)|(go_at_call 83;refine (x59 hT hsN H).mono ?_;clear H;rintro e w ⟨K8,cs8,rfl,hle7,H,hd8⟩;replace hd7:=hd7.sat hle7;replace hv:=hv.sat hle7;replace hT:=hT.sat hle7;replace H0:=hle7.trans H0;clear hle7)|(go_at_call 46;(with_reducible refine (z1e s hsN hd7 hd8 H).mono ?_);clear H;rintro e w ⟨K8,rfl,hle7,H⟩;clear hd7 hd8;replace hv:=hv.sat hle7;replace hT:=hT.sat hle7;replace H0:=hle7.trans H0;clear hle7))
 go_wp2_with fail
 go_loopw [7] (fun i wr=>∃(op:Int) (K1:World),-1≤op∧op≤6∧i= .int .i64 op∧Sat K1 K∧Hp w0 wr K1 M∧Tp K1 v D∧RfK K1 g s ts ds) (fun i _=>(6 - intOf i).toNat)
 case atStart=>exact ⟨-1,_,by omega,by omega,rfl,H0,H,hv,hT⟩
 case round=>
  clear H hv hT H0;obtain ⟨op,K1,hop,hop6,rfl,H0,H,hv,hT⟩:=hrel;by_cases hlt:op<6
  ·have hwo:IntKind.i64.wrap (op+1)=op+1:=IntWalk.i64_in _ (by omega);obtain ⟨r,hr⟩: ∃r,z0f s.roots op=r:=⟨_,rfl⟩
   go_wp2_with (first|(go_at_call 17;refine (hRo.out _ _ _ op r H hv hr).mono ?_;clear H;rintro e w ⟨K8,rfl,hle7,H⟩;replace hv:=hv.sat hle7;replace hT:=hT.sat hle7;replace H0:=hle7.trans H0;clear hle7)|(go_at_call 84;refine (q51 op hT hsN H hr).mono ?_;rintro e w9 ⟨rfl,hw9⟩;subst w9))
   go_roundw
   case rel=>exact ⟨op+1,_,by omega,by omega,by go_num,H0,H,hv,hT⟩
   case measure=>simp [intOf];omega
  ·obtain rfl:op=6:=by omega
   clear hRo;obtain ⟨L,hL⟩: ∃L,ts.map (·.name)++[name,[]]=L:=⟨_,rfl⟩
   have hLn:L.length=ts.length+2:=by rw [←hL,Qae,Qay];rfl
   have HL:=hide hL;clear hL
   go_upto_region 9 with (first|(go_at_call 29;(with_reducible refine (z9y hT hT9 H).mono ?_);clear H;rintro e w ⟨A5,c5,rfl,H⟩)|(refine oA 56 H ?_ (hd:=dbS (cs:=[.string (str name),.string ⟨#[]⟩]) (hcs:=by kernel_rfl));clear H;intro w g21 H;have hq9:=H.freezeBox (n:=2) (ls:=y0p [name,[]]) (.lit (.lit RL.z)) (by simp [maxLen]);clear H;obtain ⟨K5,hle7,H,hd5⟩:=hq9;replace hv:=hv.sat hle7;replace hT:=hT.sat hle7;replace H0:=hle7.trans H0;clear hle7)|(refine oR H ?_ (ls:=y0p [name,[]]) (hlen:=rfl);clear H;intro us A6 c6 w hus _ _ _ H;dsimp only [List.set] at H;have hq9:=H.freezeRow (ls:=y0p (ts.map (·.name)++[name,[]])) (by unfold y0p at hus ⊢;rw [Qas];exact DatL.app (y7o _) hus);clear H;obtain ⟨K6,hle7,H,hdl⟩:=hq9;replace hv:=hv.sat hle7;replace hT:=hT.sat hle7;replace H0:=hle7.trans H0;clear hle7))
   rw [HL.out] at hdl;obtain ⟨nl,hnl⟩: ∃n,ts.length+2=n:=⟨_,rfl⟩
   have hnlI:(ts.length:Int)+2=(nl:Int):=by omega
   rw [hnl] at hdl hLn ⊢;rw [hnlI]
   have hnl9:nl≤9000000:=by have:=y0l y1w ts;unfold y0e at hT8;omega
   have HN:=hide hLn;clear hnlI hd5 hnl hLn hus HL;have HK:=hide H0;clear H0
   go_wp2_with fail
   go_loopw [59] (fun i wr=>∃(k:Nat) (K7:World),k≤nl∧i= .int .i64 k∧Sat K7 K6∧Hp w0 wr K7 M∧Tp K7 v D∧RfK K7 g s ts ds) (fun i _=>nl - (intOf i).toNat)
   case atStart=>exact ⟨0,K6,Qak _,rfl,Sat.refl _,H,hv,hT⟩
   case round=>
    clear H hv hT;obtain ⟨k,K7,hk,rfl,H0,H,hv,hT⟩:=hrel;have hdk:=hdl.sat H0;by_cases hlt:k<nl
    ·obtain ⟨ad,x,rfl,hx,hat⟩:=y5i hdk (by rw [HN.out];exact hlt);obtain ⟨hkI,hwr⟩:=wr_k hlt hnl9;obtain ⟨ok,h1⟩: ∃b,(y3w ts x).isSome=b:=⟨_,rfl⟩;obtain ⟨d,h2⟩: ∃b,(y3w ts x).getD z1z=b:=⟨_,rfl⟩;have hdn9:=q34 h2 hT8;have J1:=hide h1;have J2:=hide h2;clear hx hdk h1 h2
     go_wp2_with (first|(refine oL H ?_)|(refine oA 10 H ?_;clear H;intro w ga H)|(refine oA 12 H ?_;clear H;intro w gb H)|(refine oP H ?_;clear H;intro w _ H)|(go_at_call 19;(with_reducible refine (hTy.out _ _ _ x ok d H hv J1.out J2.out).mono ?_);clear H;rintro e w ⟨K8,cs,rfl,hle7,H,hd7⟩;obtain ⟨B6,b6,B7,b7,B8,b8,B9,b9,B10,b10,B11,b11,B12,b12,B14,b14,hcs,-⟩:=y0c hd7;obtain rfl:cs= #[_,_,_,_,_,_,_,_,_,_,_,_,_,_,_,_,_]:=Qal.1 hcs;clear hcs hat;replace hv:=hv.sat hle7;replace hT:=hT.sat hle7;replace H0:=hle7.trans H0;clear hle7)|(go_at_call 40;(with_reducible refine (q3b x hT (by omega) H J1.out J2.out).mono ?_);clear H;rintro e w ⟨K8,cs,rfl,hle7,H,hd8⟩;obtain ⟨B6,b6,B7,b7,B8,b8,B9,b9,B10,b10,B11,b11,B12,b12,B14,b14,hcs,-⟩:=y0c hd8;obtain rfl:cs= #[_,_,_,_,_,_,_,_,_,_,_,_,_,_,_,_,_]:=Qal.1 hcs;clear hcs;replace hd7:=hd7.sat hle7;replace hv:=hv.sat hle7;replace hT:=hT.sat hle7;replace H0:=hle7.trans H0;clear hle7)|(go_at_call 46;(with_reducible refine (z1e d hdn9 hd7 hd8 H).mono ?_);clear H;rintro e w ⟨K8,rfl,hle7,H⟩;clear hd7 hd8;replace hv:=hv.sat hle7;replace hT:=hT.sat hle7;replace H0:=hle7.trans H0;clear hle7))
     go_roundw
     case rel=>exact ⟨k+1,_,by omega,by go_num,H0,H.fin,hv,hT⟩
     case measure=>simp [intOf];omega
    ·obtain rfl:k=nl:=by omega
     replace H0:=H0.trans HK.out;clear HK HN hdl hdk;obtain ⟨L,hL⟩: ∃L,ds.map (·.name)++[name,[]]=L:=⟨_,rfl⟩
     have hLn:L.length=ds.length+2:=by rw [←hL,Qae,Qay];rfl
     have HL:=hide hL;clear hL
     go_upto_region 17 with (first|(go_at_call 53;(with_reducible refine (y8t hT hD9 H).mono ?_);clear H;rintro e w ⟨A5,c5,rfl,H⟩)|(refine oA 88 H ?_ (hd:=dbS (cs:=[.string (str name),.string ⟨#[]⟩]) (hcs:=by kernel_rfl));clear H;intro w g21 H;have hq9:=H.freezeBox (n:=2) (ls:=y0p [name,[]]) (.lit (.lit RL.z)) (by simp [maxLen]);clear H;obtain ⟨K5,hle7,H,hd5⟩:=hq9;replace hv:=hv.sat hle7;replace hT:=hT.sat hle7;replace H0:=hle7.trans H0;clear hle7)|(refine oR H ?_ (ls:=y0p [name,[]]) (hlen:=rfl);clear H;intro us A6 c6 w hus _ _ _ H;dsimp only [List.set] at H;have hq9:=H.freezeRow (ls:=y0p (ds.map (·.name)++[name,[]])) (by unfold y0p at hus ⊢;rw [Qas];exact DatL.app (y7o _) hus);clear H;obtain ⟨K6,hle7,H,hdl⟩:=hq9;replace hv:=hv.sat hle7;replace hT:=hT.sat hle7;replace H0:=hle7.trans H0;clear hle7))
     rw [HL.out] at hdl;obtain ⟨nl,hnl⟩: ∃n,ds.length+2=n:=⟨_,rfl⟩
     have hnlI:(ds.length:Int)+2=(nl:Int):=by omega
     rw [hnl] at hdl hLn ⊢;rw [hnlI]
     have hnl9:nl≤9000000:=by have:=y0l y1w ds;unfold y0e at hD8;omega
     have HN:=hide hLn;clear hnlI hd5 hnl hLn hus HL;have HK:=hide H0;clear H0
     go_wp2_with fail
     go_loopw [91] (fun i wr=>∃(k:Nat) (K7:World),k≤nl∧i= .int .i64 k∧Sat K7 K6∧Hp w0 wr K7 M∧Tp K7 v D∧RfK K7 g s ts ds) (fun i _=>nl - (intOf i).toNat)
     case atStart=>exact ⟨0,K6,Qak _,rfl,Sat.refl _,H,hv,hT⟩
     case round=>
      clear H hv hT;obtain ⟨k,K7,hk,rfl,H0,H,hv,hT⟩:=hrel;have hdk:=hdl.sat H0;by_cases hlt:k<nl
      ·obtain ⟨ad,x,rfl,hx,hat⟩:=y5i hdk (by rw [HN.out];exact hlt);obtain ⟨hkI,hwr⟩:=wr_k hlt hnl9;obtain ⟨ok,h1⟩: ∃b,(y3w ds x).isSome=b:=⟨_,rfl⟩;obtain ⟨d,h2⟩: ∃b,(y3w ds x).getD z1z=b:=⟨_,rfl⟩;have hdn9:=q34 h2 hD8;have J1:=hide h1;have J2:=hide h2;clear hx hdk h1 h2
       go_wp2_with (first|(refine oL H ?_)|(refine oA 16 H ?_;clear H;intro w ga H)|(refine oA 18 H ?_;clear H;intro w gb H)|(refine oP H ?_;clear H;intro w _ H)|(go_at_call 22;(with_reducible refine (hDi.out _ _ _ x ok d H hv J1.out J2.out).mono ?_);clear H;rintro e w ⟨K8,cs,rfl,hle7,H,hd7⟩;obtain ⟨B6,b6,B7,b7,B8,b8,B9,b9,B10,b10,B11,b11,B12,b12,B14,b14,hcs,-⟩:=y0c hd7;obtain rfl:cs= #[_,_,_,_,_,_,_,_,_,_,_,_,_,_,_,_,_]:=Qal.1 hcs;clear hcs hat;replace hv:=hv.sat hle7;replace hT:=hT.sat hle7;replace H0:=hle7.trans H0;clear hle7)|(go_at_call 85;(with_reducible refine (z7d x hT (by omega) H J1.out J2.out).mono ?_);clear H;rintro e w ⟨K8,cs,rfl,hle7,H,hd8⟩;obtain ⟨B6,b6,B7,b7,B8,b8,B9,b9,B10,b10,B11,b11,B12,b12,B14,b14,hcs,-⟩:=y0c hd8;obtain rfl:cs= #[_,_,_,_,_,_,_,_,_,_,_,_,_,_,_,_,_]:=Qal.1 hcs;clear hcs;replace hd7:=hd7.sat hle7;replace hv:=hv.sat hle7;replace hT:=hT.sat hle7;replace H0:=hle7.trans H0;clear hle7)|(go_at_call 46;(with_reducible refine (z1e d hdn9 hd7 hd8 H).mono ?_);clear H;rintro e w ⟨K8,rfl,hle7,H⟩;clear hd7 hd8;replace hv:=hv.sat hle7;replace hT:=hT.sat hle7;replace H0:=hle7.trans H0;clear hle7))
       go_roundw
       case rel=>exact ⟨k+1,_,by omega,by go_num,H0,H.fin,hv,hT⟩
       case measure=>simp [intOf];omega
      ·obtain rfl:k=nl:=by omega
       replace H0:=H0.trans HK.out;clear HK HN hdl hdk
       go_wp2_with fail
       go_ret;exact ⟨_,rfl,H0,H⟩
theorem Types_walk (src name:Txt) (wi:World) (hsrc:src.length≤1048576):
  Calls Tryz.prog 7 #[.string (str src),.string (str name)] wi fun e w'=>e= .returned (.bool true)∧Below wi.heap.size wi w':=by
 have H:=Hp.start wi;have hN:=q67 src (by omega);have hS:=q29 src (by omega);have hrd:=fun {w1 K M} (H:Hp wi w1 K M)=>q2g H src (by omega);obtain ⟨defs,hdefs⟩: ∃d,z1y src=d:=⟨_,rfl⟩;rw [hdefs] at hN hrd hS;clear hdefs;have hW:=x28 defs (by omega)
 have hN9:y0e defs≤2900000:=by omega
 have hrb:=fun {w1 K M} {A:Option Addr} {c:Nat} (H:Hp wi w1 K M) (hd:RD K (.list defs.length (y0n defs)) (.slice A defs.length c))=>x98 defs rfl hN9 hS hd H;clear hS;go_enter Tryz.func7,Tryz.ntmps7
 go_wp2_with (first|(go_at_call 24;refine (q0b _ _ _ _ H).mono ?_;clear H;rintro e w1 ⟨K1,rfl,hle1,H⟩)|(go_at_call 13;refine (hrd H).mono ?_;clear H hrd;rintro e w2 ⟨K2,A2,c2,rfl,hle2,H,hd⟩)|(go_at_call 14;refine (z68 defs _ _ _ _ _ _ _ H rfl hd (by omega)).mono ?_;clear H;rintro e w3 ⟨K3,g,rfl,hle3,H,hB⟩;replace hd:=hd.sat hle3;have hv:=hB.tp;clear hB)|(go_at_call 28;refine (hrb H hd).mono ?_;clear H hrb;rintro e w4 ⟨K4,g4,rfl,hle4,H,hT⟩;replace hv:=hv.sat hle4)|(go_at_call 39;(with_reducible refine (z92 _ g4 name (z1v defs) H hv hT hW).mono ?_);clear H;rintro e w5 ⟨K5,rfl,hle5,H⟩))
 go_ret;exact ⟨rfl,H.bel⟩
end
end Go.Proofs.YtbpgkkoeehopjaaGreat.hp
namespace Go.Proofs.YtbpgkkoeehopjaaGreat.opn
open words tree gram rd dat
set_option maxRecDepth 100000
section
variable {H : Type} {enc : TypeId × Value → H} {w : World} {sp : Nat → Bool} {held : Bool}
abbrev bulk (d:DataW H):Nat:=Rows.uptoBulk d
def Op (enc:TypeId×Value→H) (w:World) (sp:Nat→Bool) (held:Bool) (t:TypeId) {α:Type} (f:α→List Leaf) (N:α→Nat) (Q:α→Prop) (m:Nat):Prop:=
 ∀cs x,DataW.trod enc Tryz.prog w 0 sp held m t cs=some x→bulk x.1≤1048576→ ∃d:α,ReadsL w (Lo w.heap.size) (f d) cs∧N d≤bulk x.1∧Q d
end
end Go.Proofs.YtbpgkkoeehopjaaGreat.opn
namespace Go.Proofs.YtbpgkkoeehopjaaGreat.frame
open Go.ChangeShapes Go.WideShapes Go.ChangeAt Go.RowKit words
section
variable {H : Type} {enc : TypeId × Value → H} {P : Program}
theorem z0j (hl:laidOutB P=true) {W W':World} (hb:Below W.heap.size W W'):
  ∀(ts:List TypeId) (vs:List Value) (ds:List (DataW H)) (ps:List MemPlace),
   (∀t∈ts,P.readableRec t=true∧t<P.types.size)→DataW.TrodAll enc P W 0 (fun _=>true) true ts vs ds ps→(∀x∈ps,x.block<W.heap.size)→
   DataW.TrodAll enc P W' 0 (fun b=>decide (b<W.heap.size)) true ts vs ds ps
 |[],vs,ds,ps,_,h,_=>by obtain ⟨rfl,rfl,rfl⟩:=trodAll_nil h;exact trodAll_mk0
 |t::ts,vs,ds,ps,hr,h,hlt=>by
  obtain ⟨v,vs',d,ds',p,q,rfl,rfl,rfl,h0,h1⟩:=trodAll_cons h
  exact trodAll_cons_mk (Below.trod hl (hr t (by simp)).1 (hr t (by simp)).2 h0 hb (fun x hx=>hlt x (by simp [hx])))
   (z0j hl hb ts vs' ds' q (fun t ht=>hr t (by simp [ht])) h1 (fun x hx=>hlt x (by simp [hx])))
theorem law_post {f:Func} {s:ChangeSpec} {apart handsOn:Bool} {W W':World} {args:Array Value} {ds gs:List (DataW H)} {before:List MemPlace} {bt:TypeId} (hs:s.vars=[])
  (hres:(s.fn H (ds++gs)).results=[.lit (.bool true)]) (hargs:(s.fn H (ds++gs)).args=ds) (hvars:(s.fn H (ds++gs)).vars=[])
  (hl:laidOutB P=true) (hr: ∀t∈f.params.toList,P.readableRec t=true∧t<P.types.size) (hrt:f.resultTypes= #[bt]) (hbt:P.underlying bt=some .bool)
  (hW:DataW.Whole enc P f.params.toList s.vars apart W args.toList ds gs before) (hb:Below W.heap.size W W'):
  s.post enc P f apart true handsOn false W args (.bool true) W':=by
 have hlt: ∀x∈before,x.block<W.heap.size:=fun x hx=>by simpa using hW.lt x hx
 have hW':=hW;obtain ⟨p,q,hA,hV,rfl,_,_⟩:=hW;rw [hs] at hV;obtain ⟨rfl,rfl⟩:=trodVars_none hV;refine ⟨ds,[],p++[],[],p,[],hW',?_,?_,?_,hb.frame _,fun h=>by cases h⟩
 ·rw [hres,hrt];exact trodAll_cons_mk (shut_bool hbt _) trodAll_mk0
 ·rw [hargs];exact z0j hl hb _ _ _ _ hr hA (fun x hx=>hlt x (by simpa using hx))
 ·rw [hvars,hs];rfl
end
end Go.Proofs.YtbpgkkoeehopjaaGreat.frame
namespace Go.Proofs.YtbpgkkoeehopjaaGreat.typesysTypes
open Go.ChangeMaps (open_string shut_string)
open Go.ChangeShapes Go.WideShapes Go.ChangeAt Go.RowKit words tree gram rd dat opn hp frame
set_option maxRecDepth 100000
theorem own:ownKnob Tryz.prog.godebug=none:=by kernel_rfl
theorem laidOut:laidOutB Tryz.prog=true:=by kernel_rfl
theorem bound {H:Type} {l:List (DataW H)} (hk:Rows.uptoSmall H l=true):Rows.uptoBulkAll l≤1048576:=Qa6 hk
theorem lo_in {w:World} {t:Leaf} {v:Value} (h:Reads w (Lo w.heap.size) t v):RD w t v:=⟨h.keep (fun b hb=>⟨Qak _,hb⟩) (fun _ _=>rfl),Qab _⟩
theorem contract (H:Type) (enc:TypeId×Value→H) (W:World) (base:Nat) (args:Array Value) (ds gs:List (DataW H)) (before:List MemPlace)
  (hval: ∀(j:Nat) t v,Tryz.f7.params[j]?=some t→args[j]?=some v→Value.okWide Tryz.prog W .any base t v)
  (hW:DataW.Whole enc Tryz.prog Tryz.f7.params.toList Rows.typesysTypesSpec.vars false W args.toList ds gs before) (hk:Rows.uptoSmall H (ds++gs)=true):
  Calls Tryz.prog 7 args W fun e W'=>∃v,e= .returned v∧Rows.typesysTypesSpec.post enc Tryz.prog Tryz.f7 false true false false W args v W':=by
 have hW':=hW;obtain ⟨p,q,hA0,hV,rfl,hfz,hnd⟩:=hW;have hA:DataW.TrodAll enc Tryz.prog W 0 (fun _=>true) true Tryz.f7.params.toList args.toList ds p:=hA0;rw [Tryz.params7] at hA hval;obtain ⟨v0,vs0,d0,ds0,p0,q0,hargs,rfl,rfl,h0,r0⟩:=trodAll_cons hA;obtain ⟨v1,vs1,d1,ds1,p1,q1,rfl,rfl,rfl,h1,r1⟩:=trodAll_cons r0;obtain ⟨rfl,rfl,rfl⟩:=trodAll_nil r1
 obtain rfl:args= #[v0,v1]:=by cases args;simp_all
 obtain ⟨rfl,rfl⟩:=trodVars_none hV;have hbulk:=bound hk;simp only [List.append_nil,Rows.uptoBulkAll] at hbulk;clear hk hA0;simp only [List.append_nil] at hW'
 have fin: ∀(e:Ending) (W':World),(e= .returned (.bool true)∧Below W.heap.size W W')→ ∃v,e= .returned v∧Rows.typesysTypesSpec.post enc Tryz.prog Tryz.f7 false true false false W #[v0,v1] v W':=fun e W' ⟨he,hb⟩=>by
  subst he;refine ⟨_,rfl,law_post rfl rfl rfl rfl laidOut ?_ (by kernel_rfl) Tryz.underlying4 hW' hb⟩;rw [Tryz.params7];intro t ht;simp only [Qbd,List.mem_nil_iff,or_false] at ht;rcases ht with rfl|rfl
  all_goals exact ⟨by kernel_rfl,Qa6 (by kernel_rfl)⟩
 obtain ⟨s0,rfl,rfl,-,-⟩:=open_string Tryz.underlying9 (hval 0 9 v0 rfl rfl) h0;obtain ⟨src,hx0⟩: ∃x:Txt,x=s0.data.toList:=⟨_,rfl⟩
 have es0:s0=str src:=by rw [hx0];exact (str_of s0).symm
 subst es0;rw [str_data] at hbulk
 have hl_src:src.length≤1048576:=by simp only [Rows.uptoBulk] at hbulk;omega
 obtain ⟨s1,rfl,rfl,-,-⟩:=open_string Tryz.underlying9 (hval 1 9 v1 rfl rfl) h1;obtain ⟨name,hx1⟩: ∃x:Txt,x=s1.data.toList:=⟨_,rfl⟩
 have es1:s1=str name:=by rw [hx1];exact (str_of s1).symm
 subst es1;rw [str_data] at hbulk
 have hl_name:name.length≤1048576:=by simp only [Rows.uptoBulk] at hbulk;omega
 exact (Types_walk src name W hl_src).mono fun e W' h=>fin e W' h
set_option maxRecDepth 100000 in
theorem lifted (os:Os) (started:os.Started) (H:Type) (enc:TypeId×Value→H) (F:Stop.Interp):
  ReturnsInHanded {} Tryz.checked os 7 .any ((Rows.OpenSpec.upto Rows.typesysTypesSpec).pre6 enc Tryz.prog Tryz.f7 Rows.typesysTypesUptoRow.domain false) (((Rows.OpenSpec.upto Rows.typesysTypesSpec).at F).post enc Tryz.prog Tryz.f7 false true false false):=by
 refine returnsInHanded_of_cond (C:=Tryz.checked) (s:=Rows.OpenSpec.upto Rows.typesysTypesSpec) (k:=Rows.uptoSmall) rfl own started (by kernel_rfl) Tryz.func7
  (OpenSpec.witness (enc:=enc) (C:=Tryz.checked) (s:=Rows.OpenSpec.upto Rows.typesysTypesSpec) (k:=Rows.uptoSmall) rfl false ⟨#[], #[.string .empty,.string .empty],[]⟩ 8 (by kernel_rfl) (by kernel_rfl) (by kernel_rfl)
    (x:=([.lit (.string []),.lit (.string [])],[],[])) (by kernel_rfl) rfl (by kernel_rfl)) ?_
 intro W base args ds gs before hval hW _ hk _;exact contract H enc W base args ds gs before hval hW hk
theorem and_tt {a b:Bool} (h:a=true) (h':b=true):(a&&b)=true:=by rw [h,h'];rfl
set_option maxHeartbeats 64000000 in
theorem closed:joinedFacts Tryz.prog 7 Tryz.f7 (Rows.OpenSpec.upto Rows.typesysTypesSpec).bare Rows.typesysTypesUptoRow=true:=by
 unfold joinedFacts
 repeat' (with_reducible refine and_tt ?_ ?_)
 all_goals (as_aux_lemma=>kernel_rfl)
theorem inst:Tryz.f7.isInstance Tryz.prog Rows.typesysTypesUptoRow.origin Rows.typesysTypesUptoRow.targs:=Qa6 (by kernel_rfl)
theorem proved:Rows.TypesysTypesUptoSaid:=
 OpenClaim.holds_of_cond 7 Tryz.f7 rfl rfl rfl rfl rfl rfl rfl ⟨rfl,rfl,rfl,rfl,rfl⟩ rfl rfl rfl rfl rfl (by kernel_rfl) Tryz.func7 closed
  inst (by unfold Func.isWrapper;first|(rw [if_pos (by decide+kernel)];kernel_rfl)|(rw [if_neg (by decide+kernel)];exact ⟨rfl,rfl⟩))
  (fun os started H enc _ F=>lifted os started H enc F)
#print axioms proved
end Go.Proofs.YtbpgkkoeehopjaaGreat.typesysTypes
