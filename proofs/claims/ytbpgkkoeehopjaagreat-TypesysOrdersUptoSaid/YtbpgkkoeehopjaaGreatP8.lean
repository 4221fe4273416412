/- Part 8 of a proof: see the text that holds the statement. -/
import Derived.Test.YtbpgkkoeehopjaaGreatP1
import Derived.Test.YtbpgkkoeehopjaaGreatP4
import Derived.Test.YtbpgkkoeehopjaaGreatP6
import Derived.Test.YtbpgkkoeehopjaaGreatP7
import Derived.Lib.ConvBytes
set_option linter.unusedVariables false
set_option linter.unusedSimpArgs false
namespace Go.Proofs.YtbpgkkoeehopjaaGreat.hp
open Go.RowKit words enc tree gram lex rd dec dat held ln lines
set_option maxRecDepth 100000
set_option maxHeartbeats 40000000
attribute [local go_sem ↓] Go.wp_at_zero Go.wp_at_succ
section
variable {w0 w K : World} {M : List Ent}
theorem z0m {ls:List (List Int)} {k:Nat} {x:List Int} {vs:List Value} {A:Option Addr} {c:Nat} (hx:ls[k]?=some x) (h:RL K (y9a (ls.take k)) vs) (hd:RD K (.list x.length (y25 x)) (.slice A x.length c)):RL K (y9a (ls.take (k+1))) (vs++[.slice A x.length c]):=by
 obtain ⟨hk,rfl⟩:=Qac.1 hx;rw [Qbk hk,y9a,Qbu,List.flatMap_singleton];exact h.app (.cons hd (.nil (Qab _)))
theorem x6k {x:List Int} {m c:Nat} {A:Option Addr} (h:RD K (.list x.length (y25 x)) (.slice A x.length c)) (hm:m≤x.length):RD K (.list (x.drop m).length (y25 (x.drop m))) (.slice (A.map (·.add m)) (x.length - m) (c - m)):=by
 have key: ∀y:List Int,y25 y=y.flatMap fun z=>[.lit (.int .i32 z)]:=fun y=>by
  unfold y25
  induction y with
  |nil=>rfl
  |cons z y ih=>rw [List.map_cons,List.flatMap_cons,ih];rfl
 rw [key] at h;have h2:=RD.cut (f:=fun z=>[.lit (.int .i32 z)]) (fun _=>rfl) h (Qab _) hm;rw [List.take_length] at h2;rw [key,Qav];exact h2
theorem x3z {c:List (List Int)} {f t:Nat} {x:List Int} (hf:f<t+1) (hx:c[t]?=some x) (hb:y7j x=true):toGo c f (t+1)=toGo c f t:=by
 rw [toGo,if_pos ⟨hf,by rw [hx];exact hb⟩]
theorem x91 {c:List (List Int)} {f t:Nat} {x:List Int} (hx:c[t]?=some x) (hb:y7j x=false):toGo c f (t+1)=t+1:=by
 rw [toGo,if_neg (fun h=>by have h2:=h.2;rw [hx] at h2;simp only [Option.map_some,Option.getD_some] at h2;rw [hb] at h2;cases h2)]
theorem x92 {ls:List (List Int)} {n c:Nat} {A:Option Addr} (hl:ls.length=n) (hn:n≤4194304) (hx: ∀x∈ls,x.length≤4194304) (hd:RD K (.list n (y9a ls)) (.slice A n c)) (H:Hp w0 w K M):
  Calls Tryz.prog 212 #[.slice A n c] w fun e w'=>∃K' A' c',e= .returned (.slice A' (y4v ls).length c')∧Sat K' K∧Hp w0 w' K' M∧RD K' (.list (y4v ls).length (y9a (y4v ls))) (.slice A' (y4v ls).length c'):=by
 have hcm:=fun {w M} (h:Hp w0 w K M)=>x9z hl hn hx hd h;have h0:=x51 ls;have h1:=x52 ls 4194304 hx;obtain ⟨out,hout⟩: ∃x,y4v ls=x:=⟨_,rfl⟩;rw [hout];unfold y4v at hout;dsimp only at hout;obtain ⟨m,hm⟩: ∃m:Nat,y5x ls=m:=⟨(y5x ls).toNat,by omega⟩;rw [hm] at hcm hout h1;rw [Int.toNat_natCast] at hout;obtain ⟨cc,hcc⟩: ∃x,cutF m ls=x:=⟨_,rfl⟩;rw [hcc] at hout
 have hcl:cc.length=n:=by rw [←hcc,x3q,hl]
 have HAT:=hide (show ∀(k:Nat) (x:List Int),ls[k]?=some x→cc[k]?=some (if k=0 then x else x.drop m) from fun k x h=>by rw [←hcc];exact x9c m h)
 have HXC:=hide (show ∀x∈cc,x.length≤4194304 from fun x hxm=>by
  obtain ⟨k,hk⟩:=Qaq hxm
  have hlt:k<ls.length:=by have:=(Qac.1 hk).1;omega
  have h2:=x9c m (Qad hlt);rw [hcc,hk] at h2;injection h2 with h2;have h3:=hx _ (List.getElem_mem hlt);rw [h2];split
  ·exact h3
  ·rw [Qav];omega)
 have HN:=hide hl;have HX:=hide hx;have HCL:=hide hcl;have HOUT:=hide hout;clear hl hx hm hcc hout hcl h0;go_enter Tryz.func212,Tryz.ntmps212
 go_wp2_with (first|((with_reducible refine (hcm H).mono ?_);rintro e w' ⟨rfl,rfl⟩))
 clear hcm;replace H:=H.nilRow 187 1
 go_loopw [4,5,6,7] (fun v iv _ _ wr=>∃(K1:World) (k:Nat) (A1:Option Addr) (c1:Nat) (vs:List Value),k≤n∧v= .slice A1 k c1∧iv= .int .i64 k∧Sat K1 K∧RL K1 (y9a (cc.take k)) vs∧Hp w0 wr K1 (.row 187 1 (.slice A1 k c1) k vs::M)) (fun _ iv _ _ _=>n - (intOf iv).toNat)
 case atStart=>exact ⟨K,0,none,0,[],by omega,rfl,rfl,Sat.refl _,.nil (Qab _),H⟩
 case round=>
  clear H;obtain ⟨K1,k,A1,c1,vs,hk,rfl,rfl,hle,hvs,H⟩:=hrel;by_cases hlt:k<n
  ·have hkI:(k:Int)<(n:Int):=by omega
   obtain ⟨x,hx⟩: ∃x,ls[k]?=some x:=⟨_,Qad (by rw [HN.out];exact hlt)⟩;obtain ⟨ad,A',c',rfl,hcK,hxd⟩:=z31 (hd.sat hle) hx;have hc:=H.sat.cell hcK;have hxl:=HX.out x (Qaf hx);have hca:=HAT.out k x hx;clear hx hcK;by_cases hk0:k=0
   ·subst hk0;rw [if_pos rfl] at hca;have HCA:=hide hca;rw [show ad.add 0=ad by unfold Addr.add;simp] at hc;clear hca
    go_wp2_with (first|(refine oN (ls:=y25 x) H ?_ (hlen:=by rw [z0l,Nat.mul_one]);clear H hc;intro us A2 c2 w2 hus _ _ H;rw [y8m hus] at H;clear hus us)|(refine oP H.up ?_;clear H;intro w g1 H)|(refine oQ H ?_;clear H;intro A3 c3 w _ _ H;dsimp only [List.set] at H))
    obtain ⟨K2,hle2,H,hy⟩:=H.up.freezeRow (z2q x);go_roundw
    case rel=>exact ⟨K2,0+1,_,_,_,by omega,rfl,by go_num,hle2.trans hle,z0m HCA.out (hvs.sat hle2) hy,H.fin⟩
    case measure=>simp [intOf];omega
   ·rw [if_neg hk0] at hca
    have hkP:(0:Int)<(k:Int):=by omega
    by_cases hxm:x.length≤m
    ·have hxI:(x.length:Int)≤(m:Int):=by omega
     rw [Qbo hxm] at hca;have HCA:=hide hca;have hz:RD K1 (.list 0 []) (.slice none 0 0):=.nil (Qab _);clear hca
     go_wp2_with (first|(refine oN (ls:=[]) H ?_ (hlen:=rfl);clear H hc;intro us A2 c2 w2 hus _ _ H;rw [hus.nil_inv] at H;clear hus us)|(refine oP H.up ?_;clear H;intro w g1 H)|(refine oQ H ?_;clear H;intro A3 c3 w _ _ H;dsimp only [List.set] at H))
     obtain ⟨K2,hle2,H,hy⟩:=H.up.freezeRow (ls:=y25 []) (.nil (Qab _));go_roundw
     case rel=>exact ⟨K2,k+1,_,_,_,by omega,rfl,by go_num,hle2.trans hle,z0m HCA.out (hvs.sat hle2) hy,H.fin⟩
     case measure=>simp [intOf];omega
    ·have hxI: ¬(x.length:Int)≤(m:Int):=by omega
     have HCA:=hide hca;have hdr:=x6k hxd (m:=m) (by omega);rw [Qav] at hdr
     have hcc:x.length≤c':=by obtain ⟨A5,c5,u5,e5,g5,_⟩:=y0k hxd.reads;injection e5 with _ _ e5;omega
     have hne: ¬c'=m:=by omega
     have hmc:(m:Int)≤(c':Int):=by omega
     clear hca
     go_wp2_with (first|(refine oN (ls:=y25 (x.drop m)) H ?_ (hlen:=by rw [z0l,Nat.mul_one,Qav]);clear H hc;intro us A2 c2 w2 hus _ _ H;rw [y8m hus] at H;clear hus us)|(refine oP H.up ?_;clear H;intro w g1 H)|(refine oQ H ?_;clear H;intro A3 c3 w _ _ H;dsimp only [List.set] at H))
     obtain ⟨K2,hle2,H,hy⟩:=H.up.freezeRow (z2q (x.drop m));have hq:=z0m HCA.out (hvs.sat hle2) (by rw [Qav];exact hy);rw [Qav] at hq;go_roundw
     case rel=>exact ⟨K2,k+1,_,_,_,by omega,rfl,by go_num,hle2.trans hle,hq,H.fin⟩
     case measure=>simp [intOf];omega
  ·obtain rfl:n=k:=by omega
   have hkI: ¬(n:Int)<(n:Int):=by omega
   have hcl:=HCL.out;rw [Qaj (by omega)] at hvs;have H0:=H;clear H;obtain ⟨K2,hle2,H,hcd⟩:=H0.freezeRow hvs;clear H0;have hK2:=hle2.trans hle;obtain ⟨f,hf⟩: ∃f,x53 cc=f:=⟨_,rfl⟩
   have hfn:f≤n:=by have:=z0f y7j cc;unfold x53 at hf;omega
   have hout:=HOUT.out;rw [hf,hcl] at hout;have HF:=hide hf;have HOUT:=hide hout;clear hf hout hvs hle hle2 hd HAT HX HN hcl hlt
   go_wp2_with fail
   go_loopw [8] (fun iv wr=>∃k:Nat,k≤f∧iv= .int .i64 k∧Hp w0 wr K2 M) (fun iv _=>n - (intOf iv).toNat)
   case atStart=>exact ⟨0,by omega,rfl,H⟩
   case round=>
    clear H;obtain ⟨k,hk,rfl,H⟩:=hrel;by_cases hlt:k<n
    ·have hkI:(k:Int)<(n:Int):=by omega
     obtain ⟨x,hx⟩: ∃x,cc[k]?=some x:=⟨_,Qad (by rw [HCL.out];exact hlt)⟩;obtain ⟨ad,A',c',rfl,hcK,hxd⟩:=z31 hcd hx;have hc:=H.sat.cell hcK;have hxl:=HXC.out x (Qaf hx);have hcall:=z3i A' x.length c' _ x wr (z30 H hxd) rfl (by omega);have hst:=x1h (p:=y7j) (by have:=HF.out;unfold x53 at this;omega) hx;have hr2:=HF.out;unfold x53 at hr2;rw [hr2] at hst;clear hx hxd hcK hr2
     cases hb:y7j x with
     |true=>
      rw [hb] at hst hcall;have h1:=hst.1 rfl;clear hst hb
      go_wp2_with (first|(go_at_call 216;refine hcall.mono ?_;rintro e w' ⟨rfl,rfl⟩))
      go_roundw
      case rel=>exact ⟨k+1,by omega,by go_num,H⟩
      case measure=>simp [intOf];omega
     |false=>
      rw [hb] at hst hcall;obtain rfl:=hst.2 rfl;clear hst hb
      go_wp2_with (first|(go_at_call 216;refine hcall.mono ?_;rintro e w' ⟨rfl,rfl⟩))
      go_loopw [9] (fun iv wr=>∃t:Nat,f≤t∧t≤n∧iv= .int .i64 t∧Hid (toGo cc f t=toGo cc f n)∧Hp w0 wr K2 M) (fun iv _=>(intOf iv).toNat)
      case atStart=>exact ⟨n,hfn,Qab _,rfl,rfl,H⟩
      case round=>
       clear H;obtain ⟨t,hft0,htn,rfl,hto,H⟩:=hrel;by_cases hft:f<t
       ·obtain ⟨t,rfl⟩: ∃t',t=t'+1:=⟨t - 1,by omega⟩
        have hftI:(f:Int)<((t+1:Nat):Int):=by omega
        have htI:(t:Int)<(n:Int):=by omega
        obtain ⟨x,hx⟩: ∃x,cc[t]?=some x:=⟨_,Qad (by rw [HCL.out];omega)⟩;obtain ⟨ad,A',c',e1,hcK,hxd⟩:=z31 hcd hx
        first|subst e1|(injection e1 with e1;subst e1)
        have hc:=H.sat.cell hcK;have hxl:=HXC.out x (Qaf hx);have hcall:=z3i A' x.length c' _ x _ (z30 H hxd) rfl (by omega);have h0:=hto.out;have hyes:=x3z (x:=x) hft hx;have hno:=x91 (f:=f) (x:=x) hx;clear hx hxd hcK hto
        cases hb:y7j x with
        |true=>
         rw [hyes hb] at h0;rw [hb] at hcall;have H1:=hide h0;clear h0 hb hyes hno
         go_wp2_with (first|(go_at_call 216;refine hcall.mono ?_;rintro e w' ⟨rfl,rfl⟩))
         all_goals
          go_roundw
          case rel=>exact ⟨t,by omega,by omega,by go_num,H1,H⟩
          case measure=>simp [intOf]
        |false=>
         rw [hno hb] at h0;rw [hb] at hcall;have hto:=h0.symm;clear h0 hb hyes hno;have ho:=HOUT.out;rw [hto] at ho;have hcut:=RD.cut (f:=x6j) (fun _=>rfl) hcd (a:=f) (b:=(t+1)) htn hft0;obtain ⟨o1,o2,o3,o4,o5,o6,-⟩:=y0k hcd.reads
         have hnc:n≤c1:=by injection o4 with _ _ o4;omega
         have hcm:c1≤maxLen:=by injection o4 with _ _ o4;omega
         have hol:out.length=(t+1) - f:=by rw [←ho,Qav,Qau,HCL.out];omega
         have HOL:=hide hol;rw [ho] at hcut
         have hmax:c1≤9223372036854775807:=by simpa [maxLen] using hcm
         have i1:(f:Int)≤((t+1):Int):=by omega
         have i2:((t+1):Int)≤(c1:Int):=by omega
         clear hto ho hol o1 o2 o3 o4 o5 o6 hcd;by_cases hcf:c1=f
         ·have ht0:(t+1) - f=0:=by omega
          have hon:=Qa0 (HOL.out.trans ht0);subst hon
          go_wp2_with (first|(go_at_call 216;refine hcall.mono ?_;rintro e w' ⟨rfl,rfl⟩))
          all_goals
           go_ret;exact ⟨K2,_,0,rfl,hK2,H,RD.none rfl (Qak _)⟩
         ·have hfc:(f:Int)≤(c1:Int):=by omega
          go_wp2_with (first|(go_at_call 216;refine hcall.mono ?_;rintro e w' ⟨rfl,rfl⟩))
          all_goals
           go_ret;rw [HOL.out];exact ⟨K2,_,_,rfl,hK2,H,hcut⟩
       ·have hftI: ¬(f:Int)<(t:Int):=by omega
        have hto:toGo cc f n=t:=by
         rw [←hto.out]
         cases t with
         |zero=>rfl
         |succ t=>rw [toGo,if_neg (fun h=>hft h.1)]
        have ho:=HOUT.out;rw [hto] at ho;have hcut:=RD.cut (f:=x6j) (fun _=>rfl) hcd (a:=f) (b:=t) htn hft0;obtain ⟨o1,o2,o3,o4,o5,o6,-⟩:=y0k hcd.reads
        have hnc:n≤c1:=by injection o4 with _ _ o4;omega
        have hcm:c1≤maxLen:=by injection o4 with _ _ o4;omega
        have hol:out.length=t - f:=by rw [←ho,Qav,Qau,HCL.out];omega
        have HOL:=hide hol;rw [ho] at hcut
        have hmax:c1≤9223372036854775807:=by simpa [maxLen] using hcm
        have i1:(f:Int)≤(t:Int):=by omega
        have i2:(t:Int)≤(c1:Int):=by omega
        clear hto ho hol o1 o2 o3 o4 o5 o6 hcd;by_cases hcf:c1=f
        ·have ht0:t - f=0:=by omega
         have hon:=Qa0 (HOL.out.trans ht0);subst hon
         go_wp2_with (first|fail)
         all_goals
          go_ret;exact ⟨K2,_,0,rfl,hK2,H,RD.none rfl (Qak _)⟩
        ·have hfc:(f:Int)≤(c1:Int):=by omega
         go_wp2_with (first|fail)
         all_goals
          go_ret;rw [HOL.out];exact ⟨K2,_,_,rfl,hK2,H,hcut⟩
    ·have hkI: ¬(k:Int)<(n:Int):=by omega
     obtain rfl:f=k:=by omega
     go_wp2_with (first|fail)
     go_loopw [9] (fun iv wr=>∃t:Nat,f≤t∧t≤n∧iv= .int .i64 t∧Hid (toGo cc f t=toGo cc f n)∧Hp w0 wr K2 M) (fun iv _=>(intOf iv).toNat)
     case atStart=>exact ⟨n,hfn,Qab _,rfl,rfl,H⟩
     case round=>
      clear H;obtain ⟨t,hft0,htn,rfl,hto,H⟩:=hrel;by_cases hft:f<t
      ·obtain ⟨t,rfl⟩: ∃t',t=t'+1:=⟨t - 1,by omega⟩
       have hftI:(f:Int)<((t+1:Nat):Int):=by omega
       have htI:(t:Int)<(n:Int):=by omega
       obtain ⟨x,hx⟩: ∃x,cc[t]?=some x:=⟨_,Qad (by rw [HCL.out];omega)⟩;obtain ⟨ad,A',c',e1,hcK,hxd⟩:=z31 hcd hx
       first|subst e1|(injection e1 with e1;subst e1)
       have hc:=H.sat.cell hcK;have hxl:=HXC.out x (Qaf hx);have hcall:=z3i A' x.length c' _ x _ (z30 H hxd) rfl (by omega);have h0:=hto.out;have hyes:=x3z (x:=x) hft hx;have hno:=x91 (f:=f) (x:=x) hx;clear hx hxd hcK hto
       cases hb:y7j x with
       |true=>
        rw [hyes hb] at h0;rw [hb] at hcall;have H1:=hide h0;clear h0 hb hyes hno
        go_wp2_with (first|(go_at_call 216;refine hcall.mono ?_;rintro e w' ⟨rfl,rfl⟩))
        all_goals
         go_roundw
         case rel=>exact ⟨t,by omega,by omega,by go_num,H1,H⟩
         case measure=>simp [intOf]
       |false=>
        rw [hno hb] at h0;rw [hb] at hcall;have hto:=h0.symm;clear h0 hb hyes hno;have ho:=HOUT.out;rw [hto] at ho;have hcut:=RD.cut (f:=x6j) (fun _=>rfl) hcd (a:=f) (b:=(t+1)) htn hft0;obtain ⟨o1,o2,o3,o4,o5,o6,-⟩:=y0k hcd.reads
        have hnc:n≤c1:=by injection o4 with _ _ o4;omega
        have hcm:c1≤maxLen:=by injection o4 with _ _ o4;omega
        have hol:out.length=(t+1) - f:=by rw [←ho,Qav,Qau,HCL.out];omega
        have HOL:=hide hol;rw [ho] at hcut
        have hmax:c1≤9223372036854775807:=by simpa [maxLen] using hcm
        have i1:(f:Int)≤((t+1):Int):=by omega
        have i2:((t+1):Int)≤(c1:Int):=by omega
        clear hto ho hol o1 o2 o3 o4 o5 o6 hcd;by_cases hcf:c1=f
        ·have ht0:(t+1) - f=0:=by omega
         have hon:=Qa0 (HOL.out.trans ht0);subst hon
         go_wp2_with (first|(go_at_call 216;refine hcall.mono ?_;rintro e w' ⟨rfl,rfl⟩))
         all_goals
          go_ret;exact ⟨K2,_,0,rfl,hK2,H,RD.none rfl (Qak _)⟩
        ·have hfc:(f:Int)≤(c1:Int):=by omega
         go_wp2_with (first|(go_at_call 216;refine hcall.mono ?_;rintro e w' ⟨rfl,rfl⟩))
         all_goals
          go_ret;rw [HOL.out];exact ⟨K2,_,_,rfl,hK2,H,hcut⟩
      ·have hftI: ¬(f:Int)<(t:Int):=by omega
       have hto:toGo cc f n=t:=by
        rw [←hto.out]
        cases t with
        |zero=>rfl
        |succ t=>rw [toGo,if_neg (fun h=>hft h.1)]
       have ho:=HOUT.out;rw [hto] at ho;have hcut:=RD.cut (f:=x6j) (fun _=>rfl) hcd (a:=f) (b:=t) htn hft0;obtain ⟨o1,o2,o3,o4,o5,o6,-⟩:=y0k hcd.reads
       have hnc:n≤c1:=by injection o4 with _ _ o4;omega
       have hcm:c1≤maxLen:=by injection o4 with _ _ o4;omega
       have hol:out.length=t - f:=by rw [←ho,Qav,Qau,HCL.out];omega
       have HOL:=hide hol;rw [ho] at hcut
       have hmax:c1≤9223372036854775807:=by simpa [maxLen] using hcm
       have i1:(f:Int)≤(t:Int):=by omega
       have i2:(t:Int)≤(c1:Int):=by omega
       clear hto ho hol o1 o2 o3 o4 o5 o6 hcd;by_cases hcf:c1=f
       ·have ht0:t - f=0:=by omega
        have hon:=Qa0 (HOL.out.trans ht0);subst hon
        go_wp2_with (first|fail)
        all_goals
         go_ret;exact ⟨K2,_,0,rfl,hK2,H,RD.none rfl (Qak _)⟩
       ·have hfc:(f:Int)≤(c1:Int):=by omega
        go_wp2_with (first|fail)
        all_goals
         go_ret;rw [HOL.out];exact ⟨K2,_,_,rfl,hK2,H,hcut⟩
theorem x6l {ls:List (List Int)} {N:Nat} (h: ∀x∈ls,x.length≤N): ∀x∈y4v ls,x.length≤N:=fun x hx=>by
 unfold y4v at hx;have hx:=List.mem_of_mem_take (List.mem_of_mem_drop hx)
 cases ls with
 |nil=>simp [cutF] at hx
 |cons l r=>
  simp only [cutF,Qbd,Qbe] at hx;rcases hx with rfl|⟨y,hy,rfl⟩
  ·exact h _ (by simp)
  ·skip
   have:=h y (by simp [hy]);rw [Qav];omega
theorem x6m (ls:List (List Int)):(y4v ls).length≤ls.length:=by
 unfold y4v;simp only [Qav,Qau,x3q];omega
theorem x93 {ls:List (List Int)} {k:Nat} {x:List Int} (h:ls[k]?=some x):z3f (ls.take (k+1))=z3f (ls.take k)++((if k=0 then [] else [10])++x):=by
 obtain ⟨hk,rfl⟩:=Qac.1 h
 cases ls with
 |nil=>simp at hk
 |cons l r=>
  cases k with
  |zero=>simp [z3f]
  |succ k=>
   have hk:k<r.length:=by simpa using hk
   rw [List.take_succ_cons,List.take_succ_cons,Qbk hk,z3f,z3f,Qbu,List.flatMap_singleton,if_neg (by omega),Qat];rfl
theorem Hp.fresh_1 {w':World} (H:Hp w0 w K M) (hb:Below w.heap.size w w') {t:Leaf} {v:Value} (hd:Reads w' (fun b=>w.heap.size≤b∧b<w'.heap.size) t v): ∃K',Sat K' K∧Hp w0 w' K' M∧RD K' t v:=by
 obtain ⟨K',h1,h2,h3,h4⟩:=H.fresh hb;have h5:RL K' [t] [v]:=h4 [t] [v] ⟨ReadsL.cons hd ReadsL.nil,Qab _⟩;have h6:=h5.reads;simp only [ReadsL] at h6;obtain ⟨v2,r,e,h7,_⟩:=h6;injection e with e1 e2;subst e1;exact ⟨K',h1,h2,⟨h7,Qab _⟩⟩
theorem z32 {w:World} {S:Nat→Prop}: ∀x:List Int,ReadsL w S (y25 x) (rv x)
 |[]=>ReadsL.nil
 |z::x=>ReadsL.cons (y1z rfl) (z32 x)
theorem x6n {w:World} {B:Nat} {S:Nat→Prop} (hS: ∀b,B≤b→b<w.heap.size→S b): ∀{cs:List Value} {L:List (List Int)},RowsOwn w B cs L→ReadsL w S (y9a L) cs:=by
 intro cs L
 induction L generalizing cs with
 |nil=>intro h;have:=h.len;rw [Qa0 this];exact ReadsL.nil
 |cons l L ih=>
  intro h
  cases cs with
  |nil=>have:=h.len;simp at this
  |cons v cs=>
   obtain ⟨v',hv,ho⟩:=h.rows 0 l rfl;simp only [List.getElem?_cons_zero,Option.some.injEq] at hv;subst hv;refine ReadsL.cons (y2k ho (z32 l) (fun g hg=>hS g (ho.lt g hg).1 (ho.lt g hg).2)) (ih ⟨by have:=h.len;simpa using this,fun j l hl=>?_,fun i j u v hu hv hij=>?_⟩)
   ·exact h.rows (j+1) l (by simpa using hl)
   ·exact h.apart (i+1) (j+1) u v (by simpa using hu) (by simpa using hv) (by omega)
end
section
variable {w : World}
theorem x30:z3j:=by
 intro A n c B s w hr hB hn hnc hcm h63;have hst:=fun w hr=>z8y A n c B s w hr hn (by omega);have hli:=fun w hr hB=>z8z A n c B s w hr hB hn hnc hcm (by omega);have hlx:=lex.lines_len s;have hln:=x9d s;rw [hn] at hlx hln;unfold z3g
 cases hs:z8v s with
 |false=>
  rw [hs] at hst;clear hs;go_enter Tryz.func204,Tryz.ntmps204
  go_wp2_with (first|(go_at_call 209;refine (hst _ hr).mono ?_;rintro e w' ⟨rfl,rfl⟩))
  go_ret2
  exact ⟨rfl,Below.refl _ _⟩
 |true=>
  rw [hs] at hst;rw [if_pos rfl];obtain ⟨ls,hls⟩: ∃x,y1t s=x:=⟨_,rfl⟩;rw [hls] at hlx hln ⊢;obtain ⟨kp,hkp⟩: ∃x,y4v (ls.map y81)=x:=⟨_,rfl⟩;rw [hkp];dsimp only;rw [show str (encS (z3f kp)).data.toList=encS (z3f kp) from str_of _];have HKP:=hide hkp;have HLS:=hide hls;clear hs hls hn hkp;go_enter Tryz.func204,Tryz.ntmps204
  go_wp2_with (first|(go_at_call 209;refine (hst _ hr).mono ?_;rintro e w2 ⟨rfl,hw2⟩;subst w2)|(go_at_call 210;refine (hli _ hr hB).mono ?_;rintro e w1 ⟨v,cs,rfl,hown,hrows,hb1⟩))
  clear hli hst;rw [HLS.out] at hrows;obtain ⟨K1,-,H,hd⟩:=(Hp.start _).fresh_1 hb1 (y2k hown (x6n (fun b h1 h2=>⟨h1,h2⟩) hrows) (fun g hg=>hown.lt g hg));have hcl:=hrows.len;obtain ⟨N,hN⟩: ∃N,ls.length=N:=⟨_,rfl⟩;rw [hcl,hN] at hd;rw [hN] at hln;rw [hcl,hN] at hown;obtain ⟨Al,cl,rfl,-,-⟩:=y0e hown;have HN:=hide hN;have HLX:=hide hlx;clear hcl hN hlx hown hrows hb1 HLS;replace H:=H.nilRow 187 1
  go_wp2_with fail
  go_loopw [6,7,8] (fun v iv _ wr=>∃(K2:World) (k:Nat) (A2:Option Addr) (c2:Nat) (vs:List Value),k≤N∧v= .slice A2 k c2∧iv= .int .i64 k∧Sat K2 K1∧RL K2 (y9a ((ls.map y81).take k)) vs∧Hp w wr K2 [.row 187 1 (.slice A2 k c2) k vs]) (fun _ iv _ _=>N - (intOf iv).toNat)
  case atStart=>exact ⟨K1,0,none,0,[],by omega,rfl,rfl,Sat.refl _,.nil (Qab _),H⟩
  case round=>
   clear H;obtain ⟨K2,k,A2,c2,vs,hk,rfl,rfl,hle,hvs,H⟩:=hrel;by_cases hlt:k<N
   ·have hkI:(k:Int)<(N:Int):=by omega
    obtain ⟨x,hx⟩: ∃x,ls[k]?=some x:=⟨_,Qad (by rw [HN.out];exact hlt)⟩;obtain ⟨ad,A',c',rfl,hcK,hxd⟩:=z31 (hd.sat hle) hx;have hc:=H.sat.cell hcK;have hxl:=HLX.out x (Qaf hx);have hcall:=fun {w1 M} (h:Hp w w1 K2 M)=>x90 rfl (by omega) hxd h;have HX:=hide (show (ls.map y81)[k]?=some (y81 x) by rw [Qbz,hx];rfl);clear hx hcK
    go_wp2_with (first|((with_reducible refine (hcall H).mono ?_);clear H hc;rintro e w1 ⟨K3,A3,c3,rfl,hle3,H,hy⟩)|(refine oP H ?_;clear H;intro w g1 H)|(refine oQ H ?_;clear H;intro A4 c4 w _ _ H;dsimp only [List.set] at H))
    go_roundw
    case rel=>exact ⟨K3,k+1,_,_,_,by omega,rfl,by go_num,hle3.trans hle,z0m HX.out (hvs.sat hle3) hy,H⟩
    case measure=>simp [intOf];omega
   ·obtain rfl:N=k:=by omega
    have hkI: ¬(N:Int)<(N:Int):=by omega
    rw [Qaj (by rw [Qay,HN.out];exact Qab _)] at hvs;have H0:=H;clear H;obtain ⟨K3,hle3,H,hod⟩:=H0.freezeRow hvs;clear H0 hvs hd
    have hcall:=fun {w1 M} (h:Hp w w1 K3 M)=>x92 (by rw [Qay,HN.out]) (by omega) (fun x hx=>by
     obtain ⟨y,hy,rfl⟩:=Qbe.1 hx;have h1:=HLX.out y hy;have h2:=z8w y
     omega) hod h
    have hm1:=x6m (ls.map y81)
    have hm2:=x6l (ls:=ls.map y81) (N:=n) (fun x hx=>by
     obtain ⟨y,hy,rfl⟩:=Qbe.1 hx
     exact Qah (z8w y) (HLX.out y hy))
    rw [Qay,HN.out] at hm1;rw [HKP.out] at hm1 hm2 hcall;obtain ⟨m,hm⟩: ∃m,kp.length=m:=⟨_,rfl⟩;rw [hm] at hm1 hcall;have HM:=hide hm;have HM2:=hide hm2;clear hm hm2 HKP
    go_wp2_with (first|((with_reducible refine (hcall H).mono ?_);clear H;rintro e w1 ⟨K4,A4,c4,rfl,hle4,H,hkd⟩))
    clear hcall hod hle3 hle;replace H:=H.nilRow 21 1
    go_loopw [10,11] (fun v iv wr=>∃(k:Nat) (A5:Option Addr) (c5:Nat) (dn:List Int),k≤m∧v= .slice A5 dn.length c5∧iv= .int .i64 k∧dn.length≤k*4000001∧Hid (dn=z3f (kp.take k))∧Hp w wr K4 [.row 21 1 (.slice A5 dn.length c5) dn.length (rv dn)]) (fun _ iv _=>m - (intOf iv).toNat)
    case atStart=>exact ⟨0,none,0,[],by omega,rfl,rfl,by simp,rfl,H⟩
    case round=>
     clear H;obtain ⟨k,A5,c5,dn,hk,rfl,rfl,hdl,hdn,H⟩:=hrel;by_cases hlt:k<m
     ·have hkI:(k:Int)<(m:Int):=by omega
      obtain ⟨x,hx⟩: ∃x,kp[k]?=some x:=⟨_,Qad (by rw [HM.out];exact hlt)⟩;obtain ⟨ad,A',c',e1,hcK,hxd⟩:=z31 hkd hx
      first|subst e1|(injection e1 with e1;subst e1)
      have hc:=H.sat.cell hcK;have hxl:=HM2.out x (Qaf hx);have hj:=x93 hx;rw [←hdn.out] at hj
      have hdl2:dn.length≤16000004000000:=by omega
      have HDL:=hide hdl;clear hx hdn hdl;by_cases hk0:k=0
      ·subst hk0;rw [if_pos rfl,List.nil_append] at hj;have HJ:=hide hj.symm;rw [show ad.add 0=ad by unfold Addr.add;simp] at hc;clear hj
       go_wp2_with (first|(refine oR (ls:=y25 x) H ?_ (hlen:=by rw [z0l,Nat.mul_one]);clear H hc;intro us A6 c6 w hus _ _ _ H;obtain rfl:=y8m hus;clear hus;dsimp only [List.set] at H))
       go_roundw
       case rel=>exact ⟨0+1,_,_,dn++x,by omega,by rw [Qae],by go_num,by have:=HDL.out;rw [Qae];omega,HJ.out,by rw [Qae];simpa [rv] using H⟩
       case measure=>simp [intOf];omega
      ·rw [if_neg hk0] at hj;have HJ:=hide hj.symm
       have hkP:(0:Int)<(k:Int):=by omega
       clear hj
       go_wp2_with (first|(refine oP H ?_;clear H;intro w g1 H)|(refine oQ H ?_;clear H;intro A6 c6 w _ _ H;dsimp only [List.set] at H;have hc:=H.sat.cell hcK)|(refine oR (ls:=y25 x) H ?_ (hlen:=by rw [z0l,Nat.mul_one]);clear H hc;intro us A6 c6 w hus _ _ _ H;obtain rfl:=y8m hus;clear hus;dsimp only [List.set] at H))
       have hlen:(dn++([10]++x)).length=dn.length+1+x.length:=by simp;omega
       go_roundw
       case rel=>exact ⟨k+1,_,_,dn++([10]++x),by omega,by rw [hlen],by go_num,by have:=HDL.out;rw [hlen];omega,HJ.out,by rw [hlen];simpa [rv] using H⟩
       case measure=>simp [intOf];omega
     ·have hkI: ¬(k:Int)<(m:Int):=by omega
      obtain rfl:k=m:=by omega
      have hd2:=hdn.out;rw [Qaj (by rw [HM.out];exact Qab _)] at hd2;subst hd2
      have hdl2:(z3f kp).length≤16000008000001:=by omega
      have hrow:=Rd.of_own (show World.ownsRow _ 0 _ _ _ _ _ from H.ok _ (Qaz ..));have hcall:=y41 A5 _ c5 _ (z3f kp) _ hrow (Qab _) rfl (by omega)
      go_wp2_with (first|(refine hcall.mono ?_;rintro e w2 ⟨rfl,hb2⟩))
      go_ret2
      exact ⟨rfl,(H.below hb2).bel⟩
end
end Go.Proofs.YtbpgkkoeehopjaaGreat.hp
namespace Go.Proofs.YtbpgkkoeehopjaaGreat.gram
open Go.RowKit words enc tree
theorem x6o:(Tryz.prog.info? 27).map (fun i=>(i.zero,i.size,i.bytes))=some (some (.slice none 0 0),1,24):=by kernel_rfl
theorem x94:(Tryz.prog.info? 199).map (fun i=>(i.zero,i.size,i.bytes))=some (some (.agg #[.string ⟨#[]⟩,.slice none 0 0]),2,40):=by kernel_rfl
theorem x95 {b:ByteArray} {A:Option Addr} {n c:Nat}: ∀u∈[Value.string b,Value.slice A n c],u.oneCell'=true:=fun u hu=>by simp at hu;rcases hu with rfl|rfl<;>rfl
theorem y3n {A:Option Addr} {n c:Nat}: ∀u∈[Value.slice A n c],u.oneCell'=true:=fun u hu=>by simp at hu;subst hu;rfl
def z33:List Txt→List (List Txt)→List Txt→List (List Txt)
 |[],done,cur=>done++[cur]
 |x::r,done,cur=>if x=[47] then z33 r (done++[cur]) [] else if x=[45] then z33 r done cur else z33 r done (cur++[x])
def z19 (l:Txt):RuleD:=⟨(y3w l).headD [],z33 ((y3w l).drop 2) [] []⟩
theorem q4z {l:List Txt} {k:Nat} {x:Txt} {done:List (List Txt)} {cur:List Txt} {F:List (List Txt)} (h:z33 (l.drop k) done cur=F) (hk:l[k]?=some x):
  z33 (l.drop (k+1)) (if x=[47] then done++[cur] else done) (if x=[47] then [] else if x=[45] then cur else cur++[x])=F:=by
 obtain ⟨hk',rfl⟩:=Qac.1 hk;rw [Qa1 hk',z33] at h;by_cases h1:l[k]=[47]
 ·rw [if_pos h1] at h;rw [if_pos h1,if_pos h1];exact h
 ·rw [if_neg h1] at h;rw [if_neg h1,if_neg h1];by_cases h2:l[k]=[45]
  ·rw [if_pos h2] at h;rw [if_pos h2];exact h
  ·rw [if_neg h2] at h;rw [if_neg h2];exact h
theorem y8n {w:World} {S:Nat→Prop}: ∀(l:List Txt),ReadsL w S (strL l) (l.map fun x=>Value.string (str x))
 |[]=>ReadsL.nil
 |b::l=>ReadsL.cons (y1z rfl) (y8n l)
set_option maxRecDepth 100000 in
set_option maxHeartbeats 8000000 in
theorem z89 (B:Nat) (lines:List Txt) (A:Option Addr) (n c:Nat) (w:World) (hl:Reads w (Lo B) (.list lines.length (strL lines)) (.slice A n c)) (hB:B≤w.heap.size) (hok: ∀l∈lines,l.length≤1000∧y3w l≠[]) (hn:lines.length≤1000):
  Calls Tryz.prog 97 #[.slice A n c] w fun e w'=>∃v,e= .returned v∧Reads w' (Lo w'.heap.size) (.list lines.length (y3x (lines.map z19))) v∧Below w.heap.size w w':=by
 obtain ⟨i0,hi0,hz0,hz1,hz2⟩:=info_parts z6u;obtain ⟨i1,hi1,hz3,hz4,hz5⟩:=info_parts x6o;obtain ⟨i2,hi2,hz6,hz7,hz8⟩:=info_parts x94;obtain ⟨A',c',us,he,hnl,hcl,hul,hud⟩:=y0k hl;injection he with e1 e2 e3;subst e1 e2 e3;have KL:Hid (∀w',Below w.heap.size w w'→ReadsL w' (Lo B) (strL lines) us∧RdS w' (Lo B) A us):=fun w' hb=>⟨ReadsL.keep (fun _ h=>h) (fun p hp=>hb.cell (Qap hp hB)) _ _ hul,hud.keep (fun _ h=>h) (fun p hp=>hb.cell (Qap hp hB))⟩;obtain ⟨n,hnn⟩: ∃n,lines.length=n:=⟨_,rfl⟩;rw [hnn] at hnl hn ⊢;have HN:=hide hnn;have HOK:=hide hok;clear hl hul hud hnn hok;go_enter Tryz.func97,Tryz.ntmps97
 go_wp2_with fail
 go_loopw [3,4] (fun vo i wr=>∃(k:Nat) (vs:List Value),k≤n∧i= .int .i64 k∧RowT wr (Lo wr.heap.size) w.heap.size 199 2 vo k (y3x ((lines.take k).map z19)) vs∧Below w.heap.size w wr) (fun _ i _=>n - (intOf i).toNat)
 case atStart=>exact ⟨0,[],Qak _,rfl,RowT.nil (fun _ h=>h),Below.refl _ _⟩
 case round=>
  obtain ⟨k,vs,hk,rfl,hrow,hb⟩:=hrel;obtain ⟨Ao,co,rfl,_,hco⟩:=y0e hrow.own;by_cases hlt:k<n
  ·have hkI:(k:Int)<(n:Int):=by omega
   obtain ⟨line,hline⟩: ∃x,lines[k]?=some x:=⟨_,Qad (by rw [HN.out];exact hlt)⟩;obtain ⟨hln,hlw⟩:=HOK.out line (Qaf hline);obtain ⟨hul,hud⟩:=KL.out _ hb;obtain ⟨ad,rfl,hcx⟩:=z11 hul hud hline;have HLI:=hide hline;have HLW:=hide hlw;clear hul hud hline hlw
   go_wp2_with fail
   refine (z28 line _ (by omega)).mono ?_;rintro e w2 ⟨v2,vs2,rfl,hrow2,hb2⟩;obtain ⟨ws,hws⟩: ∃ws,y3w line=ws:=⟨_,rfl⟩;have hws1:=(y94 line (line.length+1)).2
   have hws2:ws.length≤1001:=by rw [←hws];unfold y3w;omega
   have hws0:ws≠[]:=by rw [←hws];exact HLW.out
   have hro:z19 line=⟨ws.headD [],z33 (ws.drop 2) [] []⟩:=by unfold z19;rw [hws]
   rw [hws] at hrow2;obtain ⟨A2,c2,rfl,_,hc2⟩:=y0e hrow2.own;obtain ⟨x0,hx0⟩: ∃x,ws[0]?=some x:=⟨_,Qad (Qbt.2 hws0)⟩
   have hhd:ws.headD []=x0:=by cases ws with|nil=>exact absurd rfl hws0|cons a b=>simpa using hx0
   rw [hhd] at hro;have hread2:=hrow2.list;obtain ⟨A',c',us2,he,_,_,hul2,hud2⟩:=y0k hread2;injection he with e1 e2 e3;subst e1 e3;obtain ⟨ad2,rfl,hc0⟩:=z11 hul2 hud2 hx0;rw [show ad2.add 0=ad2 by unfold Addr.add;simp] at hc0;have hrowo:=hrow.below hb2;have hB2:=hb.trans (hb2.mono hb.size);have KW:Hid (∀w',Below w2.heap.size w2 w'→ReadsL w' (Lo w2.heap.size) (strL ws) us2∧RdS w' (Lo w2.heap.size) (some ad2) us2):=fun w' hb=>⟨ReadsL.keep (fun _ h=>h) (fun p hp=>hb.cell hp) _ _ hul2,hud2.keep (fun _ h=>h) (fun p hp=>hb.cell hp)⟩;obtain ⟨nw,hnw⟩: ∃m,ws.length=m:=⟨_,rfl⟩;rw [hnw] at hws2;rw [hnw]
   have hnw1:1≤nw:=by rw [←hnw];exact Qbt.2 hws0
   have HNW:=hide hnw;have HRO:=hide hro;clear hul2 hud2 hread2 hrow2 hws hws0 hx0 hhd hnw hro hrow hws1 e2
   go_wp2_with fail
   have hrb:(w2.alloc (.cells #[.string (str x0),.slice none 0 0] 199)).heap[w2.heap.size]?=some (.cells #[.string (str x0),.slice none 0 0] 199 (0,0)):=heap_alloc_new w2 _;have hb3:Below w2.heap.size w2 (w2.alloc (.cells #[.string (str x0),.slice none 0 0] 199)):=(Below.refl _ _).alloc (Qab _) _
   have hz3:(w2.alloc (.cells #[.string (str x0),.slice none 0 0] 199)).heap.size=w2.heap.size+1:=by simp
   generalize w2.alloc (.cells #[.string (str x0),.slice none 0 0] 199)=w3 at hrb hb3 hz3 ⊢;obtain ⟨g,hg⟩: ∃g,w2.heap.size=g:=⟨_,rfl⟩
   have hgw:w.heap.size≤g:=by rw [←hg];exact hB2.size
   rw [hg] at hrb hz3 ⊢
   go_loopw [7,8] (fun vc j wr=>∃(t:Nat) (done:List (List Txt)) (cur:List Txt) (T:Nat) (vch:Value) (vs1:List Value),j= .int .i64 t∧2≤t∧Hid (z33 (ws.drop t) done cur=z33 (ws.drop 2) [] [])∧Hid (done.length≤t∧cur.length≤t∧t≤1003)∧
    wr.heap[g]?=some (.cells #[.string (str x0),vch] 199 (0,0))∧RowT wr (fun b=>g<b∧b<T) (g+1) 27 1 vch done.length (chL done) vs1∧wr.ownsRow T 9 1 vc cur.length (cur.map fun x=>Value.string (str x))∧Hid (g<T∧T≤wr.heap.size)∧Below w2.heap.size w2 wr) (fun _ j _=>nw - (intOf j).toNat)
   case atStart=>exact ⟨2,[],[],g+1,.slice none 0 0,[],rfl,Qab _,rfl,⟨by simp,by simp,by omega⟩,hrb,RowT.nil (fun b h=>by omega),World.ownsRow_nil _ _ _ _,⟨by omega,by rw [hz3];exact Qab _⟩,hb3⟩
   case round=>
    clear hrb hb3 hz3;obtain ⟨t,done,cur,T,vch,vs1,rfl,ht2,hF,hlen,hrb,hch,hown,hT,hb3⟩:=hrel;obtain ⟨Ac,cc,rfl,_,_⟩:=y0e hch.own;obtain ⟨Av,cv,rfl,_,_⟩:=y0e hown;have hgl:g<wr.heap.size:=(Qan.1 hrb).1;have r0:wr.cell? ⟨g,0,none⟩=some (.string (str x0)):=cell_of_row wr g 0 _ _ (0,0) hrb;have r1:wr.cell? ⟨g,1,none⟩=some (.slice Ac done.length cc):=cell_of_row wr g 1 _ _ (0,0) hrb;have f1:=frozen_of_row wr g 1 _ _ hrb;have hbs3:=hb3.size;have hlen1:=hlen.out.1;have hlen2:=hlen.out.2.1;have hlen3:=hlen.out.2.2;by_cases hlt2:t<nw
    ·have htI:(t:Int)<(nw:Int):=by omega
     obtain ⟨x,hx⟩: ∃x,ws[t]?=some x:=⟨_,Qad (by rw [HNW.out];exact hlt2)⟩;obtain ⟨hul2,hud2⟩:=KW.out _ hb3;obtain ⟨ad',e1,hcs⟩:=z11 hul2 hud2 hx;injection e1 with e1;subst e1;have hnext:=q4z hF.out hx;have q1:=y0m x [47];have q2:=y0m x [45];by_cases hsl:x=[47]
     ·subst hsl;rw [if_pos rfl,if_pos rfl] at hnext;have HNX:=hide hnext;rw [Qa5 rfl] at q1;clear hnext hul2 hud2 hx q2
      go_wp2_with (at_builtin;refine y0b _ rfl _ _ 197 rfl (g+1) 27 i1 (.slice none 0 0) 1 24 Tryz.underlying197 hi1 hz3 hz4 hz5 rfl (by decide) _ _ _ rfl (hch.own.alloc _) _ _ 1 1 [_] rfl (by rfl) (y3f _ [_] _ (Qaw _)) y3n (by simp only [maxLen];omega) (by omega) (by simp;omega) ?_)
      intro v5 w5 hown5 hg5 hat5;obtain ⟨A5,c5,rfl,_,_⟩:=y0e hown5;have hnb:(Value.slice Ac done.length cc).ownBlock≠some g:=y7y hch.own hrb (by decide);have hnt:=y23 hown hch.own (by decide)
      have hrl:Reads wr (fun b=>(g<b∧b<wr.heap.size)∧(Value.slice Ac done.length cc).ownBlock≠some b) (.list cur.length (strL cur)) (.slice Av cur.length cv):=y2k hown (y8n cur) (fun b hb=>by
       refine ⟨⟨by have:=(hown.lt b hb).1;have:=hT.out.1;omega,(hown.lt b hb).2⟩,?_⟩;rcases hnt with h|h
       ·rw [hb] at h;cases h
       ·rw [←hb];exact fun e=>h e.symm)
      have hrl2:ReadsL (wr.alloc (.cells #[.slice Av cur.length cv] 27)) (fun b=>(g<b∧b<wr.heap.size)∧(Value.slice Ac done.length cc).ownBlock≠some b) [.list cur.length (strL cur)] [.slice Av cur.length cv]:=
       ReadsL.cons (Reads.keep (fun _ h=>h) (fun p hp=>World.cell?_alloc_lt wr _ p hp.1.2) _ _ hrl) ReadsL.nil
      have hch2:=(hch.lift (S':=fun b=>g<b∧b<wr.heap.size) (fun b h=>⟨h.1,Qap h.2 hT.out.2⟩) (fun b h=>h.2)).alloc (.cells #[.slice Av cur.length cv] 27);have hch5:=hch2.push hown5 hg5 (hat5.imp id fun e=>e.trans (by simp)) hrl2
      have hrb5:w5.heap[g]?=some (.cells #[.string (str x0),.slice Ac done.length cc] 199 (0,0)):=by
       rw [hg5.block g (by simp;omega) (fun e=>hnb e.symm),Below.heap_alloc _ _ _ hgl];exact hrb
      have s1:w5.cell? ⟨g,1,none⟩=some (.slice Ac done.length cc):=cell_of_row w5 g 1 _ _ (0,0) hrb5;have f5:=frozen_of_row w5 g 1 _ _ hrb5;have hb5:=y0d (hb3.alloc hbs3 _) (hch.own.alloc _) (by omega) hg5 (Qah hbs3 (by simp));have hg5s:=hg5.size;rw [World.size_alloc] at hg5s;have hnb5:(Value.slice A5 (done.length+1) c5).ownBlock≠some g:=y7y hown5 hrb5 (by decide);have hch6:=hch5.other (y6v w5 ⟨g,1,none⟩ (.slice A5 (done.length+1) c5)) (fun b e=>by injection e with e;have e:g=b:=e;omega) (.inr hnb5);have hrb6:=heap_setCell_same w5 g 1 _ _ (.slice A5 (done.length+1) c5) hrb5;have hb6:=hb5.setCell (show w2.heap.size≤(⟨g,1,none⟩:Addr).block by rw [hg];exact Qab _) (.slice A5 (done.length+1) c5)
      have hch7:RowT (w5.setCell ⟨g,1,none⟩ (.slice A5 (done.length+1) c5)) (fun b=>g<b∧b<w5.heap.size) (g+1) 27 1 (.slice A5 (done.length+1) c5) (done++[cur]).length (chL (done++[cur])) (vs1++[.slice Av cur.length cv]):=by
       rw [Qae,x8j];exact hch6.lift (fun b h=>⟨h.1,by omega⟩) (fun b h=>by simpa [World.setCell] using h.2)
      go_wp2_with fail
      go_roundw
      case rel=>exact ⟨t+1,done++[cur],[],w5.heap.size,_,_,by go_num,by omega,HNX,⟨by simp;omega,by simp,by omega⟩,hrb6,hch7,World.ownsRow_nil _ _ _ _,⟨by omega,by simp [World.setCell]⟩,hb6⟩
      case measure=>simp [intOf];omega
     ·rw [if_neg hsl,if_neg hsl] at hnext;rw [Qa4 hsl] at q1;by_cases hda:x=[45]
      ·rw [if_pos hda] at hnext;rw [Qa5 hda] at q2;have HNX:=hide hnext;clear hnext hul2 hud2 hx hsl hda
       go_wp2_with fail
       go_roundw
       case rel=>exact ⟨t+1,done,cur,T,_,vs1,by go_num,by omega,HNX,⟨by omega,by omega,by omega⟩,hrb,hch,hown,hT,hb3⟩
       case measure=>simp [intOf];omega
      ·rw [if_neg hda] at hnext;rw [Qa4 hda] at q2;have HNX:=hide hnext;clear hnext hul2 hud2 hx hsl hda;have hT1:=hT.out.1;have hT2:=hT.out.2
       go_wp2_with (at_builtin;refine y0b _ rfl _ _ 27 rfl T 9 i0 (.string ⟨#[]⟩) 1 16 Tryz.underlying27 hi0 hz0 hz1 hz2 rfl (by decide) _ _ _ rfl (hown.alloc _) _ _ 1 1 [_] rfl (by rfl) (y3f _ [_] _ (Qaw _)) z6v (by simp only [maxLen];omega) (by omega) (by simp;omega) ?_)
       intro v5 w5 hown5 hg5 hat5;have hnt:=y23 hch.own hown (by decide)
       have hrb5:w5.heap[g]?=some (.cells #[.string (str x0),.slice Ac done.length cc] 199 (0,0)):=by
        rw [hg5.block g (by simp;omega) (fun e=>y7y hown hrb (by decide) e.symm),Below.heap_alloc _ _ _ hgl];exact hrb
       have hch5:=(hch.alloc (.cells #[.string (str x)] 9)).other hg5 (fun b e=>by have:=(hown.lt b e).1;omega) hnt;have hb5:=y0d (hb3.alloc hbs3 _) (hown.alloc _) (by omega) hg5 (Qah hbs3 (by simp));have hg5s:=hg5.size;rw [World.size_alloc] at hg5s
       have hown6:w5.ownsRow T 9 1 v5 (cur++[x]).length ((cur++[x]).map fun x=>Value.string (str x)):=by
        rw [Qae,Qas];exact hown5
       go_wp2_with fail
       go_roundw
       case rel=>exact ⟨t+1,done,cur++[x],T,_,vs1,by go_num,by omega,HNX,⟨by omega,by simp;omega,by omega⟩,hrb5,hch5,hown6,⟨hT1,by omega⟩,hb5⟩
       case measure=>simp [intOf];omega
    ·have hfin:z33 (ws.drop 2) [] []=done++[cur]:=by
      rw [←hF.out,Qbo (by rw [HNW.out];omega)];rfl
     have HFI:=hide hfin;clear hfin
     go_wp2_with (at_builtin;refine y0b _ rfl _ _ 197 rfl (g+1) 27 i1 (.slice none 0 0) 1 24 Tryz.underlying197 hi1 hz3 hz4 hz5 rfl (by decide) _ _ _ rfl (hch.own.alloc _) _ _ 1 1 [_] rfl (by rfl) (y3f _ [_] _ (Qaw _)) y3n (by simp only [maxLen];omega) (by omega) (by simp;omega) ?_)
     intro v5 w5 hown5 hg5 hat5;obtain ⟨A5,c5,rfl,_,_⟩:=y0e hown5;have hnb:(Value.slice Ac done.length cc).ownBlock≠some g:=y7y hch.own hrb (by decide);have hnt:=y23 hown hch.own (by decide)
     have hrl:Reads wr (fun b=>(g<b∧b<wr.heap.size)∧(Value.slice Ac done.length cc).ownBlock≠some b) (.list cur.length (strL cur)) (.slice Av cur.length cv):=y2k hown (y8n cur) (fun b hb=>by
      refine ⟨⟨by have:=(hown.lt b hb).1;have:=hT.out.1;omega,(hown.lt b hb).2⟩,?_⟩;rcases hnt with h|h
      ·rw [hb] at h;cases h
      ·rw [←hb];exact fun e=>h e.symm)
     have hrl2:ReadsL (wr.alloc (.cells #[.slice Av cur.length cv] 27)) (fun b=>(g<b∧b<wr.heap.size)∧(Value.slice Ac done.length cc).ownBlock≠some b) [.list cur.length (strL cur)] [.slice Av cur.length cv]:=
      ReadsL.cons (Reads.keep (fun _ h=>h) (fun p hp=>World.cell?_alloc_lt wr _ p hp.1.2) _ _ hrl) ReadsL.nil
     have hch2:=(hch.lift (S':=fun b=>g<b∧b<wr.heap.size) (fun b h=>⟨h.1,Qap h.2 hT.out.2⟩) (fun b h=>h.2)).alloc (.cells #[.slice Av cur.length cv] 27);have hch5:=hch2.push hown5 hg5 (hat5.imp id fun e=>e.trans (by simp)) hrl2
     have hrb5:w5.heap[g]?=some (.cells #[.string (str x0),.slice Ac done.length cc] 199 (0,0)):=by
      rw [hg5.block g (by simp;omega) (fun e=>hnb e.symm),Below.heap_alloc _ _ _ hgl];exact hrb
     have s1:w5.cell? ⟨g,1,none⟩=some (.slice Ac done.length cc):=cell_of_row w5 g 1 _ _ (0,0) hrb5;have f5:=frozen_of_row w5 g 1 _ _ hrb5;have hb5:=y0d (hb3.alloc hbs3 _) (hch.own.alloc _) (by omega) hg5 (Qah hbs3 (by simp));have hg5s:=hg5.size;rw [World.size_alloc] at hg5s;have hnb5:(Value.slice A5 (done.length+1) c5).ownBlock≠some g:=y7y hown5 hrb5 (by decide);have hch6:=hch5.other (y6v w5 ⟨g,1,none⟩ (.slice A5 (done.length+1) c5)) (fun b e=>by injection e with e;have e:g=b:=e;omega) (.inr hnb5);have hrb6:=heap_setCell_same w5 g 1 _ _ (.slice A5 (done.length+1) c5) hrb5;have hb6:=hb5.setCell (show w2.heap.size≤(⟨g,1,none⟩:Addr).block by rw [hg];exact Qab _) (.slice A5 (done.length+1) c5)
     have hch7:RowT (w5.setCell ⟨g,1,none⟩ (.slice A5 (done.length+1) c5)) (fun b=>g<b∧b<w5.heap.size) (g+1) 27 1 (.slice A5 (done.length+1) c5) (done++[cur]).length (chL (done++[cur])) (vs1++[.slice Av cur.length cv]):=by
      rw [Qae,x8j];exact hch6.lift (fun b h=>⟨h.1,by omega⟩) (fun b h=>by simpa [World.setCell] using h.2)
     have hrowo6:=hrowo.below hb6;have hB6:=hB2.trans (hb6.mono hB2.size);obtain ⟨w6,hw6⟩: ∃w6,w5.setCell ⟨g,1,none⟩ (.slice A5 (done.length+1) c5)=w6:=⟨_,rfl⟩;rw [hw6] at hch7 hrb6 hb6 hrowo6 hB6;have z0:w6.cell? ⟨g,0,none⟩=some (.string (str x0)):=cell_of_row w6 g 0 _ _ (0,0) hrb6;have z1:w6.cell? ⟨g,1,none⟩=some (.slice A5 (done.length+1) c5):=cell_of_row w6 g 1 _ _ (0,0) hrb6
     have hos: ∀b,(Value.slice Ao k co).ownBlock=some b→b<g:=fun b hb=>by have:=(hrowo.own.lt b hb).2;omega
     have hz56:w5.heap.size=w6.heap.size:=by rw [←hw6];simp [World.setCell]
     have hch8:Reads w6 (fun b=>b<w6.heap.size∧(Value.slice Ao k co).ownBlock≠some b) (.list (done++[cur]).length (chL (done++[cur]))) (.slice A5 (done.length+1) c5):=by
      refine y2k hch7.own (ReadsL.keep (fun b hb=>⟨by have:=hb.1.2;omega,fun e=>by have:=hos b e;have:=hb.1.1;omega⟩) (fun _ _=>rfl) _ _ hch7.reads) (fun b hb=>⟨(hch7.own.lt b hb).2,fun e=>?_⟩);have h1:=hos b e;have h2:=(hch7.own.lt b hb).1;omega
     have hrd6:ReadsL (w6.alloc (.cells #[.string (str x0),.slice A5 (done.length+1) c5] 199)) (fun b=>b<w6.heap.size∧(Value.slice Ao k co).ownBlock≠some b) (x8k ⟨x0,done++[cur]⟩) [.string (str x0),.slice A5 (done.length+1) c5]:=
      ReadsL.cons (y1z rfl) (ReadsL.cons (Reads.keep (fun _ h=>h) (fun p hp=>World.cell?_alloc_lt w6 _ p hp.1) _ _ hch8) ReadsL.nil)
     have hrow8:=(hrowo6.lift (S':=Lo w6.heap.size) (fun b h=>hrowo6.le b h) (fun b h=>h)).alloc (.cells #[.string (str x0),.slice A5 (done.length+1) c5] 199);have hB6s:=hB6.size;clear hch5 hch6 hch2 hrl2 hrl hb5 hrb5 r0 r1 f1 hch hown
     go_wp2_with (at_builtin;refine y0b _ rfl _ _ 141 rfl w.heap.size 199 i2 (.agg #[.string ⟨#[]⟩,.slice none 0 0]) 2 40 Tryz.underlying141 hi2 hz6 hz7 hz8 rfl (by decide) _ _ _ rfl hrow8.own _ _ 1 1 [_,_] rfl (by rfl) (y3f _ [_,_] _ (Qaw _)) x95 (by simp only [maxLen];omega) (by omega) (by simp;omega) ?_)
     intro v9 w9 hown9 hg9 hat9;have hrow9:=hrow8.push hown9 hg9 (hat9.imp id fun e=>e.trans (by simp)) hrd6;have hb9:=y0d (hB6.alloc hB6s _) hrow8.own (Qab _) hg9 (Qah hB6s (by simp))
     have hrow10:RowT w9 (Lo w9.heap.size) w.heap.size 199 2 v9 (k+1) (y3x ((lines.take (k+1)).map z19)) (vs++[.string (str x0),.slice A5 (done.length+1) c5]):=by
      have e1:lines.take (k+1)=lines.take k++[line]:=by
       obtain ⟨hk',he'⟩:=Qac.1 HLI.out;rw [Qbk hk',he']
      have e2:y3x ((lines.take (k+1)).map z19)=y3x ((lines.take k).map z19)++x8k ⟨x0,done++[cur]⟩:=by
       rw [e1,Qas,y3x,Qbu];simp [y3x,HRO.out,HFI.out]
      rw [e2];exact hrow9.lift (fun b h=>hrow9.le b h) (fun b h=>h)
     go_wp2_with fail
     go_roundw
     case rel=>exact ⟨k+1,_,by omega,by go_num,hrow10,hb9⟩
     case measure=>simp [intOf];omega
  ·obtain rfl:k=n:=by omega
   rw [Qaj (by rw [HN.out];exact Qab _)] at hrow
   go_wp2_with fail
   go_ret;exact ⟨_,rfl,hrow.list,hb⟩
def z34:Code→List Txt
 | .region _ ops _=>ops.toList.flatMap fun o=>match o.op with
  | .buildSlice _ _ parts=>parts.toList.filterMap fun p=>match p.2 with
   | .const (.string s)=>some s.data.toList
   |_=>none
  |_=>[]
 | .seq a b=>z34 a++z34 b
 | .scope a=>z34 a
 | .block _ a=>z34 a
 |_=>[]
def y1t (f:Func):List Txt:=match f.body with
 |some c=>z34 c
 |none=>[]
set_option maxRecDepth 100000 in
set_option maxHeartbeats 4000000 in
theorem z35 (w:World):
  Calls Tryz.prog 98 #[] w fun e w'=>∃v,e= .returned v∧Reads w' (Lo w'.heap.size) (.list 52 (strL (y1t Tryz.f98))) v∧Below w.heap.size w w':=by
 go_enter Tryz.func98,Tryz.ntmps98
 go_wp2_with fail
 go_ret;refine ⟨_,rfl,?_,(Below.refl _ _).alloc (Qab _) _⟩;have hown:=fun (cs:Array Value) (hs:cs.size=52)=>World.ownsRow_lit (base:=w.heap.size) (e:=9) (size:=1) w cs 52 (Qab _) (by simp only [maxLen];omega) (by rw [hs]);refine y2k (hown _ (by kernel_rfl)) ?_ (fun b hb=>by injection hb with hb;subst hb;show _<_;simp);refine Eq.mp (congrArg (ReadsL _ _ _) ?_) (y8n (y1t Tryz.f98))
 kernel_rfl
end Go.Proofs.YtbpgkkoeehopjaaGreat.gram
namespace Go.Proofs.YtbpgkkoeehopjaaGreat.gram
open tree
set_option maxRecDepth 1000000
def linesG:List Txt:=[
 [68,79,67,32,61,32,68,69,70,32,68,69,70,83,32,46,101,110,100],
 [68,69,70,83,32,61,32,68,69,70,32,68,69,70,83,32,47,32,45],
 [68,69,70,32,61,32,46,115,116,114,32,66,79,68,89,32,47,32,66,79,68,89,32,47,32,39,101,120,116,101,110,100,32,88,66,79,68,89],
 [66,79,68,89,32,61,32,39,115,99,104,101,109,97,32,68,73,82,83,32,82,79,79,84,83,32,47,32,39,115,99,97,108,97,114,32,46,110,97,109,101,32,68,73,82,83,32,47,32,39,116,121,112,101,32,46,110,97,109,101,32,73,70,65,67,69,83,32,68,73,82,83,32,70,73,69,76,68,83,32,47,32,39,105,110,116,101,114,102,97,99,101,32,46,110,97,109,101,32,73,70,65,67,69,83,32,68,73,82,83,32,70,73,69,76,68,83,32,47,32,39,117,110,105,111,110,32,46,110,97,109,101,32,68,73,82,83,32,77,69,77,66,69,82,83,32,47,32,39,101,110,117,109,32,46,110,97,109,101,32,68,73,82,83,32,67,65,83,69,83,32,47,32,39,105,110,112,117,116,32,46,110,97,109,101,32,68,73,82,83,32,66,76,65,78,75,83,32,47,32,39,100,105,114,101,99,116,105,118,101,32,64,32,46,110,97,109,101,32,73,78,80,85,84,83,32,82,69,80,69,65,84,32,39,111,110,32,66,65,82,32,46,112,108,97,99,101,32,80,76,65,67,69,83],
 [88,66,79,68,89,32,61,32,39,115,99,104,101,109,97,32,88,83,67,72,69,77,65,32,47,32,39,115,99,97,108,97,114,32,46,110,97,109,101,32,68,73,82,32,68,73,82,83,32,47,32,39,116,121,112,101,32,46,110,97,109,101,32,88,79,66,74,69,67,84,32,47,32,39,105,110,116,101,114,102,97,99,101,32,46,110,97,109,101,32,88,79,66,74,69,67,84,32,47,32,39,117,110,105,111,110,32,46,110,97,109,101,32,88,85,78,73,79,78,32,47,32,39,101,110,117,109,32,46,110,97,109,101,32,88,69,78,85,77,32,47,32,39,105,110,112,117,116,32,46,110,97,109,101,32,88,73,78,80,85,84],
 [88,83,67,72,69,77,65,32,61,32,68,73,82,32,68,73,82,83,32,82,79,79,84,83,48,32,47,32,82,79,79,84,83],
 [82,79,79,84,83,48,32,61,32,82,79,79,84,83,32,47,32,45],
 [82,79,79,84,83,32,61,32,123,32,82,79,79,84,32,82,79,79,84,76,32,125],
 [82,79,79,84,76,32,61,32,82,79,79,84,32,82,79,79,84,76,32,47,32,45],
 [82,79,79,84,32,61,32,46,114,111,111,116,32,58,32,46,110,97,109,101],
 [88,79,66,74,69,67,84,32,61,32,73,70,65,67,69,83,49,32,68,73,82,83,32,70,73,69,76,68,83,32,47,32,68,73,82,32,68,73,82,83,32,70,73,69,76,68,83,32,47,32,70,73,69,76,68,83,49],
 [73,70,65,67,69,83,32,61,32,73,70,65,67,69,83,49,32,47,32,45],
 [73,70,65,67,69,83,49,32,61,32,39,105,109,112,108,101,109,101,110,116,115,32,65,77,80,32,46,110,97,109,101,32,73,70,65,67,69,76],
 [65,77,80,32,61,32,38,32,47,32,45],
 [73,70,65,67,69,76,32,61,32,38,32,46,110,97,109,101,32,73,70,65,67,69,76,32,47,32,45],
 [70,73,69,76,68,83,32,61,32,70,73,69,76,68,83,49,32,47,32,45],
 [70,73,69,76,68,83,49,32,61,32,123,32,70,73,69,76,68,32,70,73,69,76,68,76,32,125],
 [70,73,69,76,68,76,32,61,32,70,73,69,76,68,32,70,73,69,76,68,76,32,47,32,45],
 [70,73,69,76,68,32,61,32,46,115,116,114,32,70,73,69,76,68,48,32,47,32,70,73,69,76,68,48],
 [70,73,69,76,68,48,32,61,32,46,110,97,109,101,32,73,78,80,85,84,83,32,58,32,84,89,80,69,32,68,73,82,83],
 [73,78,80,85,84,83,32,61,32,40,32,86,65,76,85,69,32,86,65,76,85,69,76,32,41,32,47,32,45],
 [86,65,76,85,69,76,32,61,32,86,65,76,85,69,32,86,65,76,85,69,76,32,47,32,45],
 [86,65,76,85,69,32,61,32,46,115,116,114,32,86,65,76,85,69,48,32,47,32,86,65,76,85,69,48],
 [86,65,76,85,69,48,32,61,32,46,110,97,109,101,32,58,32,84,89,80,69,32,68,69,70,65,85,76,84,32,68,73,82,83],
 [68,69,70,65,85,76,84,32,61,32,61,32,76,73,84,32,47,32,45],
 [77,69,77,66,69,82,83,32,61,32,77,69,77,66,69,82,83,49,32,47,32,45],
 [77,69,77,66,69,82,83,49,32,61,32,61,32,66,65,82,32,46,110,97,109,101,32,77,69,77,66,69,82,76],
 [77,69,77,66,69,82,76,32,61,32,124,32,46,110,97,109,101,32,77,69,77,66,69,82,76,32,47,32,45],
 [66,65,82,32,61,32,124,32,47,32,45],
 [88,85,78,73,79,78,32,61,32,68,73,82,32,68,73,82,83,32,77,69,77,66,69,82,83,32,47,32,77,69,77,66,69,82,83,49],
 [67,65,83,69,83,32,61,32,67,65,83,69,83,49,32,47,32,45],
 [67,65,83,69,83,49,32,61,32,123,32,67,65,83,69,32,67,65,83,69,76,32,125],
 [67,65,83,69,76,32,61,32,67,65,83,69,32,67,65,83,69,76,32,47,32,45],
 [67,65,83,69,32,61,32,46,115,116,114,32,67,65,83,69,48,32,47,32,67,65,83,69,48],
 [67,65,83,69,48,32,61,32,46,99,97,115,101,32,68,73,82,83],
 [88,69,78,85,77,32,61,32,68,73,82,32,68,73,82,83,32,67,65,83,69,83,32,47,32,67,65,83,69,83,49],
 [66,76,65,78,75,83,32,61,32,66,76,65,78,75,83,49,32,47,32,45],
 [66,76,65,78,75,83,49,32,61,32,123,32,86,65,76,85,69,32,86,65,76,85,69,76,32,125],
 [88,73,78,80,85,84,32,61,32,68,73,82,32,68,73,82,83,32,66,76,65,78,75,83,32,47,32,66,76,65,78,75,83,49],
 [82,69,80,69,65,84,32,61,32,39,114,101,112,101,97,116,97,98,108,101,32,47,32,45],
 [80,76,65,67,69,83,32,61,32,124,32,46,112,108,97,99,101,32,80,76,65,67,69,83,32,47,32,45],
 [68,73,82,83,32,61,32,68,73,82,32,68,73,82,83,32,47,32,45],
 [68,73,82,32,61,32,64,32,46,110,97,109,101,32,65,82,71,83],
 [65,82,71,83,32,61,32,40,32,65,82,71,32,65,82,71,76,32,41,32,47,32,45],
 [65,82,71,76,32,61,32,65,82,71,32,65,82,71,76,32,47,32,45],
 [65,82,71,32,61,32,46,110,97,109,101,32,58,32,76,73,84],
 [76,73,84,32,61,32,46,110,97,109,101,32,47,32,46,115,116,114,32,47,32,46,110,117,109,32,47,32,91,32,76,73,84,76,32,93,32,47,32,123,32,79,66,74,76,32,125],
 [76,73,84,76,32,61,32,76,73,84,32,76,73,84,76,32,47,32,45],
 [79,66,74,76,32,61,32,46,110,97,109,101,32,58,32,76,73,84,32,79,66,74,76,32,47,32,45],
 [84,89,80,69,32,61,32,84,89,80,69,48,32,66,65,78,71],
 [84,89,80,69,48,32,61,32,46,110,97,109,101,32,47,32,91,32,84,89,80,69,32,93],
 [66,65,78,71,32,61,32,33,32,47,32,45]]
def rulesG:List RuleD:=[
 ⟨[68,79,67],[[[68,69,70],[68,69,70,83],[46,101,110,100]]]⟩,
 ⟨[68,69,70,83],[[[68,69,70],[68,69,70,83]],[]]⟩,
 ⟨[68,69,70],[[[46,115,116,114],[66,79,68,89]],[[66,79,68,89]],[[39,101,120,116,101,110,100],[88,66,79,68,89]]]⟩,
 ⟨[66,79,68,89],[[[39,115,99,104,101,109,97],[68,73,82,83],[82,79,79,84,83]],[[39,115,99,97,108,97,114],[46,110,97,109,101],[68,73,82,83]],[[39,116,121,112,101],[46,110,97,109,101],[73,70,65,67,69,83],[68,73,82,83],[70,73,69,76,68,83]],[[39,105,110,116,101,114,102,97,99,101],[46,110,97,109,101],[73,70,65,67,69,83],[68,73,82,83],[70,73,69,76,68,83]],[[39,117,110,105,111,110],[46,110,97,109,101],[68,73,82,83],[77,69,77,66,69,82,83]],[[39,101,110,117,109],[46,110,97,109,101],[68,73,82,83],[67,65,83,69,83]],[[39,105,110,112,117,116],[46,110,97,109,101],[68,73,82,83],[66,76,65,78,75,83]],[[39,100,105,114,101,99,116,105,118,101],[64],[46,110,97,109,101],[73,78,80,85,84,83],[82,69,80,69,65,84],[39,111,110],[66,65,82],[46,112,108,97,99,101],[80,76,65,67,69,83]]]⟩,
 ⟨[88,66,79,68,89],[[[39,115,99,104,101,109,97],[88,83,67,72,69,77,65]],[[39,115,99,97,108,97,114],[46,110,97,109,101],[68,73,82],[68,73,82,83]],[[39,116,121,112,101],[46,110,97,109,101],[88,79,66,74,69,67,84]],[[39,105,110,116,101,114,102,97,99,101],[46,110,97,109,101],[88,79,66,74,69,67,84]],[[39,117,110,105,111,110],[46,110,97,109,101],[88,85,78,73,79,78]],[[39,101,110,117,109],[46,110,97,109,101],[88,69,78,85,77]],[[39,105,110,112,117,116],[46,110,97,109,101],[88,73,78,80,85,84]]]⟩,
 ⟨[88,83,67,72,69,77,65],[[[68,73,82],[68,73,82,83],[82,79,79,84,83,48]],[[82,79,79,84,83]]]⟩,
 ⟨[82,79,79,84,83,48],[[[82,79,79,84,83]],[]]⟩,
 ⟨[82,79,79,84,83],[[[123],[82,79,79,84],[82,79,79,84,76],[125]]]⟩,
 ⟨[82,79,79,84,76],[[[82,79,79,84],[82,79,79,84,76]],[]]⟩,
 ⟨[82,79,79,84],[[[46,114,111,111,116],[58],[46,110,97,109,101]]]⟩,
 ⟨[88,79,66,74,69,67,84],[[[73,70,65,67,69,83,49],[68,73,82,83],[70,73,69,76,68,83]],[[68,73,82],[68,73,82,83],[70,73,69,76,68,83]],[[70,73,69,76,68,83,49]]]⟩,
 ⟨[73,70,65,67,69,83],[[[73,70,65,67,69,83,49]],[]]⟩,
 ⟨[73,70,65,67,69,83,49],[[[39,105,109,112,108,101,109,101,110,116,115],[65,77,80],[46,110,97,109,101],[73,70,65,67,69,76]]]⟩,
 ⟨[65,77,80],[[[38]],[]]⟩,
 ⟨[73,70,65,67,69,76],[[[38],[46,110,97,109,101],[73,70,65,67,69,76]],[]]⟩,
 ⟨[70,73,69,76,68,83],[[[70,73,69,76,68,83,49]],[]]⟩,
 ⟨[70,73,69,76,68,83,49],[[[123],[70,73,69,76,68],[70,73,69,76,68,76],[125]]]⟩,
 ⟨[70,73,69,76,68,76],[[[70,73,69,76,68],[70,73,69,76,68,76]],[]]⟩,
 ⟨[70,73,69,76,68],[[[46,115,116,114],[70,73,69,76,68,48]],[[70,73,69,76,68,48]]]⟩,
 ⟨[70,73,69,76,68,48],[[[46,110,97,109,101],[73,78,80,85,84,83],[58],[84,89,80,69],[68,73,82,83]]]⟩,
 ⟨[73,78,80,85,84,83],[[[40],[86,65,76,85,69],[86,65,76,85,69,76],[41]],[]]⟩,
 ⟨[86,65,76,85,69,76],[[[86,65,76,85,69],[86,65,76,85,69,76]],[]]⟩,
 ⟨[86,65,76,85,69],[[[46,115,116,114],[86,65,76,85,69,48]],[[86,65,76,85,69,48]]]⟩,
 ⟨[86,65,76,85,69,48],[[[46,110,97,109,101],[58],[84,89,80,69],[68,69,70,65,85,76,84],[68,73,82,83]]]⟩,
 ⟨[68,69,70,65,85,76,84],[[[61],[76,73,84]],[]]⟩,
 ⟨[77,69,77,66,69,82,83],[[[77,69,77,66,69,82,83,49]],[]]⟩,
 ⟨[77,69,77,66,69,82,83,49],[[[61],[66,65,82],[46,110,97,109,101],[77,69,77,66,69,82,76]]]⟩,
 ⟨[77,69,77,66,69,82,76],[[[124],[46,110,97,109,101],[77,69,77,66,69,82,76]],[]]⟩,
 ⟨[66,65,82],[[[124]],[]]⟩,
 ⟨[88,85,78,73,79,78],[[[68,73,82],[68,73,82,83],[77,69,77,66,69,82,83]],[[77,69,77,66,69,82,83,49]]]⟩,
 ⟨[67,65,83,69,83],[[[67,65,83,69,83,49]],[]]⟩,
 ⟨[67,65,83,69,83,49],[[[123],[67,65,83,69],[67,65,83,69,76],[125]]]⟩,
 ⟨[67,65,83,69,76],[[[67,65,83,69],[67,65,83,69,76]],[]]⟩,
 ⟨[67,65,83,69],[[[46,115,116,114],[67,65,83,69,48]],[[67,65,83,69,48]]]⟩,
 ⟨[67,65,83,69,48],[[[46,99,97,115,101],[68,73,82,83]]]⟩,
 ⟨[88,69,78,85,77],[[[68,73,82],[68,73,82,83],[67,65,83,69,83]],[[67,65,83,69,83,49]]]⟩,
 ⟨[66,76,65,78,75,83],[[[66,76,65,78,75,83,49]],[]]⟩,
 ⟨[66,76,65,78,75,83,49],[[[123],[86,65,76,85,69],[86,65,76,85,69,76],[125]]]⟩,
 ⟨[88,73,78,80,85,84],[[[68,73,82],[68,73,82,83],[66,76,65,78,75,83]],[[66,76,65,78,75,83,49]]]⟩,
 ⟨[82,69,80,69,65,84],[[[39,114,101,112,101,97,116,97,98,108,101]],[]]⟩,
 ⟨[80,76,65,67,69,83],[[[124],[46,112,108,97,99,101],[80,76,65,67,69,83]],[]]⟩,
 ⟨[68,73,82,83],[[[68,73,82],[68,73,82,83]],[]]⟩,
 ⟨[68,73,82],[[[64],[46,110,97,109,101],[65,82,71,83]]]⟩,
 ⟨[65,82,71,83],[[[40],[65,82,71],[65,82,71,76],[41]],[]]⟩,
 ⟨[65,82,71,76],[[[65,82,71],[65,82,71,76]],[]]⟩,
 ⟨[65,82,71],[[[46,110,97,109,101],[58],[76,73,84]]]⟩,
 ⟨[76,73,84],[[[46,110,97,109,101]],[[46,115,116,114]],[[46,110,117,109]],[[91],[76,73,84,76],[93]],[[123],[79,66,74,76],[125]]]⟩,
 ⟨[76,73,84,76],[[[76,73,84],[76,73,84,76]],[]]⟩,
 ⟨[79,66,74,76],[[[46,110,97,109,101],[58],[76,73,84],[79,66,74,76]],[]]⟩,
 ⟨[84,89,80,69],[[[84,89,80,69,48],[66,65,78,71]]]⟩,
 ⟨[84,89,80,69,48],[[[46,110,97,109,101]],[[91],[84,89,80,69],[93]]]⟩,
 ⟨[66,65,78,71],[[[33]],[]]⟩]
theorem x31:y1t Tryz.f98=linesG:=by kernel_rfl
theorem x32:linesG.map z19=rulesG:=by kernel_rfl
theorem x33: ∀l∈linesG,l.length≤1000∧y3w l≠[]:=by decide+kernel
end Go.Proofs.YtbpgkkoeehopjaaGreat.gram
namespace Go.Proofs.YtbpgkkoeehopjaaGreat.hp
open Go.RowKit words enc tree gram lex rd dec dat held
set_option maxRecDepth 100000
set_option maxHeartbeats 40000000
attribute [local go_sem ↓] Go.wp_at_zero Go.wp_at_succ
section
variable {w0 w K : World} {M : List Ent}
theorem Hp.fresh1 {w':World} (H:Hp w0 w K M) (hb:Below w.heap.size w w') {t:Leaf} {v:Value} (hd:Reads w' (fun b=>w.heap.size≤b∧b<w'.heap.size) t v): ∃K',Sat K' K∧Hp w0 w' K' M∧RD K' t v:=by
 obtain ⟨K',h1,h2,h3,h4⟩:=H.fresh hb;have h5:RL K' [t] [v]:=h4 [t] [v] ⟨ReadsL.cons hd ReadsL.nil,Qab _⟩;have h6:=h5.reads;simp only [ReadsL] at h6;obtain ⟨v2,r,e,h7,_⟩:=h6;injection e with e1 e2;subst e1;exact ⟨K',h1,h2,⟨h7,Qab _⟩⟩
theorem Rd.sat {w K:World} {B:Nat} {A:Option Addr} {xs:List Value} (h:Rd K B A xs) (hB:B≤K.heap.size) (hs:Sat w K):Rd w w.heap.size A xs:=fun hn=>by
 obtain ⟨ad,e,hb,hc⟩:=h hn;exact ⟨ad,e,Qap hb (Qah hB hs.size),fun j u hu=>hs.cell (hc j u hu)⟩
theorem RD.lo {t:Leaf} {v:Value} (h:RD K t v) (H:Hp w0 w K M):Reads w (Lo w.heap.size) t v:=(Dat.sat h H.sat).reads.keep (fun b hb=>hb.2) (fun _ _=>rfl)
theorem q40 {A:Option Addr} {n c:Nat} {src:List UInt8} (H:Hp w0 w K M) (hr:Rd K K.heap.size A (Lib.byteCells src)) (hn:src.length=n) (hnc:n≤c) (hcm:c≤maxLen) (h63:n≤2200000)
  {toks:List TokD} (ht:y1n src=some toks) (hnl:toks.length≤3000000) {nf bf fr:Nat} (hfr:fr≤1000000000) (hrun:runF rulesG nf bf toks 200 fr [[68,79,67]] 0 0=some (0,0,0))
  {L:Nat} (hL:L≤3000000) {f:Nat} {defs:List DefD} (hdefs:y1f toks L f L 0=some defs):
  Calls Tryz.prog 55 #[.slice A n c,.int .i64 200] w fun e w'=>∃K' A' c',e= .returned (.tuple #[.slice A' defs.length c',.agg #[.int .i64 0,.slice none 0 0,.slice none 0 0]])∧Sat K' K∧Hp w0 w' K' M∧RD K' (.list defs.length (y0r defs)) (.slice A' defs.length c'):=by
 have HD:=hide hdefs;have HRUN:=hide hrun;have HT:=hide ht;have hgram:=fun w=>z35 w;rw [x31] at hgram;clear hdefs hrun ht;go_enter Tryz.func55,Tryz.ntmps55
 go_upto_region 5 with (first|(refine oA 5 H ?_;clear H;intro w gz H)|(refine oL H ?_)|(refine oP H ?_;clear H;intro w _ H))
 go_wp2_with fail
 refine (z5o x30 A n c w.heap.size src w (Rd.sat hr (Qab _) H.sat) (Qab _) hn hnc hcm h63 toks HT.out).mono ?_;rintro e w1 ⟨vt,rfl,hrt,hb1⟩;obtain ⟨At,ct,ust,rfl,hnt,hct,_,_⟩:=y0k hrt;obtain ⟨K1,hle1,H1,hdt⟩:=H.fresh1 hb1 hrt;clear H hrt hb1
 go_wp2_with fail
 refine (hgram w1).mono ?_;rintro e w2 ⟨vg,rfl,hrg,hb2⟩;obtain ⟨Ag,cg,usg,rfl,_,_,_,_⟩:=y0k hrg;have H2:=H1.below hb2;clear H1 hb2
 go_wp2_with fail
 refine (z89 w2.heap.size linesG Ag 52 cg w2 hrg (Qab _) x33 (by decide)).mono ?_;rintro e w3 ⟨vr,rfl,hrr,hb3⟩;rw [x32,show linesG.length=rulesG.length from rfl] at hrr;obtain ⟨Ar,cr,usr,rfl,_,_,_,_⟩:=y0k hrr;have H3:=H2.below hb3;clear H2 hb3 hrg;have hcall:=x9k w3.heap.size rulesG Ar At rulesG.length cr toks.length ct [68,79,67] toks 200 nf bf fr (0,0,0) w3 hrr (RD.lo hdt H3) (Qab _) (by omega) (by omega) hfr HRUN.out;clear hrr
 go_wp2_with fail
 refine hcall.mono ?_;rintro e w4 ⟨rfl,hb4⟩;have H:=H3.below hb4;clear hcall H3 hb4 hgram HRUN HT;obtain ⟨nt,hnt2⟩: ∃x,toks.length=x:=⟨_,rfl⟩;have R:Tk K1 At nt ct toks:=⟨by rw [←hnt2];exact hdt,hnt2,by omega⟩;rw [hnt2] at hnl ⊢;clear hdt hnt2 hnt hct
 go_wp2_with (first|(refine oL H ?_)|(refine oA 34 H ?_;clear H;intro w g H)|(refine oP H ?_;clear H;intro w _ H))
 replace H:Hp _ _ _ (rdE g _ _ _ _:: .box gz _ _::M):=H.fin;replace H:=H.nilRow 43 17
 go_loopg [10] L (fun fu v wr=>∃(K':World) (k:Nat) (done:List DefD) (A':Option Addr) (c':Nat) (vs:List Value),fu≤L∧v= .slice A' done.length c'∧done.length+fu=L∧Hid (∃l,y1f toks L f fu k=some l∧defs=done++l)∧Sat K' K1∧RL K' (y0r done) vs∧
  Hp w0 wr K' (.row 43 17 (.slice A' done.length c') done.length vs::rdE g At nt ct k:: .box gz [.int .i64 0,.slice none 0 0,.slice none 0 0] 83::M))
 case atStart=>exact ⟨K1,0,[],none,0,[],Qab _,rfl,Nat.zero_add _,⟨defs,HD.out,rfl⟩,Sat.refl _,.nil (Qab _),H⟩
 case round=>
  clear H;obtain ⟨K',k,done,A',c',vs,hfu,rfl,hdl,hl,hle,hvs,H⟩:=hrel;replace R:=R.sat hle;obtain ⟨l,hl,hrl⟩:=hl.out
  cases gk with
  |zero=>cases hl
  |succ fu=>
  unfold y1f at hl;simp only [Qag] at hl;obtain ⟨t,ht,hl⟩:=hl;obtain ⟨ad,rfl,hat,hk,hkI,hn3,hwr⟩:=x9t H R ht;obtain ⟨kd,line,col,start,stop,text,value⟩:=t;dsimp only at hl;split at hl
  ·rename_i hk0;subst hk0;injection hl with hl;subst hl;rw [List.append_nil] at hrl;subst hrl;clear ht
   go_wp2_with fail
   refine rB [] H ?_;clear H;intro w H;refine rT 0 H ?_;refine rT 1 H ?_;refine rT 2 H ?_;refine rT 3 H ?_;refine rT 4 H ?_;refine rT 5 H ?_;refine rT 6 H ?_;refine rT 7 H ?_;refine rT 8 H ?_;refine rT 9 H ?_;refine rT 10 H ?_;refine rT 11 H ?_;refine rE ?_
   go_wp2_with (first|(refine oL H ?_)|(refine oP H ?_;clear H;intro w _ H))
   refine oB3 H ?_;replace H:Hp _ _ _ (.row 43 17 _ _ _::M):=H.fin;obtain ⟨K2,hle2,H,hd⟩:=H.freezeRow hvs;exact ⟨K2,_,_,rfl,hle2.trans (hle.trans hle1),H,hd⟩
  ·rename_i hk0;simp only [Qag] at hl;obtain ⟨⟨d,k9⟩,hq,r2,hr2,hl⟩:=hl;injection hl with hl;have HNX:Hid (∃l,y1f toks L f fu k9=some l∧defs=(done++[d])++l):=⟨r2,hr2,by rw [hrl,←hl];simp⟩;have hc:=fun {w M} (h:Hp w0 w K' (rdE g (some ad) nt ct k::M))=>def_hp hL R h hq
   have hb0:((kd:Int) !=0)=true:=by simpa using hk0
   clear hl hr2 hrl hq hk0 ht
   go_wp2_with fail
   refine rB [] H ?_;clear H;intro w H;refine rT 0 H ?_;refine rT 1 H ?_;refine rT 2 H ?_;refine rT 3 H ?_;refine rT 4 H ?_;refine rT 5 H ?_;refine rT 6 H ?_;refine rT 7 H ?_;refine rT 8 H ?_;refine rT 9 H ?_;refine rT 10 H ?_;refine rT 11 H ?_;refine rE ?_
   go_wp2_with (first|(refine oL H ?_)|(refine oP H ?_;clear H;intro w _ H)|((with_reducible refine (hc H.up).mono ?_);clear H;rintro e w ⟨K2,cs,rfl,hle2,H,he⟩;obtain ⟨A6,c6,A7,c7,A8,c8,A9,c9,A10,c10,A11,c11,A12,c12,A14,c14,hcs,-⟩:=y0h he;obtain rfl:cs= #[_,_,_,_,_,_,_,_,_,_,_,_,_,_,_,_,_]:=Qal.1 hcs;clear hcs)|(refine oQ H ?_;clear H;intro A' c' w _ _ H;dsimp only [List.set] at H))
   go_roundg fu
   case rel=>exact ⟨K2,k9,done++[d],_,_,_,by omega,by rw [Qae];rfl,by rw [Qae,Qbj];omega,HNX,hle2.trans hle,by rw [x9n];exact (hvs.sat hle2).app (y89 (f:=defL) he),by rw [Qae];exact H.fin⟩
   case measure=>omega
theorem z5w {P:Program} (w:World) (src dst e:TypeId) {u:TypeDesc} (l:Txt) (hs:P.underlying src=some u) (hd:P.underlying dst=some (.slice e)) (he:P.underlying e=some (.int .u8)) (hl:l.length≤maxLen):
  ∃c w1,(convert src dst (.string (str l))).run P w= .ok (.slice (some ⟨w.heap.size,0,none⟩) l.length c) w1∧Below w.heap.size w w1∧l.length≤c∧c≤maxLen∧Rd w1 (w.heap.size+1) (some ⟨w.heap.size,0,none⟩) (Lib.byteCells l)∧w1.heap.size=w.heap.size+1:=by
 refine ⟨_,_,?_,?_,grownCap_ge w l.length 0 e,grownCap_le_maxLen w l.length 0 e hl,?_,Lib.bytesWorld_size w e (str l)⟩
 ·rw [Lib.run_convert_string_bytes w src dst e (str l) hs hd he,y17]
 ·exact ⟨rfl,rfl,rfl,by rw [Lib.bytesWorld_size];omega,fun k hk=>Lib.bytesWorld_at_old w e (str l) k hk⟩
 ·intro _;refine ⟨_,rfl,Qaw _,fun j u hj=>?_⟩
  have hjl:j<l.length:=by
   have:=(Qac.1 hj).1;rwa [Lib.byteCells_length] at this
  have:=Lib.bytesWorld_cell w e (str l) j (by rw [y17];exact hjl)
  have e1:(⟨w.heap.size,0,none⟩:Addr).add j=⟨w.heap.size,j,none⟩:=by unfold Addr.add;by_cases h:j=0<;>simp [h]
  rw [e1,this];simp only [Lib.byteCells,Qbz,Qad hjl,Option.map_some,Option.some.injEq] at hj;rw [←hj,str_data];simp [List.getD,hjl]
def z7c (src:Txt) (defs:List DefD):Prop:=src.length≤2200000∧ ∃toks nf bf fr L f,y1n src=some toks∧toks.length≤3000000∧fr≤1000000000∧runF rulesG nf bf toks 200 fr [[68,79,67]] 0 0=some (0,0,0)∧L≤3000000∧y1f toks L f L 0=some defs
theorem x96 (H:Hp w0 w K M) {src:Txt} {s:ByteArray} {defs:List DefD} (hp:z7c src defs) (hs:str src=s:=by with_unfolding_all rfl):
  Calls Tryz.prog 13 #[.string s] w fun e w'=>∃K' A' c',e= .returned (.slice A' defs.length c')∧Sat K' K∧Hp w0 w' K' M∧RD K' (.list defs.length (y0r defs)) (.slice A' defs.length c'):=by
 subst hs;obtain ⟨hlen,toks,nf,bf,fr,L,f,ht,hnl,hfr,hrun,hL,hdefs⟩:=hp;obtain ⟨cb,w1,hrunc,hb1,hc1,hc2,hrd,hs1⟩:=z5w (P:=Tryz.prog) w 9 86 5 src Tryz.underlying9 Tryz.underlying86 Tryz.underlying5 (by simp only [maxLen];omega);obtain ⟨K1,hle1,H1,hk,-⟩:=H.fresh hb1
 have hr1:Rd K1 K1.heap.size (some ⟨w.heap.size,0,none⟩) (Lib.byteCells src):=fun hn=>by
  obtain ⟨ad,e,hb,hc⟩:=hrd hn;injection e with e;subst e;have h0:=hk w.heap.size (Qab _)
  have hlt:w.heap.size<w1.heap.size:=by omega
  refine ⟨_,rfl,?_,fun j u hu=>?_⟩
  ·rw [Qbq hlt] at h0;exact (Qan.1 h0).1
  ·have:=hc j u hu
   have e1:(⟨w.heap.size,0,none⟩:Addr).add j=⟨w.heap.size,j,none⟩:=by unfold Addr.add;by_cases h:j=0<;>simp [h]
   rw [e1] at this ⊢;exact (World.cell?_of_block h0).trans this
 have hcall:=q40 H1 hr1 rfl hc1 hc2 hlen ht hnl hfr hrun hL hdefs;clear ht hrun hdefs hk hr1 hrd H H1;go_enter Tryz.func13,Tryz.ntmps13
 go_wp2_with (first|(refine hcall.mono ?_;rintro e w ⟨K2,A',c',rfl,hle2,H,hd⟩)|(refine oL H ?_)|(refine oP H ?_;clear H;intro w _ H))
 go_ret;exact ⟨K2,A',c',rfl,hle2.trans hle1,H.fin,hd⟩
end
end Go.Proofs.YtbpgkkoeehopjaaGreat.hp
